/- A part of the proof of the laws of layer 32: abstract values and contracts of functions; no statement of its own. -/
import Derived.Test.YtobhdinkckckhaaGreatA4
import Derived.ProofKit
import Derived.SizedLaws
import Derived.Carry
import Derived.OpenShut
import Derived.Test.YtobhdinkckckhaaGreatA10
import Derived.Test.YtobhdinkckckhaaGreatRows
set_option linter.unusedSimpArgs false
set_option linter.unusedVariables false
set_option linter.unusedVariables false
namespace Go.Am
open Go.RowKit Go.WideShapes Go.ChangeShapes
/-- the cells that the call found -/
def oldR (w : World) : CSet := fun b _ => b < w.heap.size
section
variable (P : Program)
def layB : List Field → Nat → Nat → Bool
  | [], o, tot => o == tot
  | f :: fs, o, tot => f.offset == o && layB fs (o + P.cellsOf f.type) tot
def plainT : Nat → TypeId → Bool
  | 0, _ => false
  | d + 1, t => match P.underlying t with
    | some .bool | some (.int _) | some .string => true
    | some (.slice e) => decide (0 < P.cellsOf e) && plainT d e
    | some (.array n e) => decide (P.cellsOf t = n * P.cellsOf e) && plainT d e
    | some (.struct fs) => layB P fs.toList 0 (P.cellsOf t) && fs.toList.all fun f => plainT d f.type
    | _ => false
def each (q : TypeId → AV → Prop) : List TypeId → List AV → Prop
  | [], vs => vs = []
  | t :: ts, vs => ∃ v vs', vs = v :: vs' ∧ q t v ∧ each q ts vs'
def isT : Nat → TypeId → AV → Prop
  | 0, _, _ => False
  | d + 1, t, v => match P.underlying t with
    | some .bool => ∃ b, v = .bool b
    | some (.int k) => ∃ m, v = .int k m ∧ k.min ≤ m ∧ m ≤ k.max
    | some .string => ∃ s, v = .str s ∧ s.length ≤ 140737488351232
    | some (.slice e) => ∃ xs, v = .list xs ∧ xs.length * P.bytesOf e ≤ 140737488351232 ∧ ∀ x, x ∈ xs → isT d e x
    | some (.array n e) => ∃ xs, v = .agg xs ∧ xs.length = n ∧ ∀ x, x ∈ xs → isT d e x
    | some (.struct fs) => ∃ vs, v = .agg vs ∧ each (isT d) (fs.toList.map (·.type)) vs
    | _ => False
end
section
variable {H : Type} {enc : TypeId × Value → H} {P : Program} {w : World} {base : Nat} {sp : Nat → Bool} {held : Bool}
def small (l : List Nat) : Prop := ∀ m, m ∈ l → m ≤ 140737488351232
theorem small_app {l m : List Nat} (h : small (l ++ m)) : small l ∧ small m := ⟨fun x hx => h x (List.mem_append_left _ hx), fun x hx => h x (List.mem_append_right _ hx)⟩
theorem wAll_cons (P : Program) (e : TypeId) (d : DataW H) (r : List (DataW H)) : DataW.weightsAll P e (d :: r) = d.weights P e ++ DataW.weightsAll P e r := by simp only [DataW.weightsAll]
theorem small_all {e : TypeId} : ∀ {ds : List (DataW H)}, small (DataW.weightsAll P e ds) → ∀ d, d ∈ ds → small (d.weights P e)
  | [], _, d, hd => by cases hd
  | y :: ds, h, d, hd => by
    rw [wAll_cons] at h
    cases hd with
    | head => exact (small_app h).1
    | tail _ hm => exact small_all (small_app h).2 d hm
theorem Rep.list_nil {R : CSet} : Rep R w (.list []) [.slice none 0 0] := by
  simp only [Rep]
  exact ⟨none, 0, rfl, Nat.le_refl _, 1, [], by simp only [RepE], .inl trivial⟩
theorem RepE.one' {R : CSet} {sz : Nat} {v : AV} {c : List Value} (h : Rep R w v c) (hl : c.length = sz) : RepE R w sz [v] c := by
  simp only [RepE]
  exact ⟨c, [], by simp, hl, h, rfl⟩
theorem add_none {b o n : Nat} : (Addr.add ⟨b, o, none⟩ n) = ⟨b, o + n, none⟩ := by
  unfold Addr.add
  split
  · rename_i h; subst h; rfl
  · rfl
theorem rep_trod : ∀ (d n : Nat) (t : TypeId) (cs : List Value) (x : DataW H × List MemPlace), DataW.trod enc P w base sp held n t cs = some x → small (x.1.weights P t) → plainT P d t = true →
    ∃ v, isT P d t v ∧ Rep (oldR w) w v cs
  | 0, n, t, cs, x, h, hs, hp => by simp [plainT] at hp
  | d + 1, n, t, cs, x, h, hs, hp => by
    unfold plainT at hp
    split at hp
    · rename_i hu
      obtain ⟨b, rfl, _⟩ := DataW.trod_bool hu h
      simp only [isT, hu]
      exact ⟨.bool b, ⟨b, rfl⟩, by simp only [Rep]⟩
    · rename_i k hu
      obtain ⟨m, rfl, _, hw⟩ := DataW.trod_int hu h
      simp only [isT, hu]
      refine ⟨.int k m, ⟨m, rfl, ?_⟩, by simp only [Rep]⟩
      simpa [Lit.wf] using hw
    · rename_i hu
      obtain ⟨s, rfl, hx, _⟩ := DataW.trod_string hu h
      simp only [isT, hu]
      refine ⟨.str s.data.toList, ⟨_, rfl, ?_⟩, by simp only [Rep]⟩
      rw [hx] at hs
      exact hs _ (by simp [DataW.weights])
    · rename_i e hu
      simp only [Bool.and_eq_true, decide_eq_true_eq] at hp
      simp only [isT, hu]
      rcases DataW.trod_slice hu h with ⟨rfl, _⟩ | ⟨a, len, cap, elems, rest, n', hn, rfl, rfl, hb, hlc, hcap, hlen, hel, _, _⟩
      · exact ⟨.list [], ⟨[], rfl, by simp, (fun x hx => nomatch hx)⟩, Rep.list_nil⟩
      · have hw1 : small (((elems.map (·.1)).length + (rest.map (·.1)).length) * P.bytesOf e :: (DataW.weightsAll P e (elems.map (·.1)) ++ DataW.weightsAll P e (rest.map (·.1)))) := by
          simpa only [DataW.weights, hu] using hs
        have hw2 := small_all (small_app fun m hm => hw1 m (List.mem_cons_of_mem _ hm)).1
        have hw3 := hw1 _ (List.mem_cons_self ..)
        have get : ∀ i, i < len → ∃ c y, w.cells? base (a.add (i * P.cellsOf e)) (P.cellsOf e) = some c ∧ c.length = P.cellsOf e ∧ DataW.trod enc P w base sp held n' e c = some y ∧ y ∈ elems := by
          intro i hi
          have hy : elems[i]? = some elems[i] := List.getElem?_eq_getElem (by omega)
          have := hel i hi
          rw [hy, Option.bind_eq_some_iff] at this
          obtain ⟨c, h1, h2⟩ := this
          exact ⟨c, _, h1, (World.cells?_some h1).2.1, h2, List.mem_of_getElem? hy⟩
        by_cases h0 : len = 0
        · subst h0
          refine ⟨.list [], ⟨[], rfl, by simp, (fun x hx => nomatch hx)⟩, ?_⟩
          simp only [Rep]
          exact ⟨some a, cap, rfl, Nat.zero_le _, 1, [], by simp only [RepE], .inl trivial⟩
        · have hspot : a.spot = none := by
            obtain ⟨c, y, h1, h2, _, _⟩ := get 0 (by omega)
            have := (World.cells?_some h1).2.2 0 hp.1
            rw [Nat.zero_mul, List.getElem?_eq_getElem (by omega : 0 < c.length)] at this
            have hz : ∀ q : Addr, q.add 0 = q := fun q => by unfold Addr.add; rfl
            rw [hz, hz] at this
            exact World.cell?_spot this
          obtain ⟨b, o, spt⟩ := a
          simp only at hspot
          subst hspot
          have key : ∀ k, k ≤ len → ∃ xs cells, xs.length = k ∧ (∀ x, x ∈ xs → isT P d e x) ∧ RepE (oldR w) w (P.cellsOf e) xs cells ∧ ∀ i, i < k * P.cellsOf e → w.cell? ⟨b, o + i, none⟩ = cells[i]? := by
            intro k
            induction k with
            | zero => intro _; exact ⟨[], [], rfl, (fun x hx => nomatch hx), by simp only [RepE], fun i hi => by simp at hi⟩
            | succ k ih =>
              intro hk
              obtain ⟨xs, cells, i1, i2, i3, i4⟩ := ih (by omega)
              obtain ⟨c, y, h1, h2, h3, h4⟩ := get k (by omega)
              obtain ⟨v, hv1, hv2⟩ := rep_trod d n' e c y h3 (hw2 y.1 (List.mem_map.2 ⟨y, h4, rfl⟩)) hp.2
              have hcl := RepE.len i3
              refine ⟨xs ++ [v], cells ++ c, by simp [i1], ?_, RepE.append i3 (RepE.one' hv2 h2), ?_⟩
              · intro x hx
                rcases List.mem_append.1 hx with hx | hx
                · exact i2 x hx
                · rw [List.mem_singleton] at hx; subst hx; exact hv1
              · intro i hi
                rw [Nat.succ_mul] at hi
                by_cases hik : i < k * P.cellsOf e
                · rw [i4 i hik, List.getElem?_append_left (by rw [hcl, i1]; exact hik)]
                · have := (World.cells?_some h1).2.2 (i - k * P.cellsOf e) (by omega)
                  rw [add_none, add_none] at this
                  rw [List.getElem?_append_right (by rw [hcl, i1]; omega), hcl, i1, ← this]
                  congr 2
                  omega
          obtain ⟨xs, cells, i1, i2, i3, i4⟩ := key len (Nat.le_refl _)
          have hcl := RepE.len i3
          refine ⟨.list xs, ⟨xs, rfl, ?_, i2⟩, ?_⟩
          · refine Nat.le_trans (Nat.mul_le_mul_right _ ?_) hw3
            rw [List.length_map, hlen, i1]
            exact Nat.le_add_right _ _
          · simp only [Rep]
            refine ⟨some ⟨b, o, none⟩, cap, by rw [i1], by rw [i1]; exact hlc, P.cellsOf e, cells, i3, .inr ⟨b, o, rfl, ?_⟩⟩
            intro i v hv
            have hi : i < cells.length := (List.getElem?_eq_some_iff.1 hv).1
            rw [hcl, i1] at hi
            have hc := i4 i hi
            rw [hv] at hc
            refine ⟨hc, ?_⟩
            show b < w.heap.size
            unfold World.cell? at hc
            cases hh : w.heap[b]? with
            | none => simp [hh] at hc
            | some ob => exact (Array.getElem?_eq_some_iff.1 hh).1
    · rename_i m e hu
      simp only [Bool.and_eq_true, decide_eq_true_eq] at hp
      simp only [isT, hu]
      obtain ⟨xs, n', hn, rfl, hcl, hxl, hel⟩ := DataW.trod_array hu h
      have hw1 : small (DataW.weightsAll P e (xs.map (·.1))) := by simpa only [DataW.weights, hu] using hs
      have hw2 := small_all hw1
      have key : ∀ k, k ≤ m → ∃ vs, vs.length = k ∧ (∀ x, x ∈ vs → isT P d e x) ∧ RepL (oldR w) w vs (cs.take (k * P.cellsOf e)) := by
        intro k
        induction k with
        | zero => intro _; exact ⟨[], rfl, (fun x hx => nomatch hx), by simp only [RepL]; simp⟩
        | succ k ih =>
          intro hk
          obtain ⟨vs, i1, i2, i3⟩ := ih (by omega)
          have hy : xs[k]? = some xs[k] := List.getElem?_eq_getElem (by omega)
          have h3 := hel k (by omega)
          rw [hy] at h3
          obtain ⟨v, hv1, hv2⟩ := rep_trod d n' e _ _ h3 (hw2 _ (List.mem_map.2 ⟨xs[k], List.mem_of_getElem? hy, rfl⟩)) hp.2
          refine ⟨vs ++ [v], by simp [i1], ?_, ?_⟩
          · intro x hx
            rcases List.mem_append.1 hx with hx | hx
            · exact i2 x hx
            · rw [List.mem_singleton] at hx; subst hx; exact hv1
          · rw [Nat.succ_mul, List.take_add]
            have app : ∀ {vs us : List AV} {cs ds : List Value}, RepL (oldR w) w vs cs → RepL (oldR w) w us ds → RepL (oldR w) w (vs ++ us) (cs ++ ds) := by
              intro vs
              induction vs with
              | nil => intro us cs ds h1 h2; simp only [RepL] at h1; subst h1; exact h2
              | cons v vs ih2 =>
                intro us cs ds h1 h2
                simp only [RepL] at h1
                obtain ⟨c1, c2, rfl, h3, h4⟩ := h1
                simp only [List.cons_append, RepL]
                exact ⟨c1, c2 ++ ds, by rw [List.append_assoc], h3, ih2 h4 h2⟩
            refine app i3 ?_
            simp only [RepL]
            exact ⟨_, [], by simp, hv2, rfl⟩
      obtain ⟨vs, i1, i2, i3⟩ := key m (Nat.le_refl _)
      refine ⟨.agg vs, ⟨vs, rfl, i1, i2⟩, ?_⟩
      simp only [Rep]
      rw [← hp.1, ← hcl, List.take_length] at i3
      exact i3
    · rename_i fs hu
      simp only [Bool.and_eq_true] at hp
      simp only [isT, hu]
      obtain ⟨xs, n', hn, rfl, hcl, hxl, hel⟩ := DataW.trod_struct hu h
      have hw1 : small (DataW.weightsEach P (fs.toList.map (·.type)) (xs.map (·.1))) := by simpa only [DataW.weights, hu] using hs
      have hel' : ∀ (i : Nat) (f : Field), fs.toList[i]? = some f → DataW.trod enc P w base sp held n' f.type ((cs.drop f.offset).take (P.cellsOf f.type)) = xs[i]? := fun i f hf => hel i f (by simpa using hf)
      have hxl' : xs.length = fs.toList.length := by simpa using hxl
      have hall := List.all_eq_true.1 hp.2
      have key : ∀ (fl : List Field) (ys : List (DataW H × List MemPlace)) (o : Nat), layB P fl o (P.cellsOf t) = true → ys.length = fl.length → (∀ f, f ∈ fl → plainT P d f.type = true) → small (DataW.weightsEach P (fl.map (·.type)) (ys.map (·.1))) →
          (∀ (i : Nat) (f : Field), fl[i]? = some f → DataW.trod enc P w base sp held n' f.type ((cs.drop f.offset).take (P.cellsOf f.type)) = ys[i]?) →
          ∃ vs, each (isT P d) (fl.map (·.type)) vs ∧ RepL (oldR w) w vs (cs.drop o) := by
        intro fl
        induction fl with
        | nil =>
          intro ys o hl _ _ _ _
          refine ⟨[], rfl, ?_⟩
          have : o = P.cellsOf t := by simpa [layB] using hl
          simp only [RepL]
          rw [List.drop_eq_nil_iff]; omega
        | cons f fl ih =>
          intro ys o hl hyl hpl hsw hr
          match ys, hyl with
          | y :: ys, hyl =>
            simp only [layB, Bool.and_eq_true, beq_iff_eq] at hl
            have hsw' : small (y.1.weights P f.type ++ DataW.weightsEach P (fl.map (·.type)) (ys.map (·.1))) := by simpa only [List.map_cons, DataW.weightsEach] using hsw
            have h3 : DataW.trod enc P w base sp held n' f.type ((cs.drop f.offset).take (P.cellsOf f.type)) = some y := hr 0 f rfl
            obtain ⟨v, hv1, hv2⟩ := rep_trod d n' f.type _ y h3 (small_app hsw').1 (hpl f (List.mem_cons_self ..))
            obtain ⟨vs, k1, k2⟩ := ih ys (o + P.cellsOf f.type) hl.2 (by simpa using hyl) (fun g hg => hpl g (List.mem_cons_of_mem _ hg)) (small_app hsw').2 (fun i g hg => hr (i + 1) g hg)
            refine ⟨v :: vs, ⟨v, vs, rfl, hv1, k1⟩, ?_⟩
            simp only [RepL]
            refine ⟨_, _, ?_, hv2, k2⟩
            rw [hl.1, ← List.drop_drop, List.take_append_drop]
      obtain ⟨vs, k1, k2⟩ := key fs.toList xs 0 hp.1 hxl' hall hw1 hel'
      refine ⟨.agg vs, ⟨vs, rfl, k1⟩, ?_⟩
      simp only [Rep]
      exact k2
    · cases hp
end
end Go.Am
set_option linter.unusedVariables false
namespace Go.Am
open Go.RowKit Go.WideShapes Go.ChangeShapes
section
variable {H : Type} {enc : TypeId × Value → H} {P : Program}
theorem trodAll_stays (hl : laidOutB P = true) {W W' : World} {sp' : Nat → Bool} : ∀ {ts : List TypeId} {vs : List Value} {ds : List (DataW H)} {ps : List MemPlace}, (∀ t, t ∈ ts → P.readableRec t = true ∧ t < P.types.size) →
    DataW.TrodAll enc P W 0 (fun _ => true) true ts vs ds ps → (∀ p ∈ ps, W.sameAt W' p) → (∀ p ∈ ps, sp' p.block = true) → DataW.TrodAll enc P W' 0 sp' true ts vs ds ps
  | [], [], [], ps, _, h, _, _ => h
  | t :: ts, v :: vs, d :: ds, ps, hr, h, h1, h2 => by
    obtain ⟨p, q, k1, k2, rfl⟩ := h
    have hr0 := hr t (List.mem_cons_self ..)
    exact ⟨p, q, Go.WideElems.Trod_stays hl hr0.1 hr0.2 k1 (fun x hx => h1 x (List.mem_append_left _ hx)) (fun x hx => h2 x (List.mem_append_left _ hx)),
      trodAll_stays hl (fun u hu => hr u (List.mem_cons_of_mem _ hu)) k2 (fun x hx => h1 x (List.mem_append_right _ hx)) (fun x hx => h2 x (List.mem_append_right _ hx)), rfl⟩
  | [], _ :: _, _, _, _, h, _, _ => h.elim
  | [], [], _ :: _, _, _, h, _, _ => h.elim
  | _ :: _, [], _, _, _, h, _, _ => h.elim
  | _ :: _, _ :: _, [], _, _, h, _, _ => h.elim
theorem post_of_below {f : Func} {s : ChangeSpec} {apart fresh handsOn again : Bool} {W W' : World} {args : Array Value} {v : Value} {ds gs : List (DataW H)} {before pa pv : List MemPlace}
    (hW : DataW.Whole enc P f.params.toList s.vars apart W args.toList ds gs before)
    (hres : ∀ (b : Nat) (sp : Nat → Bool) (hd : Bool), DataW.TrodAll enc P W' b sp hd f.resultTypes.toList (v.resultList f.resultTypes.size) (s.fn H (ds ++ gs)).results [])
    (hargs : ∀ sp : Nat → Bool, (∀ p ∈ before, sp p.block = true) → DataW.TrodAll enc P W' 0 sp true f.params.toList args.toList (s.fn H (ds ++ gs)).args pa)
    (hvars : ∀ sp : Nat → Bool, (∀ p ∈ before, sp p.block = true) → DataW.TrodVars enc P W' sp s.vars (s.fn H (ds ++ gs)).vars pv)
    (hps : before = pa ++ pv) (hb : Below W.heap.size W W')
    (hok : ∀ (j : Nat) (t : TypeId) (r : Value), f.resultTypes[j]? = some t → (v.resultList f.resultTypes.size)[j]? = some r → Value.okWide P W' .any 0 t r) :
    s.post enc P f apart fresh handsOn again W args v W' := by
  have hlt : ∀ p ∈ before, p.block < W.heap.size := fun p hp => hW.lt p hp
  have hold : ∀ p ∈ before, (fun b => decide (b < W.heap.size)) p.block = true := fun p hp => by simpa using hlt p hp
  refine ⟨ds, gs, before, [], pa, pv, hW, hres _ _ _, hargs _ hold, hvars _ hold, World.keptBut_mono (fun p hp => ⟨hp, ?_⟩) (hb.frame (· ∈ before)), fun _ => ?_⟩
  · rw [hps, List.mem_append] at hp
    exact Or.inr hp
  · obtain ⟨_, _, _, _, _, hz, hn⟩ := hW
    refine ⟨hok, _, _, ([] ++ pa) ++ pv, ⟨[] ++ pa, pv, trodAll_append (hargs _ (fun _ _ => rfl)) (hres _ _ _), hvars _ (fun _ _ => rfl), rfl, ?_, ?_⟩, ?_⟩
    · intro b off hp
      have hin : MemPlace.cell b off ∈ before := by rw [hps]; simpa using hp
      rw [hb.frozen (hlt _ hin)]
      exact hz b off hin
    · intro ha
      have := hn ha
      rw [hps] at this
      simpa using this
    · intro p hp _
      rw [hps]
      simpa using hp
theorem law_post (hl : laidOutB P = true) {f : Func} {s : ChangeSpec} {W W' : World} {args : Array Value} {ds gs : List (DataW H)} {before : List MemPlace} {tb : TypeId}
    (hW : DataW.Whole enc P f.params.toList s.vars false W args.toList ds gs before) (hv : s.vars = []) (hr : f.resultTypes = #[tb]) (htb : P.underlying tb = some .bool)
    (hp : ∀ t, t ∈ f.params.toList → P.readableRec t = true ∧ t < P.types.size) (hs : s.fn H ds = { results := [.lit (.bool true)], args := ds }) (hb : Below W.heap.size W W') :
    s.post enc P f false true false false W args (.bool true) W' := by
  obtain ⟨p, q, hA, hV, rfl, hz, hn⟩ := id hW
  have hV' := hV
  rw [hv] at hV'
  obtain ⟨rfl, rfl⟩ := trodVars_none hV'
  have hlt : ∀ x ∈ p, x.block < W.heap.size := fun x hx => hW.lt x (List.mem_append_left _ hx)
  rw [← List.append_nil ds] at hs
  refine post_of_below (pa := p) (pv := []) hW ?_ ?_ ?_ rfl hb ?_
  · intro b sp hd
    rw [hs, hr]
    exact trodAll_mk1 (shut_bool htb true)
  · intro sp hsp
    rw [hs]
    simp only [List.append_nil]
    exact trodAll_stays hl hp hA (fun x hx => hb.same (hlt x hx)) (fun x hx => hsp x (List.mem_append_left _ hx))
  · intro sp hsp
    rw [hs, hv]
    rfl
  · exact ok_one hr rfl (okWide_bool_mk htb true)
theorem agg_ok {d : Nat} {t : TypeId} {v : AV} {u : Value} {W : World} {base : Nat} (hp : plainT P d t = true) (hv : isT P d t v) (ho : Value.okWide P W .any base t u) : aggA v = aggV u := by
  cases d with
  | zero => simp [plainT] at hp
  | succ d =>
    unfold plainT at hp
    unfold isT at hv
    unfold Value.okWide at ho
    split at hp
    · rename_i hu
      simp only [hu] at hv ho
      obtain ⟨b, rfl⟩ := hv
      cases u <;> simp [aggA, aggV]
      simp [Cell.okWide, hu, Cell.ok] at ho
    · rename_i k hu
      simp only [hu] at hv ho
      obtain ⟨b, rfl, _⟩ := hv
      cases u <;> simp [aggA, aggV]
      simp [Cell.okWide, hu, Cell.ok] at ho
    · rename_i hu
      simp only [hu] at hv ho
      obtain ⟨b, rfl, _⟩ := hv
      cases u <;> simp [aggA, aggV]
      simp [Cell.okWide, hu, Cell.ok] at ho
    · rename_i e hu
      simp only [hu] at hv ho
      obtain ⟨b, rfl, _⟩ := hv
      cases u <;> simp [aggA, aggV]
      simp [Cell.okWide, hu, Cell.ok] at ho
    · rename_i n e hu
      simp only [hu] at hv ho
      obtain ⟨b, rfl, _⟩ := hv
      obtain ⟨cs, rfl, _⟩ := ho
      rfl
    · rename_i fs hu
      simp only [hu] at hv ho
      obtain ⟨b, rfl, _⟩ := hv
      obtain ⟨cs, rfl, _⟩ := ho
      rfl
    · cases hp
theorem rep_all (d : Nat) {W : World} {base : Nat} : ∀ {ts : List TypeId} {us : List Value} {ds : List (DataW H)} {ps : List MemPlace}, DataW.TrodAll enc P W 0 (fun _ => true) true ts us ds ps →
    small (DataW.weightsEach P ts ds) → (∀ t, t ∈ ts → plainT P d t = true) → (∀ (j : Nat) t v, ts[j]? = some t → us[j]? = some v → Value.okWide P W .any base t v) →
    ∃ vs, each (isT P d) ts vs ∧ RepVs (oldR W) W vs us
  | [], [], [], ps, _, _, _, _ => ⟨[], rfl, by simp only [RepVs]⟩
  | t :: ts, u :: us, x :: ds, ps, h, hs, hp, ho => by
    obtain ⟨p, q, ⟨n, k1⟩, k2, rfl⟩ := h
    have hs' : small (x.weights P t ++ DataW.weightsEach P ts ds) := by simpa only [DataW.weightsEach] using hs
    obtain ⟨v, h1, h2⟩ := rep_trod d n t _ _ k1 (small_app hs').1 (hp t (List.mem_cons_self ..))
    obtain ⟨vs, h3, h4⟩ := rep_all d k2 (small_app hs').2 (fun u hu => hp u (List.mem_cons_of_mem _ hu)) (fun j t v ht hv => ho (j + 1) t v ht hv)
    refine ⟨v :: vs, ⟨v, vs, rfl, h1, h3⟩, ?_⟩
    simp only [RepVs]
    exact ⟨u, us, rfl, .inr ⟨h2, agg_ok (hp t (List.mem_cons_self ..)) h1 (ho 0 t u rfl rfl)⟩, h4⟩
  | [], _ :: _, _, _, h, _, _, _ => h.elim
  | [], [], _ :: _, _, h, _, _, _ => h.elim
  | _ :: _, [], _, _, h, _, _, _ => h.elim
  | _ :: _, _ :: _, [], _, h, _, _, _ => h.elim
theorem law_calls {f : FuncId} {fn : Func} {c : Code} {args : List AV} {cargs : Array Value} {W : World} (hf : P.funcs[f]? = some fn) (hbody : fn.body = some c) (hname : (fn.name == "runtime.NumGoroutine") = false)
    (h : FnG P f args [] (.val (.bool true))) (hr : RepVs (oldR W) W args cargs.toList) : Calls P f cargs W fun e W' => e = .returned (.bool true) ∧ Below W.heap.size W W' := by
  have hw : WfH P (oldR W) [] W := ⟨fun b o hb => hb, fun b o _ hh => hh, fun r e he => nomatch he⟩
  have := h W (oldR W) 0 cargs hw ⟨0, Nat.le_refl _, fun n hn => (hn rfl).elim⟩ (fun n hn => (hn rfl).elim) hr
  have hcall : (callFunc f cargs).run P W = .ok (.enter f cargs) W := by
    have hprog : (program).run P W = .ok P W := rfl
    unfold callFunc
    simp only [Sem.run_bind, hprog, Result.andThen_ok, hf, hname, Bool.false_eq_true, if_false, hbody, Option.isNone_some, Sem.run_pure]
  unfold CallF at this
  rw [hcall] at this
  refine Calls.mono this fun e W' hpo => ?_
  obtain ⟨v, ids, R', rfl, _, hst, hv⟩ := hpo
  constructor
  · congr 1
    rcases hv with hv | ⟨hv, ha⟩ | ⟨vs, A, h1, _⟩
    · cases hv
    · simp only [Out.val, Rep] at hv
      cases v <;> simp [Value.cells, aggA, aggV, Out.val] at hv ha
      rw [hv]
    · cases h1
  · exact ⟨hst.env.1, hst.env.2.1, hst.env.2.2, hst.size, fun k hk => (hst.others k hk rfl).1⟩
/-- the whole of a law's lifted proof, but for its witness -/
theorem law_lifted {C : Checked} {os : Os} {f : FuncId} {fn : Func} {c : Code} {s : ChangeSpec} {tb : TypeId} (d : Nat) (hl : laidOutB C.prog = true)
    (own : ownKnob C.prog.godebug = none) (started : os.Started) (noInit : C.prog.inits.idxOf? f = none) (hfn : C.prog.funcs[f]? = some fn)
    (witness : ∃ (w : World) (tape : Tape) (i : Input), w.os = os ∧ (w.forCall tape i).Shaped C.prog ∧ i.vars = [] ∧ Input.okWide C.prog (w.forCall tape i) .any w.heap.size f i ∧
      s.pre6 enc C.prog fn [] false (w.forCall tape i).memory i.args ∧ ({} : Assume).holds C.prog (lone (Frame.enter C.prog f i.args .normal) [] (w.forCall tape i)))
    (hv : s.vars = []) (hr : fn.resultTypes = #[tb]) (htb : C.prog.underlying tb = some .bool) (hbody : fn.body = some c) (hname : (fn.name == "runtime.NumGoroutine") = false)
    (hp : fn.params.toList.all (fun t => C.prog.readableRec t && decide (t < C.prog.types.size) && plainT C.prog d t) = true)
    (hs : ∀ ds : List (DataW H), ds.length = fn.params.size → s.fn H ds = { results := [.lit (.bool true)], args := ds })
    (law : ∀ vs, each (isT C.prog d) fn.params.toList vs → FnG C.prog f vs [] (.val (.bool true))) :
    ReturnsInHanded {} C os f .any (s.pre6 enc C.prog fn [] false) (s.post enc C.prog fn false true false false) := by
  refine returnsInHanded_of_change_sized own started noInit hfn witness ?_
  intro W base args ds gs before hval hW _ hsz _
  have hp' := List.all_eq_true.1 hp
  simp only [Bool.and_eq_true, decide_eq_true_eq] at hp'
  obtain ⟨p, q, hA, hV, hpq, hz, hn⟩ := id hW
  have hV' := hV
  rw [hv] at hV'
  obtain ⟨rfl, rfl⟩ := trodVars_none hV'
  have hvt : s.plain.varTypes C.prog = [] := by
    show s.vars.filterMap _ = []
    rw [hv]; rfl
  rw [hvt] at hsz
  have hsz' : small (DataW.weightsEach C.prog fn.params.toList ds) := by
    intro m hm
    rw [List.append_nil, List.append_nil] at hsz
    have := List.all_eq_true.1 hsz m hm
    exact of_decide_eq_true this
  have hlen : ∀ {ts : List TypeId} {us : List Value} {ds : List (DataW H)} {ps : List MemPlace}, DataW.TrodAll enc C.prog W 0 (fun _ => true) true ts us ds ps → ds.length = ts.length := by
    intro ts
    induction ts with
    | nil => intro us ds ps h; match us, ds, h with | [], [], _ => rfl
    | cons t ts ih => intro us ds ps h; match us, ds, h with | u :: us, d :: ds, h => obtain ⟨p, q, _, h2, _⟩ := h; simp [ih h2]
  have hdl : ds.length = fn.params.size := by rw [hlen hA, Array.length_toList]
  obtain ⟨vs, h1, h2⟩ := rep_all d hA hsz' (fun t ht => (hp' t ht).2) (fun j t v ht hv => hval j t v (by simpa using ht) (by simpa using hv))
  refine (law_calls hfn hbody hname (law vs h1) h2).mono fun e W' hc => ?_
  exact ⟨_, hc.1, law_post hl hW hv hr htb (fun t ht => (hp' t ht).1) (hs ds hdl) hc.2⟩
end
end Go.Am
set_option maxRecDepth 100000
set_option linter.unusedSimpArgs false
set_option linter.unusedVariables false
set_option maxHeartbeats 1000000
namespace Go.Am.Tryz
open Go.Proofs
/-! plain arguments, opened -/
theorem list_map {α : Type} {f : α → AV} {Q : α → Prop} : ∀ {xs : List AV}, (∀ x, x ∈ xs → ∃ a, x = f a ∧ Q a) → ∃ l : List α, xs = l.map f ∧ ∀ a, a ∈ l → Q a
  | [], _ => ⟨[], rfl, fun a ha => nomatch ha⟩
  | x :: xs, h => by
    obtain ⟨a, rfl, hq⟩ := h x (List.mem_cons_self ..)
    obtain ⟨l, rfl, hl⟩ := list_map fun y hy => h y (List.mem_cons_of_mem _ hy)
    exact ⟨a :: l, rfl, fun b hb => by cases hb with | head => exact hq | tail _ hm => exact hl b hm⟩
theorem bytes5 : Tryz.prog.bytesOf 5 = 1 := by kernel_rfl
theorem bytesV : 1 ≤ Tryz.prog.bytesOf 57 := Nat.le_of_ble_eq_true (by kernel_rfl)
theorem bytesT : 1 ≤ Tryz.prog.bytesOf 28 := Nat.le_of_ble_eq_true (by kernel_rfl)
theorem isT_byte {d : Nat} {v : AV} (h : isT Tryz.prog (d + 1) 5 v) : ∃ b : UInt8, v = byteA b := by
  simp only [isT, Tryz.underlying5] at h
  obtain ⟨m, rfl, h0, h1⟩ := h
  have h0 : 0 ≤ m := h0
  have h1 : m ≤ 255 := h1
  refine ⟨UInt8.ofNat m.toNat, ?_⟩
  simp only [byteA, AV.int.injEq, true_and, UInt8.toNat_ofNat']
  omega
theorem isT_bytes {d : Nat} {v : AV} (h : isT Tryz.prog (d + 2) 28 v) : ∃ l : List UInt8, v = .list (bys l) ∧ l.length ≤ 140737488351232 := by
  unfold isT at h
  simp only [Tryz.underlying28] at h
  obtain ⟨xs, rfl, h1, h2⟩ := h
  obtain ⟨l, rfl, _⟩ := list_map (f := byteA) (Q := fun _ => True) fun x hx => by obtain ⟨b, hb⟩ := isT_byte (h2 x hx); exact ⟨b, hb, trivial⟩
  rw [bytes5, List.length_map] at h1
  exact ⟨l, rfl, by omega⟩
theorem isT_int {d : Nat} {v : AV} (h : isT Tryz.prog (d + 1) 3 v) : ∃ n : Int, v = .int .i64 n ∧ -9223372036854775808 ≤ n ∧ n < 9223372036854775808 := by
  simp only [isT, Tryz.underlying3] at h
  obtain ⟨m, rfl, h0, h1⟩ := h
  have h0 : -9223372036854775808 ≤ m := h0
  have h1 : m ≤ 9223372036854775807 := h1
  exact ⟨m, rfl, h0, by omega⟩
theorem isT_mask {d : Nat} {v : AV} (h : isT Tryz.prog (d + 1) 51 v) : ∃ n : Int, v = .int .i64 n ∧ -9223372036854775808 ≤ n ∧ n < 9223372036854775808 := by
  simp only [isT, Tryz.underlying51] at h
  obtain ⟨m, rfl, h0, h1⟩ := h
  have h0 : -9223372036854775808 ≤ m := h0
  have h1 : m ≤ 9223372036854775807 := h1
  exact ⟨m, rfl, h0, by omega⟩
theorem isT_name {d : Nat} {v : AV} (h : isT Tryz.prog (d + 2) 53 v) : ∃ n : Nm, v = .agg (bys n.l) := by
  unfold isT at h
  simp only [Tryz.underlying53] at h
  obtain ⟨xs, rfl, h1, h2⟩ := h
  obtain ⟨l, rfl, _⟩ := list_map (f := byteA) (Q := fun _ => True) fun x hx => by obtain ⟨b, hb⟩ := isT_byte (h2 x hx); exact ⟨b, hb, trivial⟩
  rw [List.length_map] at h1
  exact ⟨⟨l, h1⟩, rfl⟩
theorem isT_vote {d : Nat} {v : AV} (h : isT Tryz.prog (d + 3) 55 v) : ∃ w : Vote, v = voteA w ∧ rngV w := by
  unfold isT at h
  simp only [Tryz.underlying55] at h
  obtain ⟨vs, rfl, h⟩ := h
  simp only [List.map_cons, List.map_nil, each] at h
  obtain ⟨v0, _, rfl, h0, v1, _, rfl, h1, v2, _, rfl, h2, v3, _, rfl, h3, v4, _, rfl, h4, v5, _, rfl, h5, v6, _, rfl, h6, v7, _, rfl, h7, rfl⟩ := h
  obtain ⟨n0, rfl, _⟩ := isT_int h0
  obtain ⟨n1, rfl, _⟩ := isT_int h1
  obtain ⟨n2, rfl, _⟩ := isT_int h2
  obtain ⟨n3, rfl, _⟩ := isT_int h3
  obtain ⟨n4, rfl, _⟩ := isT_int h4
  obtain ⟨n5, rfl, k0, k1⟩ := isT_mask h5
  obtain ⟨n6, rfl⟩ := isT_name h6
  obtain ⟨n7, rfl⟩ := isT_name h7
  exact ⟨⟨n0, n1, n2, n3, n4, n5, n6, n7⟩, rfl, k0, k1⟩
theorem isT_signed {d : Nat} {v : AV} (h : isT Tryz.prog (d + 4) 57 v) : ∃ w : Sgn, v = sgnA w ∧ rngV w.vote := by
  unfold isT at h
  simp only [Tryz.underlying57] at h
  obtain ⟨vs, rfl, h⟩ := h
  simp only [List.map_cons, List.map_nil, each] at h
  obtain ⟨v0, _, rfl, h0, v1, _, rfl, h1, rfl⟩ := h
  obtain ⟨n0, rfl, hr⟩ := isT_vote h0
  obtain ⟨n1, rfl, _⟩ := isT_bytes (d := d + 1) h1
  exact ⟨⟨n0, n1⟩, rfl, hr⟩
theorem isT_view {d : Nat} {v : AV} (h : isT Tryz.prog (d + 6) 25 v) : ∃ w : View, v = viewA w ∧ inW w := by
  unfold isT at h
  simp only [Tryz.underlying25] at h
  obtain ⟨vs, rfl, h⟩ := h
  simp only [List.map_cons, List.map_nil, each] at h
  obtain ⟨v0, _, rfl, h0, v1, _, rfl, h1, rfl⟩ := h
  unfold isT at h0 h1
  simp only [Tryz.underlying22] at h0
  simp only [Tryz.underlying23] at h1
  obtain ⟨xs, rfl, a1, a2⟩ := h0
  obtain ⟨ys, rfl, b1, b2⟩ := h1
  obtain ⟨l, rfl, hl⟩ := list_map (f := sgnA) (Q := fun s => rngV s.vote) fun x hx => isT_signed (a2 x hx)
  obtain ⟨m, rfl, hm⟩ := list_map (f := txtA) (Q := fun _ => True) fun x hx => by obtain ⟨b, hb, _⟩ := isT_bytes (d := d + 2) (b2 x hx); exact ⟨b, hb, trivial⟩
  rw [List.length_map] at a1 b1
  have c1 := Nat.mul_le_mul_left l.length bytesV
  have c2 := Nat.mul_le_mul_left m.length bytesT
  exact ⟨⟨l, m⟩, rfl, by show l.length ≤ _; omega, by show m.length ≤ _; omega, hl⟩
end Go.Am.Tryz
namespace Go.Proofs.YtobhdinkckckhaaGreat
open Go.RowKit Go.Am Go.Am.Tryz
theorem Tryz.own : ownKnob Tryz.prog.godebug = none := by kernel_rfl
theorem Tryz.laidOut : laidOutB Tryz.prog = true := by kernel_rfl
end Go.Proofs.YtobhdinkckckhaaGreat
