/- A part of the proof of the laws of layer 32: abstract values and contracts of functions; no statement of its own. -/
import Derived.Test.YtobhdinkckckhaaGreatA2
import Derived.Laws.BytesString
import Derived.Deep.LoopGhost
set_option linter.unusedSimpArgs false
set_option linter.unusedVariables false
set_option linter.unusedVariables false
namespace Go.Am
section
variable {P : Program} {tb : Nat → Option TyA} {N : Nat} {R : CSet} {H : Heap} {w : World}

theorem lkK_run {c : CT} {k : AV} : ∀ {l : List (AV × AV)} {K : Option AV → Prop}, (lkK c k l).run H K → ∃ o, idxK c k l = some o ∧ K (o.bind fun i => (l[i]?).map (·.2))
  | [], K, h => ⟨none, rfl, h⟩
  | (k', v) :: l, K, h => by
    simp only [lkK] at h
    simp only [idxK]
    cases e : eqT c k k' with
    | none => rw [e] at h; exact h.elim
    | some b =>
      rw [e] at h
      simp only [] at h ⊢
      cases b with
      | true => exact ⟨some 0, rfl, h⟩
      | false =>
        simp only [Bool.false_eq_true, if_false] at h ⊢
        obtain ⟨o, h1, h2⟩ := lkK_run h
        rw [h1]
        refine ⟨_, rfl, ?_⟩
        cases o <;> exact h2
theorem updK_run {c : CT} {k u : AV} : ∀ {l : List (AV × AV)} {K : List (AV × AV) → Prop}, (updK c k u l).run H K →
    ∃ o, idxK c k l = some o ∧ K (match o with | some i => l.modify i fun p => (p.1, u) | none => l ++ [(k, u)])
  | [], K, h => ⟨none, rfl, h⟩
  | (k', v) :: l, K, h => by
    simp only [updK] at h
    simp only [idxK]
    cases e : eqT c k k' with
    | none => rw [e] at h; exact h.elim
    | some b =>
      rw [e] at h
      simp only [] at h ⊢
      cases b with
      | true => exact ⟨some 0, rfl, h⟩
      | false =>
        simp only [Bool.false_eq_true, if_false, RM.run_bind] at h ⊢
        obtain ⟨o, h1, h2⟩ := updK_run h
        rw [h1]
        refine ⟨_, rfl, ?_⟩
        cases o <;> exact h2
theorem delK_run {c : CT} {k : AV} : ∀ {l : List (AV × AV)} {K : List (AV × AV) → Prop}, (delK c k l).run H K →
    ∃ o, idxK c k l = some o ∧ K (match o with | some i => l.eraseIdx i | none => l)
  | [], K, h => ⟨none, rfl, h⟩
  | (k', v) :: l, K, h => by
    simp only [delK] at h
    simp only [idxK]
    cases e : eqT c k k' with
    | none => rw [e] at h; exact h.elim
    | some b =>
      rw [e] at h
      simp only [] at h ⊢
      cases b with
      | true => exact ⟨some 0, rfl, h⟩
      | false =>
        simp only [Bool.false_eq_true, if_false, RM.run_bind] at h ⊢
        obtain ⟨o, h1, h2⟩ := delK_run h
        rw [h1]
        refine ⟨_, rfl, ?_⟩
        cases o <;> exact h2
theorem RepM.len : ∀ {l : List (AV × AV)} {es : List MapEntry}, RepM R w l es → es.length = l.length
  | [], es, h => by simp only [RepM] at h; subst h; rfl
  | _ :: l, es, h => by
    simp only [RepM] at h
    obtain ⟨e, es', rfl, _, _, h3⟩ := h
    simp [h3.len]
theorem RepM.get : ∀ {l : List (AV × AV)} {es : List MapEntry} {i : Nat} {kv : AV × AV}, RepM R w l es → l[i]? = some kv → ∃ e, es[i]? = some e ∧ RepV R w kv.1 e.key ∧ RepV R w kv.2 e.val
  | [], _, _, _, _, h => by simp at h
  | x :: l, es, i, kv, hr, h => by
    simp only [RepM] at hr
    obtain ⟨e, es', rfl, h1, h2, h3⟩ := hr
    cases i with
    | zero =>
      simp only [List.getElem?_cons_zero, Option.some.injEq] at h ⊢
      subst h
      exact ⟨e, rfl, h1, h2⟩
    | succ i =>
      simp only [List.getElem?_cons_succ] at h ⊢
      exact h3.get h
theorem RepM.snoc {k v : AV} {e : MapEntry} (h1 : RepV R w k e.key) (h2 : RepV R w v e.val) : ∀ {l : List (AV × AV)} {es : List MapEntry}, RepM R w l es → RepM R w (l ++ [(k, v)]) (es ++ [e])
  | [], es, h => by
    simp only [RepM] at h
    subst h
    exact ⟨e, [], rfl, h1, h2, rfl⟩
  | _ :: l, es, h => by
    simp only [RepM] at h
    obtain ⟨e', es', rfl, k1, k2, k3⟩ := h
    exact ⟨e', _, rfl, k1, k2, RepM.snoc h1 h2 k3⟩
theorem RepM.modify {v : AV} {f : MapEntry → MapEntry} : ∀ {l : List (AV × AV)} {es : List MapEntry} {i : Nat}, RepM R w l es → (∀ kv e, l[i]? = some kv → es[i]? = some e → RepV R w kv.1 e.key → RepV R w kv.1 (f e).key ∧ RepV R w v (f e).val) →
    RepM R w (l.modify i fun p => (p.1, v)) (es.modify i f)
  | [], es, i, h, hf => by
    simp only [RepM] at h
    subst h
    cases i <;> simp [RepM, List.modify]
  | x :: l, es, i, h, hf => by
    simp only [RepM] at h
    obtain ⟨e', es', rfl, k1, k2, k3⟩ := h
    cases i with
    | zero =>
      have := hf x e' rfl rfl k1
      exact ⟨_, _, rfl, this.1, this.2, k3⟩
    | succ i => exact ⟨_, _, rfl, k1, k2, k3.modify fun kv e h1 h2 => hf kv e (by simpa using h1) (by simpa using h2)⟩
theorem RepM.erase : ∀ {l : List (AV × AV)} {es : List MapEntry} {i : Nat}, RepM R w l es → RepM R w (l.eraseIdx i) (es.eraseIdx i)
  | [], es, i, h => by
    simp only [RepM] at h
    subst h
    simp [RepM]
  | x :: l, es, i, h => by
    simp only [RepM] at h
    obtain ⟨e', es', rfl, k1, k2, k3⟩ := h
    cases i with
    | zero => exact k3
    | succ i => exact ⟨_, _, rfl, k1, k2, k3.erase⟩
theorem sameNow_ok {c : CT} {kt d : Nat} {desc : TypeDesc} {k k' : AV} {u u' : Value} {b : Bool} (hs : scalarC c = true) (hc : CtOK P d kt c) (hu : P.underlying kt = some desc) (he : eqT c k k' = some b) (h1 : RepV R w k u) (h2 : RepV R w k' u') :
    Instr.sameNow desc u u' = some b ∧ (b = true → u = u') := by
  cases c <;> simp [scalarC] at hs
  · cases k <;> cases k' <;> simp only [eqT, reduceCtorEq] at he
    cases hc with
    | int hk =>
      rw [hk] at hu
      cases hu
      rw [h1.int, h2.int]
      split at he
      · rename_i hkk
        simp only [Option.some.injEq] at he
        subst he
        subst hkk
        refine ⟨by simp [Instr.sameNow]; rfl, fun h => by simp at h; rw [h]⟩
      · cases he
  · cases k <;> cases k' <;> simp only [eqT, reduceCtorEq] at he
    cases hc with
    | bool hk =>
      rw [hk] at hu
      cases hu
      rw [h1.bool, h2.bool]
      simp only [Option.some.injEq] at he
      subst he
      refine ⟨by simp [Instr.sameNow]; rfl, fun h => by simp at h; rw [h]⟩
  · cases k <;> cases k' <;> simp only [eqT, reduceCtorEq] at he
    cases hc with
    | str hk =>
      rw [hk] at hu
      cases hu
      rw [h1.str, h2.str]
      simp only [Option.some.injEq] at he
      subst he
      rename_i sa sb _ _
      refine ⟨?_, fun h => by simp at h; rw [h]⟩
      simp only [Instr.sameNow, Option.some.injEq]
      rw [Bool.eq_iff_iff]
      simp only [decide_eq_true_eq]
      constructor
      · intro h
        have h' : (sa.toArray == sb.toArray) = true := h
        have := congrArg Array.toList (eq_of_beq h')
        simpa using this
      · intro h; subst h; exact beq_self_eq_true (sa.toArray)
theorem findNow_ok {c : CT} {kt d : Nat} {desc : TypeDesc} {k : AV} {u : Value} (hs : scalarC c = true) (hc : CtOK P d kt c) (hu : P.underlying kt = some desc) (h1 : RepV R w k u) :
    ∀ {l : List (AV × AV)} {es : List MapEntry} {o : Option Nat} (j : Nat), RepM R w l es → idxK c k l = some o →
    ∃ o', Instr.findNow desc u es j = some o' ∧ (match o with | none => o' = none | some i => ∃ e, es[i]? = some e ∧ o' = some (j + i, e.val) ∧ u = e.key)
  | [], es, o, j, hr, h => by
    simp only [RepM] at hr
    subst hr
    simp only [idxK, Option.some.injEq] at h
    subst h
    exact ⟨none, rfl, rfl⟩
  | (k', v) :: l, es, o, j, hr, h => by
    simp only [RepM] at hr
    obtain ⟨e', es', rfl, k1, k2, k3⟩ := hr
    simp only [idxK] at h
    cases e : eqT c k k' with
    | none => rw [e] at h; simp at h
    | some b =>
      rw [e] at h
      simp only [] at h
      obtain ⟨q1, q2⟩ := sameNow_ok hs hc hu e h1 k1
      simp only [Instr.findNow, q1]
      cases b with
      | true =>
        simp only [if_true, Option.some.injEq] at h
        subst h
        exact ⟨_, rfl, e', rfl, rfl, q2 rfl⟩
      | false =>
        simp only [Bool.false_eq_true, if_false] at h
        cases e2 : idxK c k l with
        | none => rw [e2] at h; simp at h
        | some o2 =>
          rw [e2] at h
          simp only [Option.some.injEq] at h
          subst h
          obtain ⟨o', p1, p2⟩ := findNow_ok hs hc hu h1 (j + 1) k3 e2
          refine ⟨o', p1, ?_⟩
          cases o2 with
          | none => exact p2
          | some i =>
            obtain ⟨e'', x1, x2, x3⟩ := p2
            exact ⟨e'', by simpa using x1, by rw [x2]; simp; omega, x3⟩
theorem ctok_scalar {c : CT} {kt d : Nat} (hs : scalarC c = true) (hc : CtOK P d kt c) : ∃ desc, P.underlying kt = some desc ∧ ((∃ k, desc = .int k) ∨ desc = .bool ∨ desc = .string) := by
  cases c <;> simp [scalarC] at hs
  · cases hc with | int hk => exact ⟨_, hk, .inl ⟨_, rfl⟩⟩
  · cases hc with | bool hk => exact ⟨_, hk, .inr (.inl rfl)⟩
  · cases hc with | str hk => exact ⟨_, hk, .inr (.inr rfl)⟩
theorem run_checkKey' {t : Nat} {desc : TypeDesc} (h : P.underlying t = some desc) (hd : (∃ k, desc = .int k) ∨ desc = .bool ∨ desc = .string) (b : Bool) (u : Value) (w : World) : (Instr.checkKey b 10000 t u).run P w = .ok () w := by
  unfold Instr.checkKey
  rcases hd with ⟨k, rfl⟩ | rfl | rfl <;> simp only [Sem.run_bind, run_underlying h, Result.andThen_ok, Sem.run_pure]
theorem run_findKey' {c : CT} {kt d : Nat} {k : AV} {u : Value} {l : List (AV × AV)} {es : List MapEntry} {o : Option Nat} (hs : scalarC c = true) (hc : CtOK P d kt c) (h1 : RepV R w k u) (hr : RepM R w l es) (h : idxK c k l = some o) (w' : World) :
    ∃ o', (Instr.findKey kt u es).run P w' = .ok o' w' ∧ (match o with | none => o' = none | some i => ∃ e, es[i]? = some e ∧ o' = some (i, e.val) ∧ u = e.key) := by
  obtain ⟨desc, hu, _⟩ := ctok_scalar hs hc
  obtain ⟨o', h2, h3⟩ := findNow_ok hs hc hu h1 0 hr h
  refine ⟨o', ?_, ?_⟩
  · unfold Instr.findKey
    simp only [Sem.run_bind, run_underlying hu, Result.andThen_ok, h2, Sem.run_pure]
  · cases o with
    | none => exact h3
    | some i => simpa using h3
theorem mapT_ok (hb : TbOK P tb) {t k e : Nat} {tk te : TyA} (h : mapT tb t = some (k, tk, e, te)) : P.underlying t = some (.map k e) ∧ tb k = some tk ∧ tb e = some te ∧ scalarC tk.ct = true ∧ CtOK P 10000 k tk.ct := by
  unfold mapT at h
  split at h
  · rename_i ty ht
    split at h
    · rename_i k' e' hd
      split at h
      · rename_i tk' te' hk he
        split at h
        · rename_i hs
          cases h
          have h1 := (hb t ty ht).td
          simp only [hd, tdOK] at h1
          refine ⟨h1, hk, he, hs, ?_⟩
          rcases (hb _ _ hk).ct with h2 | h2
          · rw [h2] at hs; simp [scalarC] at hs
          · exact h2.1
        · cases h
      · cases h
    · cases h
  · cases h
theorem EntOK.map' {r : Id} {kt et : Nat} {l : List (AV × AV)} (h : EntOK P R w r (.map kt et l)) : ∃ b es clock, r = .blk b ∧ w.heap[b]? = some (.map es clock) ∧ RepM R w l es.toList ∧ (∀ e, e ∈ es.toList → e.born < clock) ∧ es.toList.Pairwise (fun a b => a.born < b.born) := by
  cases r with
  | blk b => obtain ⟨es, clock, h⟩ := h; exact ⟨b, es, clock, rfl, h⟩
  | virt n => exact h.elim
theorem run_getObj' {b : Nat} {es : Array MapEntry} {clock : Nat} (h : w.heap[b]? = some (.map es clock)) : (getObj b).run P w = .ok (.map es clock) w := by
  simp [getObj, Sem.run, h]
theorem run_setObj' {b : Nat} {es : Array MapEntry} {clock : Nat} (o : Obj) (h : w.heap[b]? = some (.map es clock)) : (setObj b o).run P w = .ok () (upW w b o) := by
  simp [setObj, Sem.run, h, upW]
theorem makeMap_ok (hb : TbOK P tb) (hw : WfH P R H w) (hv : VBound N H) {t k e : Nat} {tk te : TyA} {K : Out → Prop} (ht : mapT tb t = some (k, tk, e, te)) (h : K (.fresh fun r => (.map r, [(r, .map k e [])]))) :
    Done P N R H w ((Instr.makeMap t none).run P w) K := by
  have hrun : (Instr.makeMap t none).run P w = .ok (.map (some w.heap.size)) (w.alloc (.map #[] 0)) := by
    unfold Instr.makeMap
    simp only [Sem.run_bind, Sem.run_pure, Result.andThen_ok, run_newObj]
    rfl
  refine ⟨_, _, _, hrun, h, .fresh (w' := w.alloc (.map #[] 0)) (o := .map #[] 0) (v := .map (.blk w.heap.size)) (en := .map k e []) hw hv rfl ⟨rfl, rfl, rfl⟩ rfl (fun hk => ?_) (fun hk => .of_one (by simp [Rep]) rfl)⟩
  exact ⟨#[], 0, alloc_get (w' := w.alloc (.map #[] 0)) rfl, by simp only [RepM], fun e h => (by cases h), .nil⟩
theorem RepVs.two {v v' : AV} {u u' : Value} (h : RepV R w v u) (h' : RepV R w v' u') (hn : notTup v = true) (hn' : notTup v' = true) : RepVs R w [v, v'] [u, u'] := by
  have one : ∀ {v : AV} {u : Value}, RepV R w v u → notTup v = true → v = .any ∨ Rep R w v u.cells.toList ∧ aggA v = aggV u := by
    intro v u h hn
    rcases h with h | h | ⟨vs, A, h, _⟩
    · exact .inl h
    · exact .inr h
    · subst h; simp [notTup] at hn
  simp only [RepVs]
  exact ⟨u, _, rfl, one h hn, u', _, rfl, one h' hn', rfl⟩
theorem lookup_ok (hb : TbOK P tb) (hw : WfH P R H w) (hv : VBound N H) {t : Nat} {m k : AV} {ok : Bool} {um uk : Value} {K : Out → Prop} (hm : RepV R w m um) (hk : RepV R w k uk) (h : (lookupA tb t m k ok).run H K) :
    Done P N R H w ((Instr.lookup t um uk ok).run P w) K := by
  unfold lookupA at h
  cases hT : mapT tb t with
  | none => rw [hT] at h; exact h.elim
  | some q =>
    obtain ⟨kt, tk, e, te⟩ := q
    obtain ⟨h1, h2, h3, h4, h5⟩ := mapT_ok hb hT
    obtain ⟨desc, hd1, hd2⟩ := ctok_scalar h4 h5
    obtain ⟨z, z1, z2, z3, z4⟩ := (hb e te h3).zrep w R
    rw [hT] at h
    simp only [] at h
    split at h
    · rename_i hfk
      simp only [RM.run_bind] at h
      have fin : ∀ (es : Array MapEntry) (l : List (AV × AV)), RepM R w l es.toList → (lkK tk.ct k l).run H (fun o => (lkOut ok (match o with | some v => v | none => te.zero) o.isSome).run H K) →
          Done P N R H w ((do Instr.checkKey es.isEmpty 10000 kt uk
                              let x ← do
                                let __do_lift ← Instr.findKey kt uk es.toList
                                match __do_lift with
                                | some (_, v) => pure (v, true)
                                | none => do let __do_lift ← zeroValue e; pure (__do_lift, false)
                              match x with
                              | (v, ok') => pure (if ok = true then .tuple #[v, .bool ok'] else v) : Sem Value).run P w) K := by
        intro es l hr hl
        obtain ⟨o, ho, hK⟩ := lkK_run hl
        obtain ⟨o', q1, q2⟩ := run_findKey' h4 h5 hk hr ho w
        simp only [Sem.run_bind, run_checkKey' hd1 hd2, Result.andThen_ok, q1]
        cases o with
        | none =>
          simp only [] at q2
          subst q2
          simp only [Sem.run_bind, z1, Result.andThen_ok, Sem.run_pure]
          simp only [Option.bind_none, Option.isSome_none, lkOut] at hK
          split at hK
          · rename_i hnt
            refine .val hw hv ?_ hK
            split
            · exact .inr (.inr ⟨_, _, rfl, rfl, .two (.of z2 z3) rep_bool hnt rfl⟩)
            · exact .of z2 z3
          · exact hK.elim
        | some i =>
          obtain ⟨en, e1, e2, e3⟩ := q2
          subst e2
          simp only [Sem.run_pure, Result.andThen_ok]
          have hil : i < l.length := by rw [← hr.len]; exact (List.getElem?_eq_some_iff.1 e1).1
          obtain ⟨kv, hkv⟩ : ∃ kv, l[i]? = some kv := ⟨_, List.getElem?_eq_getElem hil⟩
          obtain ⟨en', e4, e5, e6⟩ := hr.get hkv
          rw [e1] at e4
          cases e4
          simp only [Option.bind_some, hkv, Option.map_some, Option.isSome_some, lkOut] at hK
          split at hK
          · rename_i hnt
            refine .val hw hv ?_ hK
            split
            · exact .inr (.inr ⟨_, _, rfl, rfl, .two e6 rep_bool hnt rfl⟩)
            · exact e6
          · exact hK.elim
      cases m with
      | nilm =>
        have := hm.one rfl rfl
        simp only [Rep, List.cons.injEq, and_true] at this
        subst this
        have := fin #[] [] (by simp [RepM]) h
        unfold Instr.lookup
        simp only [Sem.run_bind, run_underlying h1, Result.andThen_ok, Sem.run_pure] at this ⊢
        exact this
      | map r =>
        simp only [mapGet, RM.run] at h
        cases hr : hf H r with
        | none => rw [hr] at h; exact h.elim
        | some en =>
          rw [hr] at h
          cases en <;> (try exact h.elim)
          rename_i kt' et' l
          obtain ⟨b, es, clock, rfl, k1, k2, k3, k4⟩ := (hw.ents _ _ hr).map'
          have := hm.one rfl rfl
          simp only [Rep, List.cons.injEq, and_true] at this
          subst this
          have := fin es l k2 h
          unfold Instr.lookup
          simp only [Sem.run_bind, run_underlying h1, Result.andThen_ok, Sem.run_pure, run_getObj' k1] at this ⊢
          exact this
      | _ => exact h.elim
    · exact h.elim
theorem StepOK.mapPut (hw : WfH P R H w) (hv : VBound N H) {b kt et kt' et' : Nat} {l l' : List (AV × AV)} {es' : Array MapEntry} {clock clock' : Nat} {es : Array MapEntry} (h0 : hf H (.blk b) = some (.map kt et l)) (hb : w.heap[b]? = some (.map es clock))
    (h1 : RepM R w l' es'.toList) (h2 : ∀ e, e ∈ es'.toList → e.born < clock') (h3 : es'.toList.Pairwise (fun a b => a.born < b.born)) :
    StepOK P N R H w R ((.blk b, .map kt' et' l') :: H) (upW w b (.map es' clock')) := by
  have hlt : b < w.heap.size := (Array.getElem?_eq_some_iff.1 hb).1
  have hne : ∀ c, c ≠ b → (upW w b (.map es' clock')).heap[c]? = w.heap[c]? := fun c hc => by
    simp only [upW, Array.getElem?_setIfInBounds, if_neg (fun e => hc (Eq.symm e))]
  have hat : (upW w b (.map es' clock')).heap[b]? = some (.map es' clock') := by
    simp [upW, hlt]
  have hk : Keeps R w R (upW w b (.map es' clock')) := by
    refine ⟨fun _ _ h => h, fun c o v hr hc => ?_, fun c s hs => ?_⟩
    · by_cases e : c = b
      · subst e; simp [World.cell?, hb] at hc
      · simpa [World.cell?, hne c e] using hc
    · by_cases e : c = b
      · subst e; simp [World.shape?, hb] at hs
      · simpa [World.shape?, hne c e] using hs
  have hrm : ∀ {l : List (AV × AV)} {es : List MapEntry}, RepM R w l es → RepM R (upW w b (.map es' clock')) l es := by
    intro l
    induction l with
    | nil => intro es h; simpa only [RepM] using h
    | cons x l ih =>
      intro es h
      simp only [RepM] at h ⊢
      obtain ⟨e, es1, rfl, k1, k2, k3⟩ := h
      exact ⟨e, es1, rfl, k1.keeps hk, k2.keeps hk, ih k3⟩
  refine .entry hw hv _ _ hk (fun _ _ h => .inl h) (fun c hc hl => hne c fun e => hc (by rw [e])) (by simp [upW]) ⟨rfl, rfl, rfl⟩ ?_ ?_ ?_ (fun _ _ _ h => h) (fun c o hr => by simpa [upW] using hw.lt c o hr) (.inl (by rw [h0]; simp)) ?_
  · exact ⟨es', clock', hat, hrm h1, h2, h3⟩
  · intro c o e hwr; cases e; simp [Wr, hf] at hwr
  · intro c o e _ hwr; cases e; simp [Wr, hf] at hwr
  · intro c e h; cases e; rw [h0] at h; cases h
theorem run_keyStays (u : Value) {c : CT} {k k' : AV} {u' : Value} (hs : u = u') {b : Bool} (hc : scalarC c = true) (he : eqT c k k' = some b) (h1 : RepV R w k u) (w' : World) : (Instr.keyThatStays u' u).run P w' = .ok u w' := by
  subst hs
  have : Instr.sameBits 10000 u u = true := by
    cases c <;> simp [scalarC] at hc
    · cases k <;> cases k' <;> simp only [eqT, reduceCtorEq] at he
      rw [h1.int]; simp [Instr.sameBits]
    · cases k <;> cases k' <;> simp only [eqT, reduceCtorEq] at he
      rw [h1.bool]; simp [Instr.sameBits]
    · cases k <;> cases k' <;> simp only [eqT, reduceCtorEq] at he
      rw [h1.str]
      rename_i sa _
      exact beq_self_eq_true (sa.toArray)
  unfold Instr.keyThatStays
  rw [if_pos this, Sem.run_pure]
theorem idxK_at {c : CT} {k : AV} : ∀ {l : List (AV × AV)} {i : Nat}, idxK c k l = some (some i) → ∃ kv, l[i]? = some kv ∧ eqT c k kv.1 = some true
  | [], i, h => by simp [idxK] at h
  | (k', v) :: l, i, h => by
    simp only [idxK] at h
    cases e : eqT c k k' with
    | none => rw [e] at h; simp at h
    | some b =>
      rw [e] at h
      simp only [] at h
      cases b with
      | true => simp only [if_true, Option.some.injEq] at h; subst h; exact ⟨_, rfl, e⟩
      | false =>
        simp only [Bool.false_eq_true, if_false] at h
        cases e2 : idxK c k l with
        | none => rw [e2] at h; simp at h
        | some o =>
          rw [e2] at h
          simp only [Option.some.injEq] at h
          cases o with
          | none => simp at h
          | some j =>
            simp only [Option.map_some, Option.some.injEq] at h
            subst h
            obtain ⟨kv, h1, h2⟩ := idxK_at e2
            exact ⟨kv, by simpa using h1, h2⟩
theorem pair_modify {f : MapEntry → MapEntry} (hf : ∀ e, (f e).born = e.born) : ∀ {es : List MapEntry} {i : Nat}, es.Pairwise (fun a b => a.born < b.born) → (es.modify i f).Pairwise (fun a b => a.born < b.born) := by
  intro es i h
  have : (es.modify i f).map (·.born) = es.map (·.born) := by
    apply List.ext_getElem?
    intro n
    simp only [List.getElem?_map, List.getElem?_modify]
    cases es[n]? <;> simp
    split <;> simp [hf]
  have h1 : (es.map (·.born)).Pairwise (· < ·) := List.pairwise_map.2 h
  rw [← this] at h1
  exact List.pairwise_map.1 h1
theorem mem_modify' {f : MapEntry → MapEntry} (hf : ∀ e, (f e).born = e.born) {es : List MapEntry} {i clock : Nat} (h : ∀ e, e ∈ es → e.born < clock) : ∀ e, e ∈ es.modify i f → e.born < clock := by
  intro e he
  obtain ⟨n, hn⟩ := List.getElem?_of_mem he
  rw [List.getElem?_modify] at hn
  cases e1 : es[n]? with
  | none => rw [e1] at hn; simp at hn
  | some x =>
    rw [e1] at hn
    simp at hn
    have := h x (List.mem_of_getElem? e1)
    split at hn <;> subst hn
    · rw [hf]; exact this
    · exact this
theorem mapUpd_ok (hb : TbOK P tb) (hw : WfH P R H w) (hv : VBound N H) {t : Nat} {m k v : AV} {um uk uv : Value} {K : Out → Prop} (hm : RepV R w m um) (hk : RepV R w k uk) (hvv : RepV R w v uv) (h : (mapUpdA tb t m k v).run H K) :
    ∃ out w', (Instr.mapUpdate t um uk uv).run P w = .ok () w' ∧ K out ∧ ∀ u, OutOK P N R H w out u w' := by
  unfold mapUpdA at h
  cases hT : mapT tb t with
  | none => rw [hT] at h; exact h.elim
  | some q =>
    obtain ⟨kt, tk, e, te⟩ := q
    obtain ⟨h1, h2, h3, h4, h5⟩ := mapT_ok hb hT
    obtain ⟨desc, hd1, hd2⟩ := ctok_scalar h4 h5
    rw [hT] at h
    simp only [] at h
    cases m <;> (try exact h.elim)
    rename_i r
    simp only [] at h
    split at h
    · rename_i hf'
      simp only [RM.run] at h
      cases hr : hf H r with
      | none => rw [hr] at h; exact h.elim
      | some en =>
        rw [hr] at h
        cases en <;> (try exact h.elim)
        rename_i kt' et' l
        simp only [RM.run_bind] at h
        obtain ⟨b, es, clock, rfl, k1, k2, k3, k4⟩ := (hw.ents _ _ hr).map'
        have := hm.one rfl rfl
        simp only [Rep, List.cons.injEq, and_true] at this
        subst this
        obtain ⟨o, ho, hK⟩ := updK_run h
        obtain ⟨o', q1, q2⟩ := run_findKey' h4 h5 hk k2 ho w
        cases o with
        | none =>
          simp only [] at q2
          subst q2
          refine ⟨_, upW w b (.map (es.push { key := uk, val := uv, born := clock }) (clock + 1)), ?_, hK, fun u => ⟨[], R, .nil, ?_, .any⟩⟩
          · unfold Instr.mapUpdate
            simp only [Sem.run_bind, run_underlying h1, Result.andThen_ok, run_getObj' k1, run_checkKey' hd1 hd2, q1, run_setObj' _ k1]
          · refine StepOK.mapPut hw hv hr k1 ?_ ?_ ?_
            · rw [Array.toList_push]; exact k2.snoc hk hvv
            · intro e he
              rw [Array.toList_push, List.mem_append] at he
              rcases he with he | he
              · have := k3 e he; omega
              · simp at he; subst he; exact Nat.lt_succ_self _
            · rw [Array.toList_push, List.pairwise_append]
              exact ⟨k4, by simp, fun a ha b hb => by simp at hb; subst hb; exact k3 a ha⟩
        | some i =>
          obtain ⟨en, e1, e2, e3⟩ := q2
          subst e2
          obtain ⟨kv, g1, g2⟩ := idxK_at ho
          have hes : es[i]? = some en := by rw [← Array.getElem?_toList]; exact e1
          refine ⟨_, upW w b (.map (es.modify i fun e => { e with key := uk, val := uv }) clock), ?_, hK, fun u => ⟨[], R, .nil, ?_, .any⟩⟩
          · unfold Instr.mapUpdate
            simp only [Sem.run_bind, run_underlying h1, Result.andThen_ok, run_getObj' k1, run_checkKey' hd1 hd2, q1, hes, Option.map_some, Option.getD_some, run_keyStays uk (Eq.trans e3 rfl) h4 g2 hk, run_setObj' _ k1]
          · refine StepOK.mapPut hw hv hr k1 ?_ ?_ ?_
            · rw [Array.toList_modify]
              refine k2.modify fun kv' e' x1 x2 x3 => ⟨?_, hvv⟩
              rw [e1] at x2
              cases x2
              show RepV R w kv'.1 uk
              rw [e3]
              exact x3
            · rw [Array.toList_modify]; exact mem_modify' (f := fun e => { e with key := uk, val := uv }) (fun _ => rfl) k3
            · rw [Array.toList_modify]; exact pair_modify (f := fun e => { e with key := uk, val := uv }) (fun _ => rfl) k4
    · exact h.elim
theorem delete_ok (hb : TbOK P tb) (hw : WfH P R H w) (hv : VBound N H) {t rt : Nat} {ts : Array TypeId} {m k : AV} {um uk : Value} {K : Out → Prop} (ht : ts[0]? = some t) (hm : RepV R w m um) (hk : RepV R w k uk) (h : (deleteA tb t m k).run H K) :
    Done P N R H w ((Builtin.delete_ ts rt #[um, uk]).run P w) K := by
  unfold deleteA at h
  cases hT : mapT tb t with
  | none => rw [hT] at h; exact h.elim
  | some q =>
    obtain ⟨kt, tk, e, te⟩ := q
    obtain ⟨h1, h2, h3, h4, h5⟩ := mapT_ok hb hT
    obtain ⟨desc, hd1, hd2⟩ := ctok_scalar h4 h5
    rw [hT] at h
    simp only [] at h
    cases m <;> (try exact h.elim)
    rename_i r
    simp only [] at h
    split at h
    · rename_i hf'
      simp only [RM.run] at h
      cases hr : hf H r with
      | none => rw [hr] at h; exact h.elim
      | some en =>
        rw [hr] at h
        cases en <;> (try exact h.elim)
        rename_i kt' et' l
        simp only [RM.run_bind] at h
        obtain ⟨b, es, clock, rfl, k1, k2, k3, k4⟩ := (hw.ents _ _ hr).map'
        have := hm.one rfl rfl
        simp only [Rep, List.cons.injEq, and_true] at this
        subst this
        obtain ⟨o, ho, hK⟩ := delK_run h
        obtain ⟨o', q1, q2⟩ := run_findKey' h4 h5 hk k2 ho w
        have tup : ∀ R w, RepV R w (.tup []) (.tuple #[]) := fun R w => .inr (.inr ⟨_, _, rfl, rfl, by simp [RepVs]⟩)
        cases o with
        | none =>
          simp only [] at q2
          subst q2
          refine ⟨_, .tuple #[], upW w b (.map es clock), ?_, hK, ⟨[], R, .nil, ?_, tup _ _⟩⟩
          · unfold Builtin.delete_
            simp only [ht, List.getElem?_toArray, List.getElem?_cons_zero, List.getElem?_cons_succ, Sem.run_bind, run_underlying h1, Result.andThen_ok, run_getObj' k1, run_checkKey' hd1 hd2, q1, run_setObj' _ k1, Sem.run_pure]
          · exact StepOK.mapPut hw hv hr k1 k2 k3 k4
        | some i =>
          obtain ⟨en, e1, e2, e3⟩ := q2
          subst e2
          have hlt : i < es.size := by have := (List.getElem?_eq_some_iff.1 e1).1; simpa using this
          refine ⟨_, .tuple #[], upW w b (.map (es.eraseIdxIfInBounds i) clock), ?_, hK, ⟨[], R, .nil, ?_, tup _ _⟩⟩
          · unfold Builtin.delete_
            simp only [ht, List.getElem?_toArray, List.getElem?_cons_zero, List.getElem?_cons_succ, Sem.run_bind, run_underlying h1, Result.andThen_ok, run_getObj' k1, run_checkKey' hd1 hd2, q1, run_setObj' _ k1, Sem.run_pure]
          · have he : (es.eraseIdxIfInBounds i).toList = es.toList.eraseIdx i := by
              simp [Array.eraseIdxIfInBounds, hlt]
            refine StepOK.mapPut hw hv hr k1 ?_ ?_ ?_
            · rw [he]; exact k2.erase
            · rw [he]; exact fun e h => k3 e ((List.eraseIdx_sublist _ _).subset h)
            · rw [he]; exact k4.sublist (List.eraseIdx_sublist _ _)
    · exact h.elim
end
end Go.Am
set_option linter.unusedVariables false
namespace Go.Am
section
variable {P : Program} {tb : Nat → Option TyA} {N : Nat} {R : CSet} {H : Heap} {w : World}

/-- what becomes of an operation -/
def DoneN (P : Program) (N : Nat) (R : CSet) (H : Heap) (w : World) (r : Result Next) (K : Out → Prop) : Prop :=
  ∃ out nx w', r = .ok nx w' ∧ K out ∧ ((∃ u, nx = .value u ∧ OutOK P N R H w out u w') ∨ (nx = .skip ∧ ∀ u, OutOK P N R H w out u w'))
theorem DoneN.v {s : Sem Value} {K : Out → Prop} (h : Done P N R H w (s.run P w) K) : DoneN P N R H w ((do pure (.value (← s)) : Sem Next).run P w) K := by
  obtain ⟨out, u, w', h1, h2, h3⟩ := h
  exact ⟨out, .value u, w', by simp [Sem.run_bind, h1, Result.andThen_ok, Sem.run_pure], h2, .inl ⟨u, rfl, h3⟩⟩
theorem DoneN.pure (hw : WfH P R H w) (hv : VBound N H) {v u K} (h : RepV R w v u) (hK : K (.val v)) : DoneN P N R H w ((Pure.pure (.value u) : Sem Next).run P w) K :=
  ⟨_, .value u, w, by simp [Sem.run_pure], hK, .inl ⟨u, rfl, .val hw hv h⟩⟩
theorem repO {T : List (Nat × AV)} {a : Act} (hT : ∀ t, RepV R w (lk T t) (a.tmps.getD t undef)) (x : Option Operand) : RepO R w (x.map (ev T)) (x.map a.eval) := by
  cases x with
  | none => trivial
  | some x => exact ev_rep hT x
theorem bytesA_cells {sz : Nat} : ∀ {ys : List AV} {bs : List UInt8} {cells : List Value}, bytesA ys = some bs → RepE R w sz ys cells → ∃ ns : List Int, cells = ns.map (Value.int .u8) ∧ ns.length = ys.length ∧ bs = ns.map (fun n => UInt8.ofNat n.toNat)
  | [], bs, cells, h, hr => by
    simp only [bytesA, Option.some.injEq] at h; subst h
    simp only [RepE] at hr; subst hr
    exact ⟨[], rfl, rfl, rfl⟩
  | y :: ys, bs, cells, h, hr => by
    cases y with
    | int k n =>
      cases k <;> simp only [bytesA, reduceCtorEq] at h
      simp only [RepE, Rep] at hr
      obtain ⟨c1, c2, rfl, _, rfl, h2⟩ := hr
      cases e : bytesA ys with
      | none => rw [e] at h; cases h
      | some bs' =>
        rw [e] at h
        simp only [Option.some.injEq] at h
        subst h
        obtain ⟨ns, rfl, k2, rfl⟩ := bytesA_cells e h2
        exact ⟨n :: ns, rfl, by simp [k2], rfl⟩
    | _ => simp only [bytesA, reduceCtorEq] at h
theorem foldl_push : ∀ (ns : List Int) (s : ByteArray), (ns.foldl (fun r n => r.push (UInt8.ofNat n.toNat)) s).data = s.data ++ (ns.map (fun n => UInt8.ofNat n.toNat)).toArray
  | [], s => by simp
  | n :: ns, s => by
    simp only [List.foldl_cons, foldl_push ns, List.map_cons]
    apply Array.ext'
    simp [ByteArray.push]
theorem conv_ok (hb : TbOK P tb) (hw : WfH P R H w) (hv : VBound N H) {src dst : Nat} {x : AV} {u : Value} {K : Out → Prop} (hu : RepV R w x u) (h : (convA tb src dst x).run H K) :
    Done P N R H w ((convert src dst u).run P w) K := by
  unfold convA at h
  cases hs : tb src with
  | none => rw [hs] at h; exact h.elim
  | some a =>
    cases hd : tb dst with
    | none => rw [hs, hd] at h; exact h.elim
    | some b =>
      rw [hs, hd] at h
      simp only [] at h
      have ta := (hb src a hs).td
      have tb' := (hb dst b hd).td
      have hund : ∃ d, P.underlying src = some d := by
        cases e : a.td <;> simp only [e, tdOK] at ta <;> first | exact ⟨_, ta⟩ | (obtain ⟨d, hd, _⟩ := ta; exact ⟨_, hd⟩) | (obtain ⟨d, hd⟩ := ta; exact ⟨_, hd⟩) | (obtain ⟨d, d1, d2, hd⟩ := ta; exact ⟨_, hd⟩)
      obtain ⟨d0, hd0⟩ := hund
      split at h
      · -- to an integer
        rename_i k k' n e
        simp only [e, tdOK] at tb'
        have := hu.int
        subst this
        have hrun : (convert src dst (.int k' n)).run P w = .ok (.int k (k.wrap n)) w := by
          unfold convert
          simp only [Sem.run_bind, run_underlying hd0, run_underlying tb', Result.andThen_ok]
          cases d0 <;> simp [Conv.intToInt, Sem.run_pure]
        rw [hrun]
        exact .val hw hv rep_int h
      · rename_i s e
        simp only [e, tdOK] at tb'
        have := hu.str
        subst this
        have hrun : (convert src dst (.string ⟨s.toArray⟩)).run P w = .ok (.string ⟨s.toArray⟩) w := by
          unfold convert
          simp only [Sem.run_bind, run_underlying hd0, run_underlying tb', Result.andThen_ok]
          cases d0 <;> simp [Sem.run_pure]
        rw [hrun]
        exact .val hw hv rep_str h
      · have e : b.td = .str := by assumption
        simp only [e, tdOK] at tb'
        split at h
        · rename_i e' hse
          simp only [hse, tdOK] at ta
          cases he : tb e' with
          | none => rw [he] at h; exact h.elim
          | some te =>
            rw [he] at h
            simp only [] at h
            split at h
            · rename_i he8
              have t8 := (hb e' te he).td
              simp only [he8, tdOK] at t8
              simp only [RM.run_bind] at h
              obtain ⟨ys, ad, c, sz, h1, rfl, h3, cells, h4, h5⟩ := elemsOf_ok hw hu h
              cases hbs : bytesA ys with
              | none => rw [hbs] at h1; exact h1.elim
              | some bs =>
                rw [hbs] at h1
                obtain ⟨ns, rfl, hl, rfl⟩ := bytesA_cells hbs h4
                have hrun : (convert src dst (.slice ad ys.length c)).run P w = .ok (.string ⟨(ns.map (fun n => UInt8.ofNat n.toNat)).toArray⟩) w := by
                  rw [run_convert_bytes_string w src dst e' ad ys.length c ta t8 tb']
                  cases ad with
                  | none =>
                    have hz : ys = [] := by
                      rcases h5 with h5 | ⟨b, o, h6, _⟩
                      · exact h5
                      · cases h6
                    subst hz
                    have : ns = [] := List.eq_nil_of_length_eq_zero hl
                    subst this
                    simp [Conv.bytesToString, Sem.run_pure]; rfl
                  | some ad =>
                    have hload : (loadCells ad ys.length).run P w = .ok (ns.map (Value.int .u8)).toArray w := by
                      rcases h5 with h5 | ⟨b, o, h6, h7⟩
                      · subst h5
                        have : ns = [] := List.eq_nil_of_length_eq_zero hl
                        subst this
                        simp [loadCells, loadCellsFrom, Sem.run_pure]
                      · cases h6
                        have := run_loadCells_list (P := P) w ⟨b, o, none⟩ (ns.map (Value.int .u8)) fun j v hj => by rw [add_off]; exact h7 j v hj
                        simpa [hl] using this
                    rw [run_bytesToString w ad ys.length c ns hload]
                    congr 2
                    apply ByteArray.ext
                    rw [foldl_push]
                    simp
                rw [hrun]
                exact .val hw hv rep_str h1
            · exact h.elim
        · exact h.elim
      · exact h.elim
theorem lenA_ok (hb : TbOK P tb) {t ty x n u} (ht : tb t = some ty) (h : lenA ty.td x = some n) (hu : RepV R w x u) {ts : Array TypeId} {rt : TypeId} (hts : ts[0]? = some t) :
    (Builtin.len_ ts rt #[u]).run P w = .ok (.int .i64 n) w := by
  have h1 := (hb t ty ht).td
  cases hd : ty.td with
  | slice e =>
    simp only [hd, tdOK] at h1
    have hgo : ∀ (a : Option Addr) (m c : Nat), (m : Int) = n → u = .slice a m c → (Builtin.len_ ts rt #[u]).run P w = .ok (.int .i64 n) w := by
      rintro a m c rfl rfl
      unfold Builtin.len_
      simp only [hts, List.getElem?_toArray, List.getElem?_cons_zero, Sem.run_bind, run_underlying h1, Result.andThen_ok, Sem.run_pure]
      rfl
    cases x <;> simp only [hd, lenA, Option.some.injEq, reduceCtorEq] at h
    · rename_i xs
      have h2 := hu.one rfl rfl
      simp only [Rep, List.cons.injEq, and_true] at h2
      obtain ⟨a, c, h3, _⟩ := h2
      exact hgo _ _ _ h h3
    · have := hu.nils
      exact hgo _ _ _ (by simpa using h) this
    · rename_i r p sz off len mc
      have h2 := hu.one rfl rfl
      cases r with
      | blk b => simp only [Rep, List.cons.injEq, and_true] at h2; obtain ⟨a, c, h3, _⟩ := h2; exact hgo _ _ _ h h3
      | virt q =>
        simp only [Rep, List.cons.injEq, and_true] at h2
        obtain ⟨a, h3, h4, _⟩ := h2
        exact hgo _ _ _ (by rw [← h, h4]) h3
  | str =>
    simp only [hd, tdOK] at h1
    cases x <;> simp only [hd, lenA, Option.some.injEq, reduceCtorEq] at h
    have := hu.str
    subst this
    unfold Builtin.len_
    simp only [hts, List.getElem?_toArray, List.getElem?_cons_zero, Sem.run_bind, run_underlying h1, Result.andThen_ok, Sem.run_pure]
    simp [goInt, ← h, ByteArray.size]
  | arr m e =>
    simp only [hd, tdOK] at h1
    simp only [hd, lenA, Option.some.injEq] at h
    unfold Builtin.len_
    simp only [hts, List.getElem?_toArray, List.getElem?_cons_zero, Sem.run_bind, run_underlying h1, Result.andThen_ok]
    simp [goInt, ← h, Sem.run_pure]
  | _ => simp only [hd, lenA, reduceCtorEq] at h
theorem toList_nil {α : Type} {a : Array α} (h : a.toList = []) : a = #[] := by cases a; simp_all
theorem vl_one {x : AV} {us : Array Value} (h : RepVL R w [x] us.toList) : ∃ u, us = #[u] ∧ RepV R w x u := by
  obtain ⟨u, us', h1, h2, h3⟩ := h
  simp only [RepVL] at h3
  subst h3
  exact ⟨u, Array.ext' h1, h2⟩
theorem vl_two {x y : AV} {us : Array Value} (h : RepVL R w [x, y] us.toList) : ∃ u v, us = #[u, v] ∧ RepV R w x u ∧ RepV R w y v := by
  obtain ⟨u, us', h1, h2, v, us'', h4, h5, h3⟩ := h
  simp only [RepVL] at h3
  subst h3 h4
  exact ⟨u, v, Array.ext' h1, h2, h5⟩
theorem bytes_new {s : List UInt8} : ∀ sz, allSz sz (s.map byteA) = true → ∃ new : Array Value, RepE R w sz (s.map byteA) new.toList ∧ ∀ w' : World, w'.heap = w.heap → (Builtin.firstCells sz s.length (.string ⟨s.toArray⟩)).run P w' = .ok new w' := by
  intro sz ha
  refine ⟨(s.map fun b => Value.int .u8 b.toNat).toArray, ?_, fun w' _ => ?_⟩
  · refine RepE.ofL ?_ ha
    clear ha
    induction s with
    | nil => simp [RepL]
    | cons b s ih => simp only [List.map_cons, RepL, Rep, byteA]; exact ⟨[_], _, rfl, rfl, by simpa using ih⟩
  · unfold Builtin.firstCells
    simp only [Sem.run_pure]
    congr 1
    apply Array.ext'
    have : (ByteArray.extract ⟨s.toArray⟩ 0 s.length) = ⟨s.toArray⟩ := by
      apply ByteArray.ext
      simp [ByteArray.data_extract]
    rw [this]
    simp
theorem builtin_ok (hb : TbOK P tb) (hw : WfH P R H w) (hv : VBound N H) {b : Builtin} {ts : Array TypeId} {rt : TypeId} {cs : Array Bool} {args : List AV} {us : Array Value} {K : Out → Prop} (hu : RepVL R w args us.toList)
    (h : (semBuiltin tb b ts.toList args).run H K) : DoneN P N R H w ((builtin b ts rt cs us).run P w) K := by
  unfold semBuiltin at h
  cases b <;> simp only [] at h <;> try exact h.elim
  · -- append
    split at h
    · rename_i t t2 tl s x hts
      have ht0 : ts[0]? = some t := by rw [← Array.getElem?_toList, hts]; rfl
      have ht1 : ts[1]? = some t2 := by rw [← Array.getElem?_toList, hts]; rfl
      obtain ⟨u, v, rfl, h1, h2⟩ := vl_two hu
      refine DoneN.v ?_
      cases hty : tb t2 with
      | none => rw [hty] at h; exact h.elim
      | some ty2 =>
        rw [hty] at h
        simp only [] at h
        have htd := (hb t2 ty2 hty).td
        split at h
        · rename_i e2 hd
          simp only [hd, tdOK] at htd
          simp only [RM.run_bind] at h
          obtain ⟨ys, a, c, sz, k1, rfl, k3, k4⟩ := elemsOf_ok hw h2 h
          exact append_ok hb hw hv h1 ⟨ht0, ht1⟩ (.inl ⟨e2, htd⟩) (by simp [Builtin.lenOf, Sem.run_pure]) (fun sz' ha => run_firstCells ⟨sz, k4⟩ ha rfl) k1
        · rename_i hd
          simp only [hd, tdOK] at htd
          split at h
          · rename_i bs
            have := h2.str
            subst this
            have hl : (Builtin.lenOf (.string ⟨bs.toArray⟩)).run P w = .ok (bs.map byteA).length w := by simp [Builtin.lenOf, Sem.run_pure, ByteArray.size]
            exact append_ok hb hw hv h1 ⟨ht0, ht1⟩ (.inr htd) hl (fun sz' ha => by rw [List.length_map]; exact bytes_new sz' ha) h
          · exact h.elim
        · rename_i k hd
          simp only [hd, tdOK] at htd
          split at h
          · rename_i n
            have e1 := h1.nils
            have e2 := h2.int
            subst e1 e2
            exact appendZ_ok hb hw hv ⟨ht0, ht1⟩ htd h
          · exact h.elim
        · exact h.elim
    · exact h.elim
  · -- cap
    split at h
    · rename_i t tl hts
      have ht0 : ts[0]? = some t := by rw [← Array.getElem?_toList, hts]; rfl
      obtain ⟨u, rfl, h1⟩ := vl_one hu
      have := h1.nils
      subst this
      cases he : esize tb t with
      | none => rw [he] at h; exact h.elim
      | some sz =>
        rw [he] at h
        obtain ⟨e, e1, _⟩ := esize_ok hb he
        refine DoneN.v ?_
        have hrun : (Builtin.cap_ ts rt #[.slice none 0 0]).run P w = .ok (.int .i64 0) w := by
          unfold Builtin.cap_
          simp only [ht0, List.getElem?_toArray, List.getElem?_cons_zero, Sem.run_bind, run_underlying e1, Result.andThen_ok, Sem.run_pure]
          rfl
        rw [hrun]
        exact .val hw hv rep_int h
    · exact h.elim
  · -- clear
    split at h
    · rename_i t tl d hts
      have ht0 : ts[0]? = some t := by rw [← Array.getElem?_toList, hts]; rfl
      obtain ⟨u, rfl, h1⟩ := vl_one hu
      exact DoneN.v (clear_ok hb hw hv h1 ht0 h)
    · exact h.elim
  · -- copy
    split at h
    · rename_i t tl d x hts
      have ht0 : ts[0]? = some t := by rw [← Array.getElem?_toList, hts]; rfl
      obtain ⟨u, v, rfl, h1, h2⟩ := vl_two hu
      simp only [RM.run_bind] at h
      obtain ⟨ys, a, c, sz, k1, rfl, k3, k4⟩ := elemsOf_ok hw h2 h
      exact DoneN.v (copy_ok hb hw hv h1 ht0 k4 k1)
    · exact h.elim
  · -- delete
    split at h
    · rename_i t tl m k hts
      have ht0 : ts[0]? = some t := by rw [← Array.getElem?_toList, hts]; rfl
      obtain ⟨u, v, rfl, h1, h2⟩ := vl_two hu
      exact DoneN.v (delete_ok hb hw hv ht0 h1 h2 h)
    · exact h.elim
  · -- len
    split at h
    · rename_i t tl x hts
      have ht0 : ts[0]? = some t := by rw [← Array.getElem?_toList, hts]; rfl
      obtain ⟨u, rfl, h1⟩ := vl_one hu
      cases hty : tb t with
      | none => rw [hty] at h; exact h.elim
      | some ty =>
        rw [hty] at h
        simp only [] at h
        cases hl : lenA ty.td x with
        | none => rw [hl] at h; exact h.elim
        | some n =>
          rw [hl] at h
          refine DoneN.v ?_
          rw [lenA_ok hb hty hl h1 ht0]
          exact .val hw hv rep_int h
    · exact h.elim
  · -- max
    split at h
    · rename_i k a k' b
      split at h
      · rename_i hk
        subst hk
        obtain ⟨u, v, rfl, h1, h2⟩ := vl_two hu
        have e1 := h1.int
        have e2 := h2.int
        subst e1 e2
        refine DoneN.v ?_
        have hrun : (Builtin.max_ ts rt #[.int k a, .int k b]).run P w = .ok (.int k (if a < b then b else a)) w := by
          simp [Builtin.max_, Builtin.max2, Sem.run_pure]
        rw [hrun]
        exact .val hw hv rep_int h
      · exact h.elim
    · exact h.elim
  · -- min
    split at h
    · rename_i k a k' b
      split at h
      · rename_i hk
        subst hk
        obtain ⟨u, v, rfl, h1, h2⟩ := vl_two hu
        have e1 := h1.int
        have e2 := h2.int
        subst e1 e2
        refine DoneN.v ?_
        have hrun : (Builtin.min_ ts rt #[.int k a, .int k b]).run P w = .ok (.int k (if b < a then b else a)) w := by
          simp [Builtin.min_, Builtin.min2, Sem.run_pure]
        rw [hrun]
        exact .val hw hv rep_int h
      · exact h.elim
    · exact h.elim
end
end Go.Am
set_option linter.unusedVariables false
namespace Go.Am
section
variable {P : Program} {tb : Nat → Option TyA} {N : Nat} {R : CSet} {H : Heap} {w : World}

theorem evsA_rep {T : List (Nat × AV)} {a : Act} (hT : ∀ t, RepV R w (lk T t) (a.tmps.getD t undef)) (xs : Array Operand) : RepVL R w (xs.toList.map (ev T)) (xs.map a.eval).toList := by
  rw [Array.toList_map]; exact evs_rep hT xs.toList
theorem alloc_ok (hb : TbOK P tb) (hw : WfH P R H w) (hv : VBound N H) {e : Nat} {ty : TyA} {K : Out → Prop} (ht : tb e = some ty) (h : K (.fresh fun r => (.ptr r [], [(r, .box ty.zero)]))) :
    Done P N R H w ((Instr.alloc e true (.tuple #[])).run P w) K := by
  obtain ⟨z, z1, z2, z3, z4⟩ := (hb e ty ht).zrep w R
  have hrun : (Instr.alloc e true (.tuple #[])).run P w = .ok (.pointer (some ⟨w.heap.size, 0, none⟩)) (w.alloc (.cells z.cells e)) := by
    unfold Instr.alloc
    simp only [Sem.run_bind, z1, Result.andThen_ok, run_newVar, Sem.run_pure]
  exact ⟨_, _, _, hrun, h, box_ok hw hv z2⟩
theorem boxop_ok (hb : TbOK P tb) (hw : WfH P R H w) (hv : VBound N H) {e : Nat} {v : AV} {u : Value} {K : Out → Prop} (hf : fits tb e v = true) (hu : RepV R w v u) (h : K (.fresh fun r => (.ptr r [], [(r, .box v)]))) :
    Done P N R H w ((Instr.box e u).run P w) K := by
  have hk : known v = true := by
    cases ht : tb e with
    | none => simp [fits, ht] at hf
    | some ty => exact (fits_size hb ht hf).2
  have hrun : (Instr.box e u).run P w = .ok (.pointer (some ⟨w.heap.size, 0, none⟩)) (w.alloc (.cells u.cells e)) := by
    unfold Instr.box
    simp only [Sem.run_bind, run_newVar, Result.andThen_ok, Sem.run_pure]
  exact ⟨_, _, _, hrun, h, box_ok hw hv (hu.cells hk).1⟩
theorem repVs_of_vl : ∀ {xs : List AV} {us : List Value}, RepVL R w xs us → (∀ x ∈ xs, ∀ vs, x ≠ .tup vs) → RepVs R w xs us
  | [], us, h, _ => by simp only [RepVL] at h; subst h; simp [RepVs]
  | x :: xs, us, h, hn => by
    obtain ⟨u, us', rfl, h1, h2⟩ := h
    simp only [RepVs]
    refine ⟨u, us', rfl, ?_, repVs_of_vl h2 fun y hy => hn y (List.mem_cons_of_mem _ hy)⟩
    rcases h1 with h1 | h1 | ⟨vs, A, h1, _⟩
    · exact .inl h1
    · exact .inr h1
    · exact absurd h1 (hn x (List.mem_cons_self ..) vs)
theorem vs_at : ∀ {xs : List AV} {us : List Value} {i : Nat} {v : AV}, RepVs R w xs us → xs[i]? = some v → ∃ u, us[i]? = some u ∧ RepV R w v u
  | [], _, _, _, _, h => by simp at h
  | x :: xs, us, 0, v, hr, h => by
    simp only [RepVs] at hr
    obtain ⟨u, us', rfl, h1, h2⟩ := hr
    simp only [List.getElem?_cons_zero, Option.some.injEq] at h
    subst h
    exact ⟨u, rfl, h1.imp id .inl⟩
  | x :: xs, us, i + 1, v, hr, h => by
    simp only [RepVs] at hr
    obtain ⟨u, us', rfl, h1, h2⟩ := hr
    simp only [List.getElem?_cons_succ] at h ⊢
    exact vs_at h2 h
theorem notTups_spec : ∀ {xs : List AV}, notTups xs = true → ∀ x ∈ xs, ∀ vs, x ≠ .tup vs
  | [], _, x, hx, _ => by cases hx
  | y :: ys, h, x, hx, vs => by
    simp only [notTups, Bool.and_eq_true] at h
    cases hx with
    | head => intro e; subst e; simp [notTup] at h
    | tail _ hx => exact notTups_spec h.2 x hx vs
theorem semOp_ok (hb : TbOK P tb) (hw : WfH P R H w) (hv : VBound N H) {T : List (Nat × AV)} {a : Act} {o : Oper} {K : Out → Prop} (hT : ∀ t, RepV R w (lk T t) (a.tmps.getD t undef)) (h : (semOp tb T o.op).run H K) :
    DoneN P N R H w ((execOp a.eval o).run P w) K := by
  obtain ⟨dst, op, type, pos, after, guard⟩ := o
  have E := fun x => ev_rep hT x
  cases op <;> simp only [semOp] at h <;> simp only [execOp]
  case move x => exact .pure hw hv (E x) h
  case assign x => exact .pure hw hv (E x) h
  case pick c x y =>
    have hc := E c
    cases hx : ev T c <;> rw [hx] at h <;> try exact h.elim
    rename_i b
    rw [hx] at hc
    have := hc.bool
    refine ⟨_, .value (if b = true then a.eval x else a.eval y), w, ?_, h, .inl ⟨_, rfl, .val hw hv ?_⟩⟩
    · simp [this, Sem.run_bind, asBool, Sem.run_pure, Result.andThen_ok]
    · split
      · exact E x
      · exact E y
  case alloc e =>
    cases ht : tb e with
    | none => rw [ht] at h; exact h.elim
    | some ty => rw [ht] at h; exact .v (alloc_ok hb hw hv ht h)
  case box e x =>
    split at h
    · rename_i hf; exact .v (boxop_ok hb hw hv hf (E x) h)
    · exact h.elim
  case build t parts =>
    refine .v (build_ok hb hw hv ?_ h)
    have := parts_rep hT parts.toList
    rw [Array.toList_map]
    exact this
  case buildSlice t len parts =>
    cases ht : tb t with
    | none => rw [ht] at h; exact h.elim
    | some ty =>
      rw [ht] at h
      simp only [] at h
      split at h
      · rename_i e hs
        cases hte : tb e with
        | none => rw [hte] at h; exact h.elim
        | some te =>
          rw [hte] at h
          simp only [] at h
          split at h
          · rename_i hc
            split at h
            · rename_i xs hf'
              simp only [RM.run_bind] at h
              refine .v (buildSlice_ok hb hw hv (parts := parts.toList.map fun p => (p.1, ev T p.2)) ?_ ⟨ty, ht, hs⟩ hte hc hf' h)
              have := parts_rep hT parts.toList
              rw [Array.toList_map]
              exact this
            · exact h.elim
          · exact h.elim
      · exact h.elim
  case load t x => exact .v (load_ok hb hw hv (E x) h)
  case store t x y =>
    obtain ⟨out, w', h1, h2, h3⟩ := store_ok hb hw hv (E x) (E y) h
    exact ⟨out, .skip, w', by simp [Sem.run_bind, h1, Result.andThen_ok, Sem.run_pure], h2, .inr ⟨rfl, h3⟩⟩
  case nilCheck x =>
    have hx := E x
    cases e : ev T x <;> rw [e] at h <;> try exact h.elim
    · rename_i r p
      rw [e] at hx
      obtain ⟨b, rfl, hu⟩ := hx.ptr
      rw [hu]
      rw [hu] at hx
      exact .pure hw hv hx h
    · rename_i v
      rw [e] at hx
      obtain ⟨b, o, c, hu, _⟩ := hx.cref
      rw [hu]
      rw [hu] at hx
      exact .pure hw hv hx h
  case binOp op t x y yt =>
    simp only [RM.run_bind] at h
    obtain ⟨r, z, h1, h2, h3⟩ := binA_ok hb (E x) (E y) x y h
    refine .v ?_
    rw [h2]
    exact .val hw hv h3 h1
  case unOp op t x =>
    have hx := E x
    refine .v ?_
    cases op <;> cases e : ev T x <;> rw [e] at h <;> (try exact h.elim) <;> rw [e] at hx
    · have := hx.int
      rw [this]
      simp only [Op.unary, Op.intArith, Sem.run_pure]
      exact .val hw hv rep_int h
    · have := hx.int
      rw [this]
      obtain ⟨v, hv', hK⟩ := optOut_ok h
      obtain ⟨u, h1, h2⟩ := run_intBits (P := P) (R := R) (w := w) hv'
      simp only [Op.unary]
      rw [h1]
      exact .val hw hv h2 hK
    · have := hx.bool
      rw [this]
      simp only [Op.unary, Sem.run_pure]
      exact .val hw hv rep_bool h
  case convert src dst x => exact .v (conv_ok hb hw hv (E x) h)
  case makeFunc fn first captured =>
    cases fn <;> (try exact h.elim)
    rename_i f
    simp only [] at h
    split at h
    · rename_i hn
      refine .v ?_
      have h1 := repVs_of_vl (evsA_rep hT first) (notTups_spec hn.1)
      have h2 := repVs_of_vl (evsA_rep hT captured) (notTups_spec hn.2)
      simp only [Instr.makeFunc, Sem.run_pure]
      exact .val hw hv (.of_one (by simp only [Rep]; exact ⟨_, _, rfl, h1, h2⟩) rfl) h
    · exact h.elim
  case makeSlice t l c =>
    cases ht : tb t with
    | none => rw [ht] at h; exact h.elim
    | some ty =>
      rw [ht] at h
      simp only [] at h
      split at h
      · rename_i e hs
        cases hte : tb e with
        | none => rw [hte] at h; exact h.elim
        | some te =>
          rw [hte] at h
          simp only [] at h
          split at h
          · rename_i n m e1 e2
            have hl := E l
            have hc := E c
            rw [e1] at hl
            rw [e2] at hc
            rw [hl.int, hc.int]
            split at h
            · rename_i hcond
              exact .v (makeSlice_ok hb hw hv ht hs hte hcond h)
            · exact h.elim
          · exact h.elim
      · exact h.elim
  case slice t x lo hi mx => exact .v (slice_ok hb hw hv (E x) (repO hT lo) (repO hT hi) (repO hT mx) h)
  case fieldAddr s x f => exact .v (fieldAddr_ok hb hw hv (E x) h)
  case field s x f => exact .v (field_ok hb hw hv (E x) h)
  case indexAddr t x i => exact .v (indexAddr_ok hb hw hv (E x) (E i) h)
  case index t x i => exact .v (index_ok hb hw hv (E x) (E i) h)
  case makeMap t rsv =>
    cases rsv with
    | some x => exact h.elim
    | none =>
      simp only [] at h
      split at h
      · rename_i k tk e te hT
        exact .v (makeMap_ok hb hw hv hT h)
      · exact h.elim
  case lookup t m k ok => exact .v (lookup_ok hb hw hv (E m) (E k) h)
  case mapUpdate t m k x =>
    obtain ⟨out, w', h1, h2, h3⟩ := mapUpd_ok hb hw hv (E m) (E k) (E x) h
    exact ⟨out, .skip, w', by simp [Sem.run_bind, h1, Result.andThen_ok, Sem.run_pure], h2, .inr ⟨rfl, h3⟩⟩
  case extract t i =>
    have hx := E t
    cases e : ev T t <;> rw [e] at h <;> (try exact h.elim)
    rename_i vs
    rw [e] at hx
    obtain ⟨A, hA, hr⟩ := hx.tup
    obtain ⟨v, hv', hK⟩ := optOut_ok h
    obtain ⟨u, hu, hru⟩ := vs_at hr hv'
    refine .v ?_
    rw [hA]
    rw [Array.getElem?_toList] at hu
    simp only [Instr.extract, hu, Sem.run_pure]
    exact .val hw hv hru hK
  case call c =>
    obtain ⟨callee, args, ats⟩ := c
    cases callee <;> (try exact h.elim)
    rename_i b
    simp only [] at h
    simp only [resolve, Sem.run_bind, Sem.run_pure, Result.andThen_ok, invoke]
    exact builtin_ok hb hw hv (evsA_rep hT args) h
  all_goals exact h.elim
end
end Go.Am
set_option linter.unusedVariables false
namespace Go.Am
section
variable {P : Program} {N : Nat} {R : CSet} {H : Heap} {w : World}

theorem SR.cons_cbox' {H H1 : Heap} (h : SR H H1) {r v} (hr : hf H r = some (.cbox v)) : SR H H1 := h
/-- an array in a box or a constant one: its elements are constant from here on -/
theorem freeze_box {H1 : Heap} {R1 : CSet} (hsr : SR H H1) (hw : WfH P R1 H1 w) (hv : VBound N H1) {r v} (h0 : hf H r = some (.box v)) :
    ∃ R2, StepOK P N R1 H1 w R2 ((r, .cbox v) :: H1) w ∧ SR H ((r, .cbox v) :: H1) ∧ ∃ b cs, r = .blk b ∧ Rep R2 w v cs ∧ constAt R2 w b 0 cs := by
  have hfin : ∀ {R2 : CSet} {H2 : Heap}, WfH P R2 H2 w → hf H2 r = some (.cbox v) → ∃ b cs, r = .blk b ∧ Rep R2 w v cs ∧ constAt R2 w b 0 cs := by
    intro R2 H2 hw2 h2
    cases r with
    | virt n => exact (hw2.ents _ _ h2).elim
    | blk b =>
      obtain ⟨cs, e, fr, k1, k2, k3⟩ := hw2.ents _ _ h2
      exact ⟨b, cs.toList, rfl, k2, k3⟩
  rcases hsr.box _ _ h0 with h1 | h1
  · have hs := StepOK.cbox hw hv h1
    exact ⟨_, hs, hsr.cons_cbox h0, hfin hs.wf (by simp [hf])⟩
  · have hs := (StepOK.refl hw hv).congr (H'' := (r, .cbox v) :: H1) (hf_again h1)
    exact ⟨R1, hs, hsr.cons_cbox h0, hfin hs.wf (by simp [hf])⟩
theorem own_const {b p sz off len mc u v vs R1} (hu : RepV R1 w (.own (.blk b) p sz off len mc) u) (hg : getP v p = some (.agg vs)) {cs} (hr : Rep R1 w v cs) (hc : constAt R1 w b 0 cs)
    (hl : off + len ≤ vs.length) (ha : allSz sz vs = true) : ∃ a c, u = .slice a len c ∧ Rep R1 w (.list ((vs.drop off).take len)) [u] := by
  obtain ⟨a, c, rfl, h3, cells, h4, h5⟩ := own_box_shows hu hg hr (fun i x hi => (hc i x hi).1) hl ha
  have h2 := hu.one rfl rfl
  simp only [Rep, List.cons.injEq, and_true, Value.slice.injEq] at h2
  obtain ⟨a', c', ⟨rfl, _, rfl⟩, q1, q2, q3⟩ := h2
  have hlen : ((vs.drop off).take len).length = len := by simp; omega
  refine ⟨a, c, rfl, ?_⟩
  simp only [Rep]
  refine ⟨a, c, by rw [hlen], by rw [hlen]; exact h3, ?_⟩
  -- the cells again, with their constancy
  have hcc : ∀ {p : List Stp} {v u : AV} {cs : List Value} {o : Nat}, getP v p = some u → Rep R1 w v cs → constAt R1 w b o cs → ∃ ds, Rep R1 w u ds ∧ constAt R1 w b (o + poff p) ds := by
    intro p
    induction p with
    | nil =>
      intro v u cs o h hr hc
      simp only [getP, Option.some.injEq] at h
      subst h
      exact ⟨cs, hr, by simpa [poff] using hc⟩
    | cons s p ih =>
      intro v u cs o h hr hc
      cases v with
      | agg vs =>
        simp only [getP] at h
        split at h
        · rename_i hoff
          cases e : vs[s.i]? with
          | none => simp [e] at h
          | some v' =>
            simp only [e] at h
            simp only [Rep] at hr
            obtain ⟨k1, k2⟩ := RepL.at_ hr e
            obtain ⟨ds, d1, d2⟩ := ih (o := o + s.off) h k1 (by rw [← hoff]; exact constAt_part hc)
            exact ⟨ds, d1, by simpa [poff, Nat.add_assoc] using d2⟩
        · cases h
      | _ => simp [getP] at h
  obtain ⟨ds, d1, d2⟩ := hcc hg hr hc
  have hdE : RepE R1 w sz vs ds := RepE.ofL (by simpa [Rep] using d1) ha
  obtain ⟨m1, m2⟩ := list_cut hdE d2 off len
  refine ⟨sz, _, m1, ?_⟩
  rcases q3 with q3 | ⟨q3, _⟩
  · left
    have : len = 0 := by omega
    simp [this]
  · right
    exact ⟨b, _, q3, by simpa using m2⟩
/-- one argument, or a part of one -/
theorem pass1_ok {H1 : Heap} {R1 : CSet} (hsr : SR H H1) (hw : WfH P R1 H1 w) (hv : VBound N H1) {x y : AV} {cs : List Value} {K : Heap → Prop} (hx : Rep R1 w x cs) (h : (pass1 x y).run H K) :
    ∃ us R2, K us ∧ StepOK P N R1 H1 w R2 (us ++ H1) w ∧ SR H (us ++ H1) ∧ Rep R2 w y cs ∧ aggA y = aggA x := by
  have same : ∀ {x y : AV}, Rep R1 w x cs → (RM.asrt (x = y) (.ret []) : RM Heap).run H K → ∃ us R2, K us ∧ StepOK P N R1 H1 w R2 (us ++ H1) w ∧ SR H (us ++ H1) ∧ Rep R2 w y cs ∧ aggA y = aggA x := by
    rintro x y hx ⟨rfl, h⟩
    exact ⟨[], R1, h, .refl hw hv, hsr, hx, rfl⟩
  unfold pass1 at h
  split at h
  · exact h.elim
  · rename_i r p sz off len mc ys
    have hlen1 : cs.length = 1 := by have := Rep.length _ _ hx; simpa [ncells] using this
    obtain ⟨u, rfl⟩ : ∃ u, cs = [u] := List.length_eq_one_iff.1 hlen1
    simp only [RM.run] at h
    cases e : hf H r with
    | none => rw [e] at h; exact h.elim
    | some en =>
      rw [e] at h
      cases en with
      | row e' sz' xs fz =>
        cases p with
        | cons s p => exact h.elim
        | nil =>
          simp only [RM.run] at h
          obtain ⟨⟨rfl, hc, rfl⟩, hK⟩ := h
          have hfr : (frz (.own r [] sz off len mc)).run H (fun y => y = (.list ((xs.drop off).take len), [(r, .row e' sz xs xs.length)])) := by
            simp only [frz, RM.run, e]
            rw [if_pos ⟨hc, trivial⟩]
            rfl
          obtain ⟨y, us, R2, k1, k2, k3, k4, k5, _⟩ := frz_ok hsr hw hv hx hfr
          cases k1
          exact ⟨_, R2, hK, k2, k3, k4, k5⟩
      | box v =>
        simp only [] at h
        cases hg : getP v p with
        | none => rw [hg] at h; exact h.elim
        | some g =>
          rw [hg] at h
          cases g with
          | agg vs =>
            simp only [RM.run] at h
            obtain ⟨⟨hc, rfl, ha⟩, hK⟩ := h
            obtain ⟨R2, k2, k3, b, cs', rfl, k4, k5⟩ := freeze_box hsr hw hv e
            refine ⟨_, R2, hK, k2, k3, ?_, rfl⟩
            obtain ⟨a, c, rfl, m⟩ := own_const (.of_one (Rep.keeps k2.keeps _ _ hx) rfl) hg k4 k5 hc ha
            exact m
          | _ => exact h.elim
      | cbox v =>
        simp only [] at h
        cases hg : getP v p with
        | none => rw [hg] at h; exact h.elim
        | some g =>
          rw [hg] at h
          cases g with
          | agg vs =>
            simp only [RM.run] at h
            obtain ⟨⟨hc, rfl, ha⟩, hK⟩ := h
            have e1 := hsr.cbox _ _ e
            cases r with
            | virt n => exact (hw.ents _ _ e1).elim
            | blk b =>
              obtain ⟨cs', e2, fr, k1, k4, k5⟩ := hw.ents _ _ e1
              refine ⟨[], R1, hK, .refl hw hv, hsr, ?_, rfl⟩
              obtain ⟨a, c, rfl, m⟩ := own_const (.of_one hx rfl) hg k4 k5 hc ha
              exact m
          | _ => exact h.elim
      | _ => exact h.elim
  · rename_i ys
    simp only [RM.run] at h
    obtain ⟨rfl, hK⟩ := h
    simp only [Rep] at hx
    subst hx
    exact ⟨[], R1, hK, .refl hw hv, hsr, by simp only [Rep]; exact ⟨none, 0, rfl, Nat.le_refl _, 1, [], by simp [RepE], by simp⟩, rfl⟩
  · rename_i r p sz off len mc r' p' sz' off' len' mc'
    simp only [RM.run] at h
    obtain ⟨⟨rfl, rfl, rfl, rfl, rfl, h1, h2⟩, hK⟩ := h
    refine ⟨[], R1, hK, .refl hw hv, hsr, ?_, rfl⟩
    cases r with
    | blk b =>
      simp only [Rep] at hx ⊢
      obtain ⟨a, c, k1, k2, k3, k4⟩ := hx
      exact ⟨a, c, k1, h1, by omega, k4⟩
    | virt n =>
      simp only [Rep] at hx ⊢
      obtain ⟨a, k1, k2, k3⟩ := hx
      exact ⟨a, k1, k2, by omega⟩
  · rename_i r p v
    simp only [RM.run] at h
    cases e : hf H r with
    | none => rw [e] at h; exact h.elim
    | some en =>
      rw [e] at h
      cases en with
      | box u =>
        cases p with
        | cons s p => exact h.elim
        | nil =>
          simp only [RM.run] at h
          obtain ⟨rfl, hK⟩ := h
          obtain ⟨R2, k2, k3, b, cs', rfl, k4, k5⟩ := freeze_box hsr hw hv e
          simp only [Rep] at hx
          exact ⟨_, R2, hK, k2, k3, by simp only [Rep]; exact ⟨b, 0, cs', by simpa [poff] using hx, k4, k5⟩, rfl⟩
      | cbox u =>
        cases p with
        | cons s p => exact h.elim
        | nil =>
          simp only [RM.run] at h
          obtain ⟨rfl, hK⟩ := h
          have e1 := hsr.cbox _ _ e
          cases r with
          | virt n => exact (hw.ents _ _ e1).elim
          | blk b =>
            obtain ⟨cs', e2, fr, k1, k4, k5⟩ := hw.ents _ _ e1
            simp only [Rep] at hx
            exact ⟨[], R1, hK, .refl hw hv, hsr, by simp only [Rep]; exact ⟨b, 0, _, by simpa [poff] using hx, k4, k5⟩, rfl⟩
      | _ => exact h.elim
  · exact same hx h
theorem passL_ok : ∀ {xs ys : List AV} {H1 : Heap} {R1 : CSet} {cs : List Value} {K : Heap → Prop} (hsr : SR H H1) (hw : WfH P R1 H1 w) (hv : VBound N H1) (hx : RepL R1 w xs cs) (h : (passL xs ys).run H K),
    ∃ us R2, K us ∧ StepOK P N R1 H1 w R2 (us ++ H1) w ∧ SR H (us ++ H1) ∧ RepL R2 w ys cs
  | [], ys, H1, R1, cs, K, hsr, hw, hv, hx, h => by
    obtain ⟨rfl, hK⟩ := h
    exact ⟨[], R1, hK, .refl hw hv, hsr, hx⟩
  | x :: xs, [], H1, R1, cs, K, hsr, hw, hv, hx, h => h.elim
  | x :: xs, y :: ys, H1, R1, cs, K, hsr, hw, hv, hx, h => by
    simp only [passL, RM.run_bind] at h
    simp only [RepL] at hx
    obtain ⟨c1, c2, rfl, h1, h2⟩ := hx
    obtain ⟨us, R2, k1, k2, k3, k4, _⟩ := pass1_ok hsr hw hv h1 h
    obtain ⟨us', R3, m1, m2, m3, m4⟩ := passL_ok k3 k2.wf k2.virt (RepL.keeps k2.keeps _ _ h2) k1
    refine ⟨us' ++ us, R3, m1, ?_, ?_, ?_⟩
    · rw [List.append_assoc]; exact k2.trans m2
    · rw [List.append_assoc]; exact m3
    · simp only [RepL]; exact ⟨c1, c2, rfl, Rep.keeps m2.keeps _ _ k4, m4⟩
/-- one of a function value's own arguments -/
theorem pass1v_ok {H1 : Heap} {R1 : CSet} (hsr : SR H H1) (hw : WfH P R1 H1 w) (hv : VBound N H1) {x y : AV} {u : Value} {K : Heap → Prop} (hx : RepV R1 w x u) (h : (pass1 x y).run H K) :
    ∃ us R2, K us ∧ StepOK P N R1 H1 w R2 (us ++ H1) w ∧ SR H (us ++ H1) ∧ (y = .any ∨ Rep R2 w y u.cells.toList ∧ aggA y = aggV u) := by
  rcases hx with rfl | ⟨h1, h2⟩ | ⟨vs, A, rfl, _⟩
  · simp only [pass1, RM.run] at h
    obtain ⟨rfl, hK⟩ := h
    exact ⟨[], R1, hK, .refl hw hv, hsr, .inl rfl⟩
  · obtain ⟨us, R2, k1, k2, k3, k4, k5⟩ := pass1_ok hsr hw hv h1 h
    exact ⟨us, R2, k1, k2, k3, .inr ⟨k4, k5.trans h2⟩⟩
  · simp only [pass1, RM.run] at h
theorem passLv_ok : ∀ {xs ys : List AV} {H1 : Heap} {R1 : CSet} {us : List Value} {K : Heap → Prop} (hsr : SR H H1) (hw : WfH P R1 H1 w) (hv : VBound N H1) (hx : RepVs R1 w xs us) (h : (passL xs ys).run H K),
    ∃ fz R2, K fz ∧ StepOK P N R1 H1 w R2 (fz ++ H1) w ∧ SR H (fz ++ H1) ∧ RepVs R2 w ys us
  | [], ys, H1, R1, cs, K, hsr, hw, hv, hx, h => by
    obtain ⟨rfl, hK⟩ := h
    exact ⟨[], R1, hK, .refl hw hv, hsr, hx⟩
  | x :: xs, [], H1, R1, cs, K, hsr, hw, hv, hx, h => h.elim
  | x :: xs, y :: ys, H1, R1, cs, K, hsr, hw, hv, hx, h => by
    simp only [passL, RM.run_bind] at h
    simp only [RepVs] at hx
    obtain ⟨u, us, rfl, h1, h2⟩ := hx
    obtain ⟨fz, R2, k1, k2, k3, k4⟩ := pass1v_ok hsr hw hv (h1.imp id .inl) h
    obtain ⟨fz', R3, m1, m2, m3, m4⟩ := passLv_ok k3 k2.wf k2.virt (RepVs.keeps k2.keeps _ _ h2) k1
    refine ⟨fz' ++ fz, R3, m1, ?_, ?_, ?_⟩
    · rw [List.append_assoc]; exact k2.trans m2
    · rw [List.append_assoc]; exact m3
    · simp only [RepVs]; exact ⟨u, us, rfl, k4.imp id fun k => ⟨Rep.keeps m2.keeps _ _ k.1, k.2⟩, m4⟩
theorem passA_ok {H1 : Heap} {R1 : CSet} (hsr : SR H H1) (hw : WfH P R1 H1 w) (hv : VBound N H1) {x y : AV} {u : Value} {K : Heap → Prop} (hx : RepV R1 w x u) (h : (passA x y).run H K) :
    ∃ us R2, K us ∧ StepOK P N R1 H1 w R2 (us ++ H1) w ∧ SR H (us ++ H1) ∧ (y = .any ∨ Rep R2 w y u.cells.toList ∧ aggA y = aggV u) := by
  unfold passA at h
  split at h
  · rename_i xs ys
    obtain ⟨h1, h2⟩ := hx.cells rfl
    simp only [Rep] at h1
    obtain ⟨us, R2, k1, k2, k3, k4⟩ := passL_ok hsr hw hv h1 h
    exact ⟨us, R2, k1, k2, k3, .inr ⟨by simpa only [Rep] using k4, h2⟩⟩
  · rename_i f fi ca g gi cb
    obtain ⟨h1, h2⟩ := hx.cells rfl
    simp only [RM.run, RM.run_bind] at h
    obtain ⟨rfl, h⟩ := h
    simp only [Rep] at h1
    obtain ⟨A, B, h0, h3, h4⟩ := h1
    obtain ⟨fz, R2, k1, k2, k3, k4⟩ := passLv_ok hsr hw hv h3 h
    obtain ⟨fz', R3, m1, m2, m3, m4⟩ := passLv_ok k3 k2.wf k2.virt (RepVs.keeps k2.keeps _ _ h4) k1
    refine ⟨fz' ++ fz, R3, m1, ?_, ?_, .inr ⟨?_, h2⟩⟩
    · rw [List.append_assoc]; exact k2.trans m2
    · rw [List.append_assoc]; exact m3
    · simp only [Rep]; exact ⟨A, B, h0, RepVs.keeps m2.keeps _ _ k4, m4⟩
  · exact pass1v_ok hsr hw hv hx h
theorem RepVL.keeps {R w R' w'} (h : Keeps R w R' w') : ∀ {xs : List AV} {us : List Value}, RepVL R w xs us → RepVL R' w' xs us
  | [], _, hr => hr
  | x :: xs, _, ⟨u, us, h1, h2, h3⟩ => ⟨u, us, h1, h2.keeps h, RepVL.keeps h h3⟩
theorem passAll_ok : ∀ {xs ys : List AV} {H1 : Heap} {R1 : CSet} {us : List Value} {K : Heap → Prop} (hsr : SR H H1) (hw : WfH P R1 H1 w) (hv : VBound N H1) (hx : RepVL R1 w xs us) (h : (passAll xs ys).run H K),
    ∃ fz R2, K fz ∧ StepOK P N R1 H1 w R2 (fz ++ H1) w ∧ SR H (fz ++ H1) ∧ RepVs R2 w ys us
  | [], ys, H1, R1, cs, K, hsr, hw, hv, hx, h => by
    obtain ⟨rfl, hK⟩ := h
    exact ⟨[], R1, hK, .refl hw hv, hsr, by simpa [RepVL, RepVs] using hx⟩
  | x :: xs, [], H1, R1, cs, K, hsr, hw, hv, hx, h => h.elim
  | x :: xs, y :: ys, H1, R1, cs, K, hsr, hw, hv, hx, h => by
    simp only [passAll, RM.run_bind] at h
    obtain ⟨u, us, rfl, h1, h2⟩ := hx
    obtain ⟨fz, R2, k1, k2, k3, k4⟩ := passA_ok hsr hw hv h1 h
    have h2' := RepVL.keeps k2.keeps h2
    obtain ⟨fz', R3, m1, m2, m3, m4⟩ := passAll_ok k3 k2.wf k2.virt h2' k1
    refine ⟨fz' ++ fz, R3, m1, ?_, ?_, ?_⟩
    · rw [List.append_assoc]; exact k2.trans m2
    · rw [List.append_assoc]; exact m3
    · simp only [RepVs]; exact ⟨u, us, rfl, k4.imp id fun k => ⟨Rep.keeps m2.keeps _ _ k.1, k.2⟩, m4⟩
/-! ### the frame: what a function was not handed, it leaves alone -/
theorem hf_sub {Hin H1 : Heap} (h : ∀ p, p ∈ Hin → hf H1 p.1 = some p.2) {r e} (hr : hf Hin r = some e) : hf H1 r = some e := h _ (hf_mem hr)
theorem frame {N' : Nat} {R2 R' : CSet} {H1 Hin U : Heap} {w' : World} (hw : WfH P R2 H1 w) (hv : VBound N H1) (hsub : ∀ p, p ∈ Hin → hf H1 p.1 = some p.2) (hN : N ≤ N') (hs : StepOK P N' R2 Hin w R' (U ++ Hin) w') :
    StepOK P N R2 H1 w R' (U ++ H1) w' := by
  have hWr : ∀ b o, Wr Hin b o → Wr H1 b o := by
    intro b o h
    unfold Wr at h ⊢
    cases e : hf Hin (.blk b) with
    | none => rw [e] at h; exact h.elim
    | some en => rw [hf_sub hsub e]; rw [e] at h; exact h
  have hU : ∀ r e, hf U r = some e → hf (U ++ Hin) r = some e ∧ hf (U ++ H1) r = some e := fun r e h => by simp [hf_append, h]
  have hU0 : ∀ r, hf U r = none → hf (U ++ Hin) r = hf Hin r ∧ hf (U ++ H1) r = hf H1 r := fun r h => by simp [hf_append, h]
  have hWrU : ∀ b o, Wr (U ++ H1) b o → (Wr (U ++ Hin) b o) ∨ (hf U (.blk b) = none ∧ Wr H1 b o) := by
    intro b o h
    cases e : hf U (.blk b) with
    | none => right; refine ⟨rfl, ?_⟩; unfold Wr at h ⊢; rwa [(hU0 _ e).2] at h
    | some en => left; unfold Wr at h ⊢; rw [(hU _ _ e).2] at h; rw [(hU _ _ e).1]; exact h
  have hWlt : ∀ b o, Wr H1 b o → b < w.heap.size := by
    intro b o h
    unfold Wr at h
    cases e : hf H1 (.blk b) with
    | none => rw [e] at h; exact h.elim
    | some en => exact (hw.ents _ _ e).lt
  refine ⟨hs.keeps, fun b o h => (hs.grow b o h).imp id fun h => h.imp id (hWr b o), ?_, ⟨hs.wf.lt, ?_, ?_⟩, ?_, hs.size, hs.env, ?_, ?_⟩
  · intro b o h
    rcases hWrU b o h with h | ⟨_, h⟩
    · exact (hs.wr b o h).imp (hWr b o) id
    · exact .inl h
  · intro b o hr h
    rcases hWrU b o h with h | ⟨h0, h⟩
    · exact hs.wf.dis b o hr h
    · rcases hs.grow b o hr with h2 | h2 | h2
      · exact hw.dis b o h2 h
      · have := hWlt b o h; omega
      · refine hs.wf.dis b o hr ?_
        unfold Wr at h2 ⊢
        rw [(hU0 _ h0).1]
        exact h2
  · intro r e h
    cases eU : hf U r with
    | some en =>
      rw [(hU _ _ eU).2] at h
      cases h
      exact hs.wf.ents _ _ (hU _ _ eU).1
    | none =>
      rw [(hU0 _ eU).2] at h
      cases eI : hf Hin r with
      | some en =>
        have := hf_sub hsub eI
        rw [h] at this
        cases this
        exact hs.wf.ents _ _ (by rw [(hU0 _ eU).1]; exact eI)
      | none =>
        refine (hw.ents _ _ h).keeps hs.keeps hs.size fun b hb => ?_
        subst hb
        exact (hs.others b (hw.ents _ _ h).lt eI).1
  · intro b hb hn
    have hI : hf Hin (.blk b) = none := by
      cases e : hf Hin (.blk b) with
      | none => rfl
      | some en => rw [hf_sub hsub e] at hn; cases hn
    obtain ⟨h1, h2⟩ := hs.others b hb hI
    refine ⟨h1, ?_⟩
    rw [hf_append] at h2 ⊢
    cases e : hf U (.blk b) with
    | none => exact hn
    | some en => rw [e] at h2; cases h2
  · intro r hr
    cases eU : hf U r with
    | none => left; rwa [(hU0 _ eU).2] at hr
    | some en =>
      rcases hs.news r (by rw [(hU _ _ eU).1]; simp) with h | h
      · left
        cases e : hf Hin r with
        | none => exact absurd e h
        | some en => rw [hf_sub hsub e]; simp
      · right
        cases r with
        | blk b => exact h
        | virt n => exact Nat.le_trans hN h
  · obtain ⟨M1, m1, m2⟩ := hs.virt
    obtain ⟨M2, m3, m4⟩ := hv
    refine ⟨max M1 M2, by omega, fun n hn => ?_⟩
    rw [hf_append] at hn
    cases eU : hf U (.virt n) with
    | none => rw [eU] at hn; have := m4 n hn; omega
    | some en => have := m2 n (by rw [(hU _ _ eU).1]; simp); omega
theorem WfH.sub {R2 : CSet} {H1 Hin : Heap} (hw : WfH P R2 H1 w) (hsub : ∀ p, p ∈ Hin → hf H1 p.1 = some p.2) : WfH P R2 Hin w := by
  refine ⟨hw.lt, fun b o hr h => hw.dis b o hr ?_, fun r e h => hw.ents _ _ (hf_sub hsub h)⟩
  unfold Wr at h ⊢
  cases e : hf Hin (.blk b) with
  | none => rw [e] at h; exact h.elim
  | some en => rw [hf_sub hsub e]; rw [e] at h; exact h
theorem picks_frame {N' : Nat} {Hin : Heap} (hw : WfH P R H w) (hN : N ≤ N') (hV : ∀ n, hf H (.virt n) ≠ none → n < N') : ∀ {ch used ids}, Picks N' w Hin ch used ids → Picks N w H ch used ids := by
  intro ch used ids h
  induction h with
  | nil => exact .nil
  | @cons c cs used r rs h1 h2 h3 h4 ih =>
    refine .cons ?_ h2 (h3.imp (fun h => ?_) id) ih
    · refine freshBut_of fun k hk => ?_
      rcases h3 with h3 | h3
      · right
        rintro rfl
        cases k with
        | blk b =>
          cases e : hf H (.blk b) with
          | none => exact hk e
          | some en => have := (hw.ents _ _ e).lt; simp only [NewId] at h3; omega
        | virt n => have := hV n hk; simp only [NewId] at h3; omega
      · by_cases e : k = r
        · exact .inl (by rw [e]; exact h3.symm)
        · exact .inr e
    · cases r with
      | blk b => exact h
      | virt n => exact Nat.le_trans hN h
mutual
theorem flat_rep {R R' : CSet} : ∀ (v : AV) (cs : List Value), flat v = true → Rep R w v cs → Rep R' w v cs
  | .int _ _, _, _, h => h
  | .bool _, _, _, h => h
  | .str _, _, _, h => h
  | .nilp, _, _, h => h
  | .nils, _, _, h => h
  | .nilm, _, _, h => h
  | .nilf, _, _, h => h
  | .nili, _, _, h => h
  | .agg vs, cs, hf, h => by
    simp only [flat] at hf
    simp only [Rep] at h ⊢
    exact flatL_rep vs cs hf h
  | .tup vs, cs, _, h => by simp [Rep] at h
  | .any, _, hf, _ => by simp [flat] at hf
  | .ptr _ _, _, hf, _ => by simp [flat] at hf
  | .cref _, _, hf, _ => by simp [flat] at hf
  | .list _, _, hf, _ => by simp [flat] at hf
  | .own _ _ _ _ _ _, _, hf, _ => by simp [flat] at hf
  | .map _, _, hf, _ => by simp [flat] at hf
  | .func _ _ _, _, hf, _ => by simp [flat] at hf
  | .iface _ _, _, hf, _ => by simp [flat] at hf
theorem flatL_rep {R R' : CSet} : ∀ (vs : List AV) (cs : List Value), flatL vs = true → RepL R w vs cs → RepL R' w vs cs
  | [], _, _, h => h
  | v :: vs, cs, hf, h => by
    simp only [flatL, Bool.and_eq_true] at hf
    simp only [RepL] at h ⊢
    obtain ⟨c1, c2, rfl, h1, h2⟩ := h
    exact ⟨c1, c2, rfl, flat_rep v c1 hf.1 h1, flatL_rep vs c2 hf.2 h2⟩
end
theorem flat_repVs {R R' : CSet} : ∀ {vs : List AV} {us : List Value}, flatL vs = true → RepVs R w vs us → RepVs R' w vs us
  | [], _, _, h => h
  | v :: vs, us, hf, h => by
    simp only [flatL, Bool.and_eq_true] at hf
    simp only [RepVs] at h ⊢
    obtain ⟨u, us', rfl, h1, h2⟩ := h
    exact ⟨u, us', rfl, h1.imp id fun h => ⟨flat_rep _ _ hf.1 h.1, h.2⟩, flat_repVs hf.2 h2⟩
theorem flat_repV {R R' : CSet} {v u} (hf : flat v = true) (h : RepV R w v u) : RepV R' w v u := by
  rcases h with h | ⟨h1, h2⟩ | ⟨vs, A, rfl, h2, h3⟩
  · exact .inl h
  · exact .of (flat_rep _ _ hf h1) h2
  · exact .inr (.inr ⟨vs, A, rfl, h2, flat_repVs hf h3⟩)
theorem CallF.mono {f args} {Q Q' : Ending → World → Prop} (h : CallF P f args w Q) (hq : ∀ e w', Q e w' → Q' e w') : CallF P f args w Q' := by
  unfold CallF at h ⊢
  split
  · rename_i g as w1 e; rw [e] at h; exact Calls.mono h hq
  · rename_i v w1 e; rw [e] at h; exact hq _ _ h
  · rename_i h1 h2
    split at h
    · rename_i g as w1 e; exact h1 _ _ _ e
    · rename_i v w1 e; exact h2 _ _ e
    · exact h
theorem call_ok (hw : WfH P R H w) (hv : VBound N H) {f : FuncId} {xs pargs : List AV} {Hin : Heap} {out : Out} {tmp : Bool} {us : Array Value} {K : Out → Prop} (hf : FnG P f pargs Hin out) (hu : RepVL R w xs us.toList)
    (h : (callRM xs pargs Hin out tmp).run H K) : CallF P f us w fun e w' => ∃ v out', e = .returned v ∧ K out' ∧ OutOK P N R H w out' v w' := by
  simp only [callRM, RM.run_bind] at h
  obtain ⟨fz, R2, k1, k2, k3, k4⟩ := passAll_ok (.refl H) hw hv hu h
  simp only [RM.run] at k1
  obtain ⟨k0, k5, k6⟩ := k1
  have hap : ∀ {fz : Heap}, apart fz Hin → ∀ p, p ∈ Hin → Am.hf fz p.1 = none := by
    intro fz
    induction fz with
    | nil => intro _ p hp; rfl
    | cons q fz ih =>
      obtain ⟨k, e⟩ := q
      intro hap p hp
      obtain ⟨a1, a2⟩ := hap
      have := freshBut_spec a1 p.1 (hf_ne_none_of_mem (e := p.2) hp)
      simp only [reduceCtorEq, false_or] at this
      have hne : ¬ (k = p.1) := fun e1 => this e1.symm
      simp only [Am.hf, hne, if_false]
      exact ih a2 p hp
  have hsub : ∀ p, p ∈ Hin → Am.hf (fz ++ H) p.1 = some p.2 := fun p hp => by rw [hf_append, hap k0 p hp]; exact k5 p hp
  obtain ⟨M, m1, m2⟩ := hv
  have hVin : ∀ n, Am.hf Hin (.virt n) ≠ none → n < M := by
    intro n hn
    cases e : Am.hf Hin (.virt n) with
    | none => exact absurd e hn
    | some en => exact m2 n (by have := k5 _ (hf_mem e); rw [this]; simp)
  have hcall := hf w R2 M us (k2.wf.sub hsub) ⟨M, Nat.le_refl _, hVin⟩ hVin k4
  refine hcall.mono ?_
  rintro e w' ⟨v, ids, R', rfl, p1, p2, p3⟩
  cases tmp with
  | true =>
    simp only [if_true, RM.run] at k6
    obtain ⟨⟨rfl, c1, c2, c3⟩, hK⟩ := k6
    rw [c1] at p1
    cases p1
    refine ⟨v, out, rfl, hK, [], R, by rw [c1]; exact .nil, ?_, flat_repV c3 p3⟩
    rw [c2]
    have hheap : ∀ b, b < w.heap.size → w'.heap[b]? = w.heap[b]? := fun b hb => (p2.others b hb rfl).1
    have hk : Keeps R w R w' := .of_heap (fun _ _ h => h) hheap
    exact ⟨hk, fun _ _ h => .inl h, fun _ _ h => .inl h, ⟨fun b o h => Nat.lt_of_lt_of_le (hw.lt b o h) p2.size, hw.dis, fun r e h => (hw.ents r e h).keeps hk p2.size fun b hb => hheap b (by subst hb; exact (hw.ents _ _ h).lt)⟩,
      fun b hb hn => ⟨hheap b hb, hn⟩, p2.size, p2.env, fun r hr => .inl hr, ⟨M, m1, m2⟩⟩
  | false =>
    simp only [Bool.false_eq_true, if_false, RM.run] at k6
    refine ⟨v, _, rfl, k6, ids, R', picks_frame hw m1 m2 p1, ?_, p3⟩
    have := k2.trans (frame k2.wf k2.virt hsub m1 p2)
    simpa [List.append_assoc] using this
end
end Go.Am
set_option linter.unusedVariables false
namespace Go.Am
section
variable {P : Program} {tb : Nat → Option TyA} {sp : FuncId → List AV → RM CallSpec}

theorem SimR.put {B : Base} {R R' : CSet} {st : St} {a : Act} {w w' : World} {out : Out} {ids : List Id} {u : Value} {d : Option Nat} (hs : SimR P B R st a w) (hd : ∀ t, d = some t → t < B.n)
    (h1 : StepOK P B.N R st.H w R' ((out.f ids).2 ++ st.H) w') (h2 : RepV R' w' (out.f ids).1 u) : SimR P B R' (putO st d (out.f ids)) (a.put d u) w' := by
  refine ⟨hs.step.trans h1, ?_, ?_, ?_⟩
  · cases d with
    | none => exact hs.size
    | some d => simp [Act.put, hs.size]
  · intro t
    cases d with
    | none => exact (hs.tmps t).keeps h1.keeps
    | some d =>
      simp only [putO, lk, Act.put]
      by_cases e : d = t
      · subst e
        rw [if_pos rfl]
        have := hd d rfl
        rw [← hs.size] at this
        have e2 : (a.tmps.setIfInBounds d u).getD d undef = u := by simp [Array.getD_eq_getD_getElem?, this]
        rw [e2]
        exact h2
      · rw [if_neg e]
        have e2 : (a.tmps.setIfInBounds d u).getD t undef = a.tmps.getD t undef := by
          simp only [Array.getD_eq_getD_getElem?, Array.getElem?_setIfInBounds_ne e]
        rw [e2]
        exact (hs.tmps t).keeps h1.keeps
  · cases d with
    | none => exact hs.defers
    | some d => exact hs.defers
/-- what an operation comes to, told of the machine's own rule -/
theorem semX_ok (hb : TbOK P tb) {B : Base} {R : CSet} {st : St} {a : Act} {w : World} {o : Oper} {K : Out → Prop} {next : Act → World → Prop} {Q : Exit → Act → World → Prop} (hs : SimR P B R st a w)
    (h : (semX P tb sp st.T o.op).run st.H K) (hnext : ∀ out u w', K out → OutOK P B.N R st.H w out u w' → next (a.put o.dst u) w') : o.wp P a w next Q := by
  have hw := hs.step.wf
  have hv := hs.step.virt
  have hplain : ∀ (h : (semOp tb st.T o.op).run st.H K), o.wp P a w next Q := by
    intro h
    obtain ⟨out, nx, w', h1, h2, h3⟩ := semOp_ok hb hw hv hs.tmps h
    unfold Oper.wp
    rw [h1]
    rcases h3 with ⟨u, rfl, h3⟩ | ⟨rfl, h3⟩
    · exact hnext _ _ _ h2 h3
    · exact hnext _ _ _ h2 (h3 undef)
  unfold semX at h
  split at h
  · rename_i c hc
    split at h
    · rename_i f hf
      have hfv := ev_rep hs.tmps f
      unfold semCall at h
      split at h
      · rename_i g fi ca e
        rw [e] at hfv
        have hr := hfv.one rfl rfl
        simp only [RM.run_bind, RM.run] at h
        simp only [Rep, List.cons.injEq, and_true] at hr
        obtain ⟨A, Bc, hfu, h3, h4⟩ := hr
        have hrun : (execOp a.eval o).run P w = (callFunc g ((A ++ c.args.map a.eval) ++ Bc)).run P w := by
          obtain ⟨dst, op, type, pos, after, guard⟩ := o
          subst hc
          simp only [execOp, resolve, hf, hfu, Deferred.ofValue, Sem.run_bind, Sem.run_pure, Result.andThen_ok, invoke]
        have hvl : RepVL R w (fi ++ c.args.toList.map (ev st.T) ++ ca) (((A ++ c.args.map a.eval) ++ Bc)).toList := by
          have e1 : ∀ {xs : List AV} {us : List Value}, RepVs R w xs us → RepVL R w xs us := by
            intro xs
            induction xs with
            | nil => intro us h; simpa [RepVs, RepVL] using h
            | cons x xs ih =>
              intro us h
              simp only [RepVs] at h
              obtain ⟨u, us', h1, h2, h3⟩ := h
              exact ⟨u, us', h1, h2.imp id .inl, ih h3⟩
          have e2 : ∀ {xs ys : List AV} {us vs : List Value}, RepVL R w xs us → RepVL R w ys vs → RepVL R w (xs ++ ys) (us ++ vs) := by
            intro xs
            induction xs with
            | nil => intro ys us vs h k; simp only [RepVL] at h; subst h; exact k
            | cons x xs ih =>
              intro ys us vs h k
              obtain ⟨u, us', rfl, h2, h3⟩ := h
              exact ⟨u, us' ++ vs, rfl, h2, ih h3 k⟩
          rw [Array.toList_append, Array.toList_append]
          exact e2 (e2 (e1 h3) (evsA_rep hs.tmps _)) (e1 h4)
        -- the contract that the table tells
        have hget : ∀ {x : RM CallSpec} {K' : CallSpec → Prop}, x.run st.H K' → ∃ s, K' s := by
          intro x
          induction x with
          | ret s => intro K' h; exact ⟨s, h⟩
          | fail => intro K' h; exact h.elim
          | get r k ih => intro K' h; exact ih _ h
          | need hh k ih => intro K' h; exact ih h.2
          | asrt p k ih => intro K' h; exact ih h.2
          | dem k ih => intro K' h; exact ih true (h true)
        obtain ⟨s, hFn, hs2⟩ := hget h
        have := call_ok hw hv hFn hvl hs2
        unfold Oper.wp
        rw [hrun]
        unfold CallF at this
        split at this
        · rename_i g' as w1 er
          rw [er]
          refine Calls.mono this ?_
          rintro e w'' ⟨v, out, rfl, k1, k2⟩
          exact hnext _ _ _ k1 k2
        · rename_i v w1 er
          rw [er]
          obtain ⟨v', out, e1, k1, k2⟩ := this
          cases e1
          exact hnext _ _ _ k1 k2
        · exact this.elim
      · exact h.elim
    · exact hplain (by rw [hc]; exact h)
  · exact hplain h
theorem rep_undef {R : CSet} {w : World} : RepV R w (.tup []) undef := .inr (.inr ⟨[], #[], rfl, rfl, by simp [RepVs]⟩)
theorem getD_bool {a : Array Value} {d : Nat} {b : Bool} (h : a.getD d undef = .bool b) : a[d]? = some (.bool b) := by
  rw [Array.getD_eq_getD_getElem?] at h
  cases e : a[d]? with
  | none => rw [e] at h; simp [undef] at h
  | some v => rw [e] at h; simpa using h
/-- one operation of a region -/
theorem step_ok (hb : TbOK P tb) {B : Base} {R : CSet} {st : St} {a : Act} {w : World} {ops : Array Oper} {i : Nat} {o : Oper} {K : Out → Prop} {next : Act → World → Prop} {Q : Exit → Act → World → Prop} (hs : SimR P B R st a w)
    (ho : ops[i]? = some o) (h : (stepRM P tb sp ops.toList st.T o).run st.H K) (hnext : ∀ out u w', K out → OutOK P B.N R st.H w out u w' → next (a.put o.dst u) w') : wpOp P ops Q i next a w := by
  unfold wpOp
  simp only [ho]
  unfold stepRM at h
  unfold Region.wanted
  cases hg : o.guard with
  | none =>
    rw [hg] at h
    simp only [if_true]
    exact .inl (semX_ok hb hs h hnext)
  | some gw =>
    obtain ⟨g, want⟩ := gw
    rw [hg] at h
    simp only [semG] at h
    split at h
    · rename_i b hgv
      have hy : yielded ops a.tmps g = some b := by
        unfold gval gslot at hgv
        unfold yielded
        rw [← Array.getElem?_toList]
        cases eo : ops.toList[g]? with
        | none => rw [eo] at hgv; cases hgv
        | some og =>
          rw [eo] at hgv
          cases ed : og.dst with
          | none => simp only [ed] at hgv; cases hgv
          | some d =>
            simp only [ed] at hgv
            have := hs.tmps d
            rw [hgv] at this
            have := getD_bool this.bool
            simp [ed, this]
      simp only [hy]
      split at h
      · rename_i hbw
        subst hbw
        rw [if_pos (by simp)]
        exact .inl (semX_ok hb hs h hnext)
      · rename_i hbw
        rw [if_neg (by simpa using hbw)]
        exact hnext _ _ _ h (.val hs.step.wf hs.step.virt rep_undef)
    · rename_i l hgv
      cases l with
      | cons x xs => exact h.elim
      | nil =>
      have hy : yielded ops a.tmps g = none := by
        unfold gval gslot at hgv
        unfold yielded
        rw [← Array.getElem?_toList]
        cases eo : ops.toList[g]? with
        | none => rw [eo] at hgv; cases hgv
        | some og =>
          rw [eo] at hgv
          cases ed : og.dst with
          | none => simp only [ed] at hgv; cases hgv
          | some d =>
            simp only [ed] at hgv
            have := hs.tmps d
            rw [hgv] at this
            obtain ⟨A, hA, hr⟩ := this.tup
            simp only [RepVs] at hr
            rw [Array.getD_eq_getD_getElem?] at hA
            cases e1 : a.tmps[d]? with
            | none => simp [ed, e1]
            | some v =>
              rw [e1] at hA
              simp only [Option.getD_some] at hA
              subst hA
              simp [ed, e1]
      simp only [hy]
      rw [if_neg (by simp)]
      exact hnext _ _ _ h (.val hs.step.wf hs.step.virt rep_undef)
    · exact h.elim
def dstsOK (n : Nat) (ops : List Oper) : Bool := ops.all fun o => match o.dst with | some d => decide (d < n) | none => true
theorem dstsOK_spec {n : Nat} {ops : List Oper} (h : dstsOK n ops = true) {i : Nat} {o : Oper} (ho : ops[i]? = some o) : ∀ d, o.dst = some d → d < n := by
  intro d hd
  have := List.all_eq_true.1 h o (List.mem_of_getElem? ho)
  simpa [hd] using this
theorem WL_ok (hb : TbOK P tb) {B : Base} {ops : Array Oper} {Q : Exit → Act → World → Prop} {K : St → Prop} (hd : dstsOK B.n ops.toList = true) (hK : ∀ R st a w, SimR P B R st a w → K st → Q .normal a w) :
    ∀ (l : List Oper) (k : Nat), ops.toList.drop k = l → ∀ {R : CSet} {st : St} {a : Act} {w : World}, SimR P B R st a w → WL P tb sp ops.toList l st K → wpOps P ops Q (List.range' k l.length) a w
  | [], k, hl, R, st, a, w, hs, h => by
    simp only [List.length_nil, List.range'_zero, wpOps]
    exact hK _ _ _ _ hs h
  | o :: l, k, hl, R, st, a, w, hs, h => by
    have ho : ops.toList[k]? = some o := by
      have : (ops.toList.drop k)[0]? = some o := by rw [hl]; rfl
      simpa using this
    have hl' : ops.toList.drop (k + 1) = l := by
      rw [← List.drop_drop, hl]; rfl
    simp only [List.length_cons, List.range'_succ]
    rw [wpOps_cons]
    simp only [WL] at h
    refine step_ok hb hs (by rw [← Array.getElem?_toList]; exact ho) h ?_
    rintro out u w' k1 ⟨ids, R', k2, k3, k4⟩
    exact WL_ok hb hd hK l (k + 1) hl' (hs.put (dstsOK_spec hd ho) k3 k4) (pickIds_ids k2 k1)
end
end Go.Am
set_option linter.unusedVariables false
namespace Go.Am

inductive RM.Leaf {α : Type} (H : Heap) : RM α → List Id → α → List Id → Prop
  | ret {a log} : RM.Leaf H (.ret a) log a log
  | get {r k log a l} : RM.Leaf H (k (hf H r)) (r :: log) a l → RM.Leaf H (.get r k) log a l
  | need {h k log a l} : RM.Leaf H k (h.map Prod.fst ++ log) a l → RM.Leaf H (.need h k) log a l
  | asrt {p k log a l} : RM.Leaf H k log a l → RM.Leaf H (.asrt p k) log a l
  | dem {k log a l} (b : Bool) : RM.Leaf H (k b) log a l → RM.Leaf H (.dem k) log a l
def RM.safe {α : Type} (H : Heap) : RM α → Prop
  | .ret _ => True
  | .fail => False
  | .get r k => (k (hf H r)).safe H
  | .need h k => (∀ p, p ∈ h → hf H p.1 = some p.2) ∧ k.safe H
  | .asrt p k => p ∧ k.safe H
  | .dem k => ∀ b, (k b).safe H
theorem RM.runL_iff {α : Type} {H : Heap} : ∀ (x : RM α) (log : List Id) (K : α → List Id → Prop), x.runL H log K ↔ x.safe H ∧ ∀ a l, x.Leaf H log a l → K a l
  | .ret a, log, K => ⟨fun h => ⟨trivial, fun a' l hl => by cases hl; exact h⟩, fun h => h.2 _ _ .ret⟩
  | .fail, log, K => ⟨fun h => h.elim, fun h => h.1.elim⟩
  | .get r k, log, K => by
    simp only [RM.runL, RM.safe, RM.runL_iff (k (hf H r))]
    exact ⟨fun h => ⟨h.1, fun a l hl => by cases hl with | get hl => exact h.2 _ _ hl⟩, fun h => ⟨h.1, fun a l hl => h.2 _ _ (.get hl)⟩⟩
  | .need h' k, log, K => by
    simp only [RM.runL, RM.safe, RM.runL_iff k]
    exact ⟨fun h => ⟨⟨h.1, h.2.1⟩, fun a l hl => by cases hl with | need hl => exact h.2.2 _ _ hl⟩, fun h => ⟨h.1.1, h.1.2, fun a l hl => h.2 _ _ (.need hl)⟩⟩
  | .asrt p k, log, K => by
    simp only [RM.runL, RM.safe, RM.runL_iff k]
    exact ⟨fun h => ⟨⟨h.1, h.2.1⟩, fun a l hl => by cases hl with | asrt hl => exact h.2.2 _ _ hl⟩, fun h => ⟨h.1.1, h.1.2, fun a l hl => h.2 _ _ (.asrt hl)⟩⟩
  | .dem k, log, K => by
    simp only [RM.runL, RM.safe]
    constructor
    · intro h
      exact ⟨fun b => ((RM.runL_iff (k b) log K).1 (h b)).1, fun a l hl => by cases hl with | dem b hl => exact ((RM.runL_iff (k b) log K).1 (h b)).2 _ _ hl⟩
    · intro h b
      exact (RM.runL_iff (k b) log K).2 ⟨h.1 b, fun a l hl => h.2 _ _ (.dem b hl)⟩
theorem RM.safe_leaf {α : Type} {H : Heap} : ∀ (x : RM α) (log : List Id), x.safe H → ∃ a l, x.Leaf H log a l
  | .ret a, log, _ => ⟨a, log, .ret⟩
  | .fail, log, h => h.elim
  | .get r k, log, h => let ⟨a, l, hl⟩ := RM.safe_leaf (k (hf H r)) (r :: log) h; ⟨a, l, .get hl⟩
  | .need _ k, log, h => let ⟨a, l, hl⟩ := RM.safe_leaf k _ h.2; ⟨a, l, .need hl⟩
  | .asrt _ k, log, h => let ⟨a, l, hl⟩ := RM.safe_leaf k _ h.2; ⟨a, l, .asrt hl⟩
  | .dem k, log, h => let ⟨a, l, hl⟩ := RM.safe_leaf (k true) _ (h true); ⟨a, l, .dem true hl⟩
theorem RM.Leaf.sub {α : Type} {H : Heap} {x : RM α} {log l : List Id} {a : α} (h : x.Leaf H log a l) : ∀ r ∈ log, r ∈ l := by
  induction h with
  | ret => exact fun r h => h
  | get _ ih => exact fun r h => ih r (List.mem_cons_of_mem _ h)
  | need _ ih => exact fun r h => ih r (List.mem_append_right _ h)
  | asrt _ ih => exact ih
  | dem b _ ih => exact ih
/-- a heap that answers alike -/
theorem RM.move {α : Type} {H H' : Heap} : ∀ (x : RM α) (log : List Id), x.safe H → (∀ a l, x.Leaf H log a l → ∀ r ∈ l, hf H' r = hf H r) → x.safe H' ∧ ∀ a l, x.Leaf H' log a l ↔ x.Leaf H log a l
  | .ret a, log, _, _ => ⟨trivial, fun a' l => ⟨fun h => by cases h; exact .ret, fun h => by cases h; exact .ret⟩⟩
  | .fail, log, h, _ => h.elim
  | .get r k, log, h, hr => by
    have e : hf H' r = hf H r := by
      obtain ⟨a, l, hl⟩ := RM.safe_leaf (k (hf H r)) (r :: log) h
      exact hr a l (.get hl) r (hl.sub r (List.mem_cons_self ..))
    obtain ⟨h1, h2⟩ := RM.move (H := H) (H' := H') (k (hf H r)) (r :: log) h fun a l hl => hr a l (.get hl)
    refine ⟨by simp only [RM.safe, e]; exact h1, fun a l => ⟨fun hl => ?_, fun hl => ?_⟩⟩
    · cases hl with | get hl => rw [e] at hl; exact .get ((h2 a l).1 hl)
    · cases hl with | get hl => refine .get ?_; rw [e]; exact (h2 a l).2 hl
  | .need h' k, log, h, hr => by
    obtain ⟨h1, h2⟩ := RM.move (H := H) (H' := H') k (h'.map Prod.fst ++ log) h.2 fun a l hl => hr a l (.need hl)
    have e : ∀ p ∈ h', hf H' p.1 = hf H p.1 := by
      intro p hp
      obtain ⟨a, l, hl⟩ := RM.safe_leaf k (h'.map Prod.fst ++ log) h.2
      exact hr a l (.need hl) p.1 (hl.sub _ (List.mem_append_left _ (List.mem_map.2 ⟨p, hp, rfl⟩)))
    refine ⟨⟨fun p hp => by rw [e p hp]; exact h.1 p hp, h1⟩, fun a l => ⟨fun hl => ?_, fun hl => ?_⟩⟩
    · cases hl with | need hl => exact .need ((h2 a l).1 hl)
    · cases hl with | need hl => exact .need ((h2 a l).2 hl)
  | .asrt p k, log, h, hr => by
    obtain ⟨h1, h2⟩ := RM.move (H := H) (H' := H') k log h.2 fun a l hl => hr a l (.asrt hl)
    refine ⟨⟨h.1, h1⟩, fun a l => ⟨fun hl => ?_, fun hl => ?_⟩⟩
    · cases hl with | asrt hl => exact .asrt ((h2 a l).1 hl)
    · cases hl with | asrt hl => exact .asrt ((h2 a l).2 hl)
  | .dem k, log, h, hr => by
    have ih := fun b => RM.move (H := H) (H' := H') (k b) log (h b) fun a l hl => hr a l (.dem b hl)
    refine ⟨fun b => (ih b).1, fun a l => ⟨fun hl => ?_, fun hl => ?_⟩⟩
    · cases hl with | dem b hl => exact .dem b (((ih b).2 a l).1 hl)
    · cases hl with | dem b hl => exact .dem b (((ih b).2 a l).2 hl)
theorem RM.runL_congr {α : Type} {H H' : Heap} (he : ∀ r, hf H' r = hf H r) {x : RM α} {log : List Id} {K : α → List Id → Prop} (h : x.runL H log K) : x.runL H' log K := by
  rw [RM.runL_iff] at h ⊢
  obtain ⟨h1, h2⟩ := RM.move (H' := H') x log h.1 fun _ _ _ r _ => he r
  exact ⟨h1, fun a l hl => h.2 a l ((h2 a l).1 hl)⟩
theorem RM.runL_mono {α : Type} {H : Heap} {x : RM α} {log : List Id} {K K' : α → List Id → Prop} (h : x.runL H log K) (hk : ∀ a l, K a l → K' a l) : x.runL H log K' := by
  rw [RM.runL_iff] at h ⊢
  exact ⟨h.1, fun a l hl => hk a l (h.2 a l hl)⟩
theorem RM.run_of_runL {α : Type} {H : Heap} : ∀ {x : RM α} {log : List Id} {K : α → Prop}, x.runL H log (fun a _ => K a) → x.run H K
  | .ret a, log, K, h => h
  | .fail, log, K, h => h
  | .get r k, log, K, h => RM.run_of_runL (x := k (hf H r)) h
  | .need _ k, log, K, h => ⟨h.1, RM.run_of_runL (x := k) h.2⟩
  | .asrt _ k, log, K, h => ⟨h.1, RM.run_of_runL (x := k) h.2⟩
  | .dem k, log, K, h => fun b => RM.run_of_runL (x := k b) (h b)

/-! ids -/
inductive Pick (H : Heap) : List (Option Id) → List Id → List Id → Prop
  | nil {used} : Pick H [] used []
  | cons {c cs used r rs} : freshBut c H r → notIn used r → Pick H cs (r :: used) rs → Pick H (c :: cs) used (r :: rs)
theorem pickIds_iff {H : Heap} : ∀ (ch : List (Option Id)) (used : List Id) (K : List Id → Prop), pickIds H ch used K ↔ ∀ ids, Pick H ch used ids → K ids
  | [], used, K => ⟨fun h ids hi => by cases hi; exact h, fun h => h _ .nil⟩
  | c :: cs, used, K => by
    simp only [pickIds]
    constructor
    · intro h ids hi
      cases hi with
      | cons h1 h2 h3 => exact (pickIds_iff cs _ _).1 (h _ h1 h2) _ h3
    · intro h r h1 h2
      exact (pickIds_iff cs _ _).2 fun ids hi => h _ (.cons h1 h2 hi)
theorem freshBut_iff {q : Option Id} {H : Heap} {r : Id} : freshBut q H r ↔ ∀ k, hf H k ≠ none → some k = q ∨ k ≠ r := ⟨freshBut_spec, freshBut_of⟩
theorem freshBut_congr {q : Option Id} {H H' : Heap} {r : Id} (he : ∀ k, hf H k ≠ none → hf H' k ≠ none) (h : freshBut q H' r) : freshBut q H r :=
  freshBut_iff.2 fun k hk => freshBut_iff.1 h k (he k hk)
theorem Pick.congr {H H' : Heap} (he : ∀ k, hf H k ≠ none → hf H' k ≠ none) {ch used ids} (h : Pick H' ch used ids) : Pick H ch used ids := by
  induction h with
  | nil => exact .nil
  | cons h1 h2 _ ih => exact .cons (freshBut_congr he h1) h2 ih
/-- a bound above all ids of a list -/
def vmax : List Id → Nat
  | [] => 0
  | .virt n :: l => max (n + 1) (vmax l)
  | .blk _ :: l => vmax l
theorem vmax_spec : ∀ {l : List Id} {n : Nat}, Id.virt n ∈ l → n < vmax l
  | [], n, h => by cases h
  | .virt m :: l, n, h => by
    simp only [vmax]
    cases h with
    | head => omega
    | tail _ h => have := vmax_spec h; omega
  | .blk b :: l, n, h => by
    simp only [vmax]
    cases h with
    | tail _ h => exact vmax_spec (l := l) h
theorem hf_key {H : Heap} {k : Id} (h : hf H k ≠ none) : k ∈ H.map Prod.fst := by
  cases e : hf H k with
  | none => exact absurd e h
  | some en => exact List.mem_map.2 ⟨_, hf_mem e, rfl⟩
theorem Pick.exists' (H : Heap) : ∀ (ch : List (Option Id)) (used : List Id) (n : Nat), vmax (H.map Prod.fst) ≤ n → vmax used ≤ n → ∃ ids, Pick H ch used ids ∧ ∀ r ∈ ids, hf H r = none
  | [], used, n, _, _ => ⟨[], .nil, by simp⟩
  | c :: cs, used, n, h1, h2 => by
    obtain ⟨ids, hi, hn⟩ := Pick.exists' H cs (.virt n :: used) (n + 1) (by omega) (by simp only [vmax]; omega)
    have h0 : hf H (.virt n) = none := by
      cases e : hf H (.virt n) with
      | none => rfl
      | some en =>
        have := vmax_spec (hf_key (by rw [e]; simp : hf H (.virt n) ≠ none))
        omega
    refine ⟨.virt n :: ids, .cons (freshBut_none _ h0) (notIn_spec.2 ?_) hi, ?_⟩
    · intro hm
      have := vmax_spec hm
      omega
    · intro r hr
      cases hr with
      | head => exact h0
      | tail _ hr => exact hn r hr
/-- ids that keep clear of a list -/
theorem Pick.exists (H : Heap) (ch : List (Option Id)) (F : List Id) : ∃ ids, Pick H ch [] ids ∧ ∀ r ∈ ids, r ∉ F := by
  obtain ⟨ids, h1, h2⟩ := Pick.exists' (F.map (fun r => (r, Ent.dead)) ++ H) ch [] _ (Nat.le_refl _) (by simp [vmax])
  refine ⟨ids, h1.congr fun k hk => ?_, fun r hr hF => ?_⟩
  · rw [hf_append]
    split
    · simp
    · exact hk
  · have h3 := h2 r hr
    rw [hf_append] at h3
    cases e : hf (F.map (fun r => (r, Ent.dead))) r with
    | none =>
      have : ∀ {F : List Id}, r ∈ F → hf (F.map (fun r => (r, Ent.dead))) r ≠ none := by
        intro F
        induction F with
        | nil => intro h; cases h
        | cons q F ih =>
          intro h
          simp only [List.map_cons, hf]
          split
          · simp
          · rename_i hne
            cases h with
            | head => exact absurd rfl hne
            | tail _ h => exact ih h
      exact this hF e
    | some en => rw [e] at h3; cases h3
theorem Pick.mem {H : Heap} {ch used ids} (h : Pick H ch used ids) : ∀ r ∈ ids, ∃ c ∈ ch, freshBut c H r := by
  induction h with
  | nil => simp
  | @cons c cs used r rs h1 h2 h3 ih =>
    intro q hq
    cases hq with
    | head => exact ⟨c, List.mem_cons_self .., h1⟩
    | tail _ hq => obtain ⟨c', k1, k2⟩ := ih q hq; exact ⟨c', List.mem_cons_of_mem _ k1, k2⟩
theorem Pick.lift {H H' : Heap} {ch used ids} (h : Pick H ch used ids) (hl : ∀ k r c, hf H' k ≠ none → r ∈ ids → freshBut c H r → some k = c ∨ k ≠ r) : Pick H' ch used ids := by
  induction h with
  | nil => exact .nil
  | @cons c cs used r rs h1 h2 h3 ih =>
    exact .cons (freshBut_iff.2 fun k hk => hl k r c hk (List.mem_cons_self ..) h1) h2 (ih fun k q c' hk hq => hl k q c' hk (List.mem_cons_of_mem _ hq))
theorem hf_out {U H : Heap} {r : Id} (h : r ∉ U.map Prod.fst) : hf (U ++ H) r = hf H r := by
  rw [hf_append]
  cases e : hf U r with
  | none => rfl
  | some en => exact absurd (hf_key (by rw [e]; simp)) h
theorem hf_in {U : Heap} {r : Id} (h : r ∈ U.map Prod.fst) : hf U r ≠ none := by
  obtain ⟨p, hp, rfl⟩ := List.mem_map.1 h
  exact hf_ne_none_of_mem (e := p.2) hp
theorem hf_grow {U H : Heap} {r : Id} (h : hf H r ≠ none) : hf (U ++ H) r ≠ none := by
  rw [hf_append]
  split
  · simp
  · exact h
theorem hf_grown {U H : Heap} {r : Id} (h : hf (U ++ H) r ≠ none) : r ∈ U.map Prod.fst ∨ hf H r ≠ none := by
  by_cases e : r ∈ U.map Prod.fst
  · exact .inl e
  · right; rwa [hf_out e] at h

theorem disj_iff : ∀ {l m : List Id}, disj l m ↔ ∀ r ∈ l, r ∉ m
  | [], m => by simp [disj]
  | a :: l, m => by simp only [disj, notIn_spec, disj_iff, List.mem_cons, forall_eq_or_imp]
theorem covers_iff {us : List Id} : ∀ {ids : List Id}, covers us ids ↔ ∀ r ∈ ids, r ∈ us
  | [] => by simp [covers]
  | i :: is => by simp only [covers, covers_iff, List.mem_cons, forall_eq_or_imp]
theorem keysOk_iff {H : Heap} {ids : List Id} : ∀ {us : List Id}, keysOk H ids us ↔ ∀ k ∈ us, k ∈ ids ∨ hf H k ≠ none
  | [] => by simp [keysOk]
  | i :: is => by simp only [keysOk, keysOk_iff, List.mem_cons, forall_eq_or_imp]
theorem chOk_iff {H : Heap} : ∀ {ch : List (Option Id)}, chOk H ch ↔ ∀ q, some q ∈ ch → hf H q ≠ none
  | [] => by simp [chOk]
  | c :: cs => by
    simp only [chOk, chOk_iff, List.mem_cons]
    constructor
    · rintro ⟨h1, h2⟩ q (rfl | hq)
      · exact h1
      · exact h2 q hq
    · intro h
      refine ⟨?_, fun q hq => h q (.inr hq)⟩
      cases c with
      | none => trivial
      | some q => exact h q (.inl rfl)
theorem clash_iff {prs : List (Nat × Nat)} {j : Nat} {log us : List Id} : ∀ {tr : Trace}, clash prs j log us tr ↔ ∀ e ∈ tr, (e.1, j) ∈ prs → disj us (e.2.1 ++ e.2.2) ∧ disj e.2.2 log
  | [] => by simp [clash]
  | (i, l, u) :: tr => by simp only [clash, clash_iff, List.mem_cons, forall_eq_or_imp]
end Go.Am
set_option linter.unusedVariables false
namespace Go.Am
section
variable {P : Program} {tb : Nat → Option TyA} {sp : FuncId → List AV → RM CallSpec}

theorem semOp_congr {T T' : List (Nat × AV)} (op : Op) (h : ∀ x ∈ op.operands, ev T x = ev T' x) : semOp tb T op = semOp tb T' op := by
  have pairs : ∀ ps : Array (Nat × Operand), (∀ x ∈ ps.map (·.2), ev T x = ev T' x) → (ps.toList.map fun p => (p.1, ev T p.2)) = (ps.toList.map fun p => (p.1, ev T' p.2)) := fun ps hp =>
    List.map_congr_left fun p hm => by rw [hp p.2 (Array.mem_map.2 ⟨p, Array.mem_toList_iff.1 hm, rfl⟩)]
  have many : ∀ ps : Array Operand, (∀ x ∈ ps, ev T x = ev T' x) → ps.toList.map (ev T) = ps.toList.map (ev T') := fun ps hp =>
    List.map_congr_left fun p hm => hp p (Array.mem_toList_iff.1 hm)
  cases op <;> simp only [Op.operands] at h <;> simp only [semOp]
  case build t ps => rw [pairs ps fun x hx => h x (by simpa using hx)]
  case buildSlice t n ps => rw [pairs ps fun x hx => h x (by simpa using hx)]
  case makeFunc fn first captured => rw [many first fun x hx => h x (by simp [hx]), many captured fun x hx => h x (by simp [hx])]
  case call c =>
    obtain ⟨callee, args, ats⟩ := c
    have h2 := many args fun x hx => h x (by simp [Call.operands, hx])
    simp only [h2]
  case slice t x lo hi mx => cases lo <;> cases hi <;> cases mx <;> simp_all
  all_goals (first | rfl | (simp_all; done))
theorem semX_congr {T T' : List (Nat × AV)} (op : Op) (h : ∀ x ∈ op.operands, ev T x = ev T' x) : semX P tb sp T op = semX P tb sp T' op := by
  unfold semX
  split
  · rename_i c
    obtain ⟨callee, args, ats⟩ := c
    cases callee with
    | value f =>
      have h1 : ev T f = ev T' f := h f (by simp [Op.operands, Call.operands])
      have h2 : args.toList.map (ev T) = args.toList.map (ev T') := List.map_congr_left fun p hm => h p (by simp [Op.operands, Call.operands]; right; exact Array.mem_toList_iff.1 hm)
      simp only [h1, h2]
    | _ => exact semOp_congr _ h
  · exact semOp_congr _ h
theorem stepRM_congr {T T' : List (Nat × AV)} {ops : Array Oper} {o : Oper} (h : ∀ t ∈ o.looksAt ops, lk T t = lk T' t) : stepRM P tb sp ops.toList T o = stepRM P tb sp ops.toList T' o := by
  have h1 : semX P tb sp T o.op = semX P tb sp T' o.op := semX_congr _ fun x hx => by
    cases x with
    | tmp t => exact h t (List.mem_append_left _ (List.mem_filterMap.2 ⟨.tmp t, by simpa using hx, rfl⟩))
    | _ => rfl
  unfold stepRM
  cases hg : o.guard with
  | none => exact h1
  | some gw =>
    obtain ⟨g, want⟩ := gw
    have h2 : gval ops.toList T g = gval ops.toList T' g := by
      unfold gval gslot
      cases e : ops.toList[g]? with
      | none => rfl
      | some og =>
        cases ed : og.dst with
        | none => simp only [ed]
        | some d =>
          simp only [ed]
          refine h d (List.mem_append_right _ ?_)
          rw [Array.getElem?_toList] at e
          simp [hg, e, ed]
    simp only [h1, h2]
def RM.still (x : RM Out) : Prop := ∀ H log out l, x.Leaf H log out l → l = log ∧ ∀ ids, (out.f ids).2 = []
theorem still_val {v : AV} : RM.still (.ret (.val v)) := fun H log out l h => by cases h; exact ⟨rfl, fun _ => rfl⟩
theorem still_fail : RM.still .fail := fun H log out l h => by cases h
theorem still_optOut {o : Option AV} : RM.still (optOut o) := by cases o; exact still_fail; exact still_val
theorem still_pure {T : List (Nat × AV)} {op : Op} (h : pure' op = true) : (semX P tb sp T op).still := by
  cases op <;> simp only [pure', Bool.false_eq_true] at h <;> simp only [semX, semOp]
  case move x => exact still_val
  case assign x => exact still_val
  case pick c a b => cases ev T c <;> first | exact still_fail | exact still_val
  case build t ps => exact still_optOut
  case nilCheck x => cases ev T x <;> first | exact still_fail | exact still_val
  case unOp op t x => cases op <;> cases ev T x <;> first | exact still_fail | exact still_val | exact still_optOut
  case makeFunc fn a b =>
    cases fn <;> try exact still_fail
    simp only []
    split
    · exact still_val
    · exact still_fail
  case fieldAddr => exact still_optOut
  case field => exact still_optOut
  case indexAddr => exact still_optOut
  case index => exact still_optOut
  case extract t i => cases ev T t <;> first | exact still_fail | exact still_optOut
  case binOp op t x y yt =>
    have hopt : ∀ o : Option AV, RM.still ((opt o).bind fun v => .ret (.val v)) := by
      intro o; cases o; exact still_fail; exact still_val
    unfold binA
    split
    · split
      · exact hopt _
      · exact hopt _
      · split
        · exact hopt _
        · exact still_fail
    · exact hopt _
    · split
      · simp at h
      · simp at h
      · exact still_fail
theorem still_step {T : List (Nat × AV)} {ops : List Oper} {o : Oper} (h : pure' o.op = true) : (stepRM P tb sp ops T o).still := by
  unfold stepRM
  split
  · exact still_pure h
  · unfold semG
    split
    · split
      · exact still_pure h
      · exact still_val
    · split
      · exact still_val
      · exact still_fail
    · exact still_fail

/-- the same state, looked up -/
def Eqv (st st' : St) : Prop := (∀ t, lk st.T t = lk st'.T t) ∧ ∀ r, hf st.H r = hf st'.H r
theorem Eqv.symm {st st' : St} (h : Eqv st st') : Eqv st' st := ⟨fun t => (h.1 t).symm, fun r => (h.2 r).symm⟩
theorem Eqv.put {st st' : St} (h : Eqv st st') (d : Option Nat) (o : AV × Heap) : Eqv (putO st d o) (putO st' d o) := by
  constructor
  · intro t
    cases d with
    | none => exact h.1 t
    | some d => simp only [putO, lk]; split; rfl; exact h.1 t
  · intro r
    simp only [putO, hf_append, h.2 r]
theorem SimR.eqv {B : Base} {R : CSet} {st st' : St} {a : Act} {w : World} (hs : SimR P B R st a w) (h : Eqv st st') : SimR P B R st' a w :=
  ⟨hs.step.congr fun r => (h.2 r).symm, hs.size, fun t => by rw [← h.1 t]; exact hs.tmps t, hs.defers⟩
def Closed (K : St → Prop) : Prop := ∀ st st', Eqv st st' → K st → K st'
theorem tidy_congr {H H' : Heap} {ch ids us} (he : ∀ r, hf H r = hf H' r) (h : tidy H ch ids us) : tidy H' ch ids us := by
  obtain ⟨h1, h2, h3⟩ := h
  refine ⟨h1, keysOk_iff.2 fun k hk => ?_, chOk_iff.2 fun q hq => ?_⟩
  · rw [← he k]; exact keysOk_iff.1 h2 k hk
  · rw [← he q]; exact chOk_iff.1 h3 q hq
theorem WD_eqv {ops : Array Oper} {prs : List (Nat × Nat)} {K : St → Prop} (hK : Closed K) : ∀ (l : List (Nat × Oper)) {st st' : St} {tr tr' : Trace}, Eqv st st' → (∀ e ∈ tr', e ∈ tr) → WD P tb sp ops.toList prs l st tr K → WD P tb sp ops.toList prs l st' tr' K
  | [], st, st', tr, tr', he, ht, h => hK _ _ he h
  | (j, o) :: l, st, st', tr, tr', he, ht, h => by
    simp only [WD] at h ⊢
    rw [← stepRM_congr (T := st.T) (T' := st'.T) fun t _ => he.1 t]
    refine RM.runL_mono (RM.runL_congr (fun r => (he.2 r).symm) h) fun out log h => ?_
    rw [pickIds_iff] at h ⊢
    intro ids hi
    obtain ⟨h1, h2, h3⟩ := h ids (hi.congr fun k hk => by rw [← he.2 k]; exact hk)
    refine ⟨tidy_congr he.2 h1, clash_iff.2 fun e he' => clash_iff.1 h2 e (ht e he'), WD_eqv hK l (he.put _ _) ?_ h3⟩
    intro e he'
    cases he' with
    | head => exact List.mem_cons_self ..
    | tail _ he' => exact List.mem_cons_of_mem _ (ht e he')
end
end Go.Am
set_option linter.unusedVariables false
namespace Go.Am
section
variable {P : Program} {tb : Nat → Option TyA} {sp : FuncId → List AV → RM CallSpec}

structure Indep (ops : Array Oper) (prs : List (Nat × Nat)) (x y : Nat × Oper) : Prop where
  apart : x.2.apart ops y.2 = true
  mem : (x.1, y.1) ∈ prs ∨ pure' x.2.op = true ∨ pure' y.2.op = true
  back : (y.1, x.1) ∉ prs
theorem lk_put {st : St} {d : Option Nat} {o : AV × Heap} {t : Nat} (h : ∀ q, d = some q → q ≠ t) : lk (putO st d o).T t = lk st.T t := by
  cases d with
  | none => rfl
  | some q => simp only [putO, lk, if_neg (h q rfl)]
theorem swap {ops : Array Oper} {prs : List (Nat × Nat)} {K : St → Prop} (hK : Closed K) {a i : Nat} {oa oi : Oper} (hi : Indep ops prs (a, oa) (i, oi)) {l : List (Nat × Oper)} {st : St} {tr : Trace}
    (h : WD P tb sp ops.toList prs ((a, oa) :: (i, oi) :: l) st tr K) : WD P tb sp ops.toList prs ((i, oi) :: (a, oa) :: l) st tr K := by
  obtain ⟨ap1, ap2, ap3⟩ := Oper.apart_spec hi.apart
  simp only [] at ap1 ap2 ap3
  have ca : ∀ o : AV × Heap, stepRM P tb sp ops.toList (putO st oa.dst o).T oi = stepRM P tb sp ops.toList st.T oi := fun o =>
    stepRM_congr fun t ht => lk_put fun q hq e => by subst e; exact ap1 q hq ht
  have ci : ∀ o : AV × Heap, stepRM P tb sp ops.toList (putO st oi.dst o).T oa = stepRM P tb sp ops.toList st.T oa := fun o =>
    stepRM_congr fun t ht => lk_put fun q hq e => by subst e; exact ap3 q hq ht
  simp only [WD, ca] at h
  simp only [WD, ci]
  generalize hXa : stepRM P tb sp ops.toList st.T oa = Xa at h ⊢
  generalize hXi : stepRM P tb sp ops.toList st.T oi = Xi at h ⊢
  rw [RM.runL_iff] at h
  obtain ⟨hsa, h⟩ := h
  -- what is known of each pair of choices
  have C : ∀ oA la, Xa.Leaf st.H [] oA la → ∀ ia, Pick st.H oA.ch [] ia → tidy st.H oA.ch ia ((oA.f ia).2.map Prod.fst) ∧ clash prs a la ((oA.f ia).2.map Prod.fst) tr ∧ Xi.safe ((oA.f ia).2 ++ st.H) ∧
      ∀ oI li, Xi.Leaf ((oA.f ia).2 ++ st.H) [] oI li → ∀ ii, Pick ((oA.f ia).2 ++ st.H) oI.ch [] ii → tidy ((oA.f ia).2 ++ st.H) oI.ch ii ((oI.f ii).2.map Prod.fst) ∧ clash prs i li ((oI.f ii).2.map Prod.fst) tr ∧
        (disj ((oI.f ii).2.map Prod.fst) (la ++ (oA.f ia).2.map Prod.fst) ∧ disj ((oA.f ia).2.map Prod.fst) li) ∧
        WD P tb sp ops.toList prs l (putO (putO st oa.dst (oA.f ia)) oi.dst (oI.f ii)) ((i, li, (oI.f ii).2.map Prod.fst) :: (a, la, (oA.f ia).2.map Prod.fst) :: tr) K := by
    intro oA la hla ia hia
    obtain ⟨k1, k2, k3⟩ := (pickIds_iff _ _ _).1 (h oA la hla) ia hia
    rw [RM.runL_iff] at k3
    refine ⟨k1, k2, k3.1, fun oI li hli ii hii => ?_⟩
    obtain ⟨m1, m2, m3⟩ := (pickIds_iff _ _ _).1 (k3.2 oI li hli) ii hii
    refine ⟨m1, m2.2, ?_, m3⟩
    rcases hi.mem with hm | hm | hm
    · exact m2.1 hm
    · obtain ⟨e1, e2⟩ := (hXa ▸ still_step (P := P) (tb := tb) (sp := sp) (T := st.T) (ops := ops.toList) (o := oa) hm : Xa.still) _ _ _ _ hla
      rw [e1, e2]
      exact ⟨disj_iff.2 fun r hr => by simp, by simp [disj]⟩
    · obtain ⟨e1, e2⟩ := (hXi ▸ still_step (P := P) (tb := tb) (sp := sp) (T := st.T) (ops := ops.toList) (o := oi) hm : Xi.still) _ _ _ _ hli
      rw [e1, e2]
      exact ⟨by simp [disj], disj_iff.2 fun r hr => by simp⟩
  -- the second one does not see the first
  have moveI : ∀ oA la, Xa.Leaf st.H [] oA la → ∀ ia, Pick st.H oA.ch [] ia → Xi.safe st.H ∧ ∀ oI li, Xi.Leaf st.H [] oI li ↔ Xi.Leaf ((oA.f ia).2 ++ st.H) [] oI li := by
    intro oA la hla ia hia
    obtain ⟨_, _, k3, k4⟩ := C oA la hla ia hia
    refine RM.move Xi [] k3 fun oI li hli r hr => ?_
    obtain ⟨ii, hii, _⟩ := Pick.exists ((oA.f ia).2 ++ st.H) oI.ch []
    obtain ⟨_, _, ⟨_, d2⟩, _⟩ := k4 oI li hli ii hii
    refine (hf_out fun hm => ?_).symm
    exact disj_iff.1 d2 r hm hr
  have liftI : ∀ {oA : Out} {ia ii : List Id} {ch : List (Option Id)}, keysOk st.H ia ((oA.f ia).2.map Prod.fst) → Pick st.H ch [] ii → (∀ k ∈ ia, hf st.H k = none → k ∉ ii) → Pick ((oA.f ia).2 ++ st.H) ch [] ii := by
    intro oA ia ii ch hko hii hne
    refine hii.lift fun k r c hk hr hfr => ?_
    by_cases h0 : hf st.H k = none
    · right
      rintro rfl
      rcases hf_grown hk with h1 | h1
      · rcases keysOk_iff.1 hko k h1 with h2 | h2
        · exact hne k h2 h0 hr
        · exact h2 h0
      · exact h1 h0
    · exact freshBut_iff.1 hfr k h0
  obtain ⟨oA0, la0, hla0⟩ := RM.safe_leaf Xa [] hsa
  obtain ⟨ia0, hia0, _⟩ := Pick.exists st.H oA0.ch []
  rw [RM.runL_iff]
  refine ⟨(moveI oA0 la0 hla0 ia0 hia0).1, fun oI li hli => ?_⟩
  rw [pickIds_iff]
  intro ii hii
  -- for each leaf of the first a choice that keeps clear of the second's
  have exA : ∀ oA la, Xa.Leaf st.H [] oA la → ∃ ia, Pick st.H oA.ch [] ia ∧ (∀ r ∈ ia, r ∉ ii ++ oI.ch.filterMap id) ∧ Pick ((oA.f ia).2 ++ st.H) oI.ch [] ii := by
    intro oA la hla
    obtain ⟨ia, hia, hF⟩ := Pick.exists st.H oA.ch (ii ++ oI.ch.filterMap id)
    refine ⟨ia, hia, hF, liftI (C oA la hla ia hia).1.2.1 hii fun k hk _ hm => hF k hk (List.mem_append_left _ hm)⟩
  have base : tidy st.H oI.ch ii ((oI.f ii).2.map Prod.fst) ∧ clash prs i li ((oI.f ii).2.map Prod.fst) tr := by
    obtain ⟨ia, hia, hF, hp⟩ := exA oA0 la0 hla0
    obtain ⟨t1, _, _, k4⟩ := C oA0 la0 hla0 ia hia
    obtain ⟨⟨m1, m2, m3⟩, m4, ⟨d1, d2⟩, _⟩ := k4 oI li (((moveI oA0 la0 hla0 ia hia).2 oI li).1 hli) ii hp
    refine ⟨⟨m1, keysOk_iff.2 fun k hk => ?_, chOk_iff.2 fun q hq => ?_⟩, m4⟩
    · refine (keysOk_iff.1 m2 k hk).imp id fun h => ?_
      rcases hf_grown h with h | h
      · exact absurd (List.mem_append_right _ h) (disj_iff.1 d1 k hk)
      · exact h
    · rcases hf_grown (chOk_iff.1 m3 q hq) with h | h
      · rcases keysOk_iff.1 t1.2.1 q h with h | h
        · exact absurd (List.mem_append_right ii (List.mem_filterMap.2 ⟨some q, hq, rfl⟩)) (hF q h)
        · exact h
      · exact h
  have moveA : Xa.safe ((oI.f ii).2 ++ st.H) ∧ ∀ oA la, Xa.Leaf ((oI.f ii).2 ++ st.H) [] oA la ↔ Xa.Leaf st.H [] oA la := by
    refine RM.move Xa [] hsa fun oA la hla r hr => hf_out fun hm => ?_
    obtain ⟨ia, hia, hF, hp⟩ := exA oA la hla
    obtain ⟨_, _, _, k4⟩ := C oA la hla ia hia
    obtain ⟨_, _, ⟨d1, d2⟩, _⟩ := k4 oI li (((moveI oA la hla ia hia).2 oI li).1 hli) ii hp
    exact disj_iff.1 d1 r hm (List.mem_append_left _ hr)
  refine ⟨base.1, base.2, ?_⟩
  rw [RM.runL_iff]
  refine ⟨moveA.1, fun oA la hla => ?_⟩
  rw [pickIds_iff]
  intro ia hia
  have hla' := (moveA.2 oA la).1 hla
  have hia' : Pick st.H oA.ch [] ia := hia.congr fun k hk => hf_grow hk
  obtain ⟨⟨t1, t2, t3⟩, c1, _, k4⟩ := C oA la hla' ia hia'
  have hp : Pick ((oA.f ia).2 ++ st.H) oI.ch [] ii := liftI t2 hii fun k hk h0 hm => by
    obtain ⟨c, hc, hfr⟩ := hia.mem k hk
    have hin : k ∈ (oI.f ii).2.map Prod.fst := covers_iff.1 base.1.1 k hm
    rcases freshBut_iff.1 hfr k (by simp only [putO]; rw [hf_append]; cases e : hf (oI.f ii).2 k with
      | none => exact absurd e (hf_in hin)
      | some en => simp) with h1 | h1
    · subst h1
      exact chOk_iff.1 t3 k hc h0
    · exact h1 rfl
  obtain ⟨_, _, ⟨d1, d2⟩, hW⟩ := k4 oI li (((moveI oA la hla' ia hia').2 oI li).1 hli) ii hp
  refine ⟨⟨t1, keysOk_iff.2 fun k hk => (keysOk_iff.1 t2 k hk).imp id fun h => hf_grow h, chOk_iff.2 fun q hq => hf_grow (chOk_iff.1 t3 q hq)⟩, ⟨fun hm => absurd hm hi.back, c1⟩, WD_eqv hK l ?_ ?_ hW⟩
  · constructor
    · intro t
      cases ea : oa.dst with
      | none => cases ei : oi.dst <;> rfl
      | some da =>
        cases ei : oi.dst with
        | none => rfl
        | some di =>
          have hne : di ≠ da := fun e => ap2 da ea (by rw [ei, e])
          simp only [putO, lk]
          by_cases e1 : di = t
          · subst e1
            rw [if_pos rfl, if_neg (fun e => hne e.symm), if_pos rfl]
          · rw [if_neg e1, if_neg e1]
    · intro r
      simp only [putO, hf_append]
      by_cases e1 : r ∈ (oI.f ii).2.map Prod.fst
      · have e2 : hf (oA.f ia).2 r = none := by
          cases e : hf (oA.f ia).2 r with
          | none => rfl
          | some en => exact absurd (List.mem_append_right _ (hf_key (by rw [e]; simp))) (disj_iff.1 d1 r e1)
        rw [e2]
      · have e2 : hf (oI.f ii).2 r = none := by
          cases e : hf (oI.f ii).2 r with
          | none => rfl
          | some en => exact absurd (hf_key (by rw [e]; simp)) e1
        rw [e2]
  · intro e he
    cases he with
    | head => exact List.mem_cons_of_mem _ (List.mem_cons_self ..)
    | tail _ he =>
      cases he with
      | head => exact List.mem_cons_self ..
      | tail _ he => exact List.mem_cons_of_mem _ (List.mem_cons_of_mem _ he)
theorem bubble {ops : Array Oper} {prs : List (Nat × Nat)} {K : St → Prop} (hK : Closed K) {y : Nat × Oper} {l2 : List (Nat × Oper)} : ∀ (l1 : List (Nat × Oper)) {st : St} {tr : Trace}, (∀ x ∈ l1, Indep ops prs x y) →
    WD P tb sp ops.toList prs (l1 ++ y :: l2) st tr K → WD P tb sp ops.toList prs (y :: (l1 ++ l2)) st tr K
  | [], st, tr, _, h => h
  | x :: l1, st, tr, hi, h => by
    refine swap hK (hi x (List.mem_cons_self ..)) ?_
    obtain ⟨j, o⟩ := x
    simp only [List.cons_append] at h
    rw [WD] at h ⊢
    refine RM.runL_mono h fun out log h => ?_
    rw [pickIds_iff] at h ⊢
    intro ids hids
    obtain ⟨h1, h2, h3⟩ := h ids hids
    exact ⟨h1, h2, bubble hK l1 (fun x hx => hi x (List.mem_cons_of_mem _ hx)) h3⟩
end
end Go.Am
set_option linter.unusedVariables false
namespace Go.Am
section
variable {P : Program} {tb : Nat → Option TyA} {sp : FuncId → List AV → RM CallSpec}

def anc (ops : List Oper) (j : Nat) : List Nat := ((ancs ops)[j]?).getD []
def ancG (acc : List (List Nat)) (o : Oper) : List Nat := (o.after.toList.filter (Region.binds .any)).flatMap fun e => e.on :: (acc[e.on]?).getD []
theorem ancs_prefix : ∀ (l : List Oper) (acc : List (List Nat)), ∃ ext, l.foldl (fun acc o => acc ++ [ancG acc o]) acc = acc ++ ext
  | [], acc => ⟨[], by simp⟩
  | o :: l, acc => by
    obtain ⟨ext, h⟩ := ancs_prefix l (acc ++ [ancG acc o])
    exact ⟨ancG acc o :: ext, by simp only [List.foldl_cons]; rw [h]; simp⟩
theorem ancs_get : ∀ (l : List Oper) (acc : List (List Nat)) (j : Nat) (o : Oper), l[j]? = some o →
    (l.foldl (fun acc o => acc ++ [ancG acc o]) acc)[acc.length + j]? = some (ancG ((l.foldl (fun acc o => acc ++ [ancG acc o]) acc).take (acc.length + j)) o)
  | [], acc, j, o, h => by simp at h
  | x :: l, acc, 0, o, h => by
    simp only [List.getElem?_cons_zero, Option.some.injEq] at h
    subst h
    obtain ⟨ext, he⟩ := ancs_prefix l (acc ++ [ancG acc x])
    simp only [List.foldl_cons, he, Nat.add_zero]
    simp
  | x :: l, acc, j + 1, o, h => by
    simp only [List.getElem?_cons_succ] at h
    have := ancs_get l (acc ++ [ancG acc x]) j o h
    simp only [List.length_append, List.length_cons, List.length_nil, Nat.zero_add] at this
    rw [show acc.length + (j + 1) = acc.length + 1 + j by omega]
    exact this
theorem anc_spec {ops : List Oper} {j : Nat} {o : Oper} (ho : ops[j]? = some o) (hb : ∀ e ∈ o.after.toList, Region.binds .any e = true → e.on < j) :
    (ancs ops)[j]? = some (anc ops j) ∧ ∀ i, i ∈ anc ops j → ∃ e ∈ o.after.toList, Region.binds .any e = true ∧ (i = e.on ∨ i ∈ anc ops e.on) := by
  have h := ancs_get ops [] j o ho
  simp only [List.length_nil, Nat.zero_add] at h
  have h' : (ancs ops)[j]? = some (ancG ((ancs ops).take j) o) := h
  refine ⟨by simp only [anc, h', Option.getD_some], fun i hi => ?_⟩
  simp only [anc, h', Option.getD_some, ancG, List.mem_flatMap, List.mem_filter, List.mem_cons] at hi
  obtain ⟨e, ⟨he, hbe⟩, hi⟩ := hi
  refine ⟨e, he, hbe, hi.imp id fun hi => ?_⟩
  rw [List.getElem?_take, if_pos (hb e he hbe)] at hi
  exact hi
theorem openPairs_mem {ops : List Oper} {i j : Nat} {an : List Nat} (h : (ancs ops)[j]? = some an) (hij : i < j) (hn : i ∉ an) : (i, j) ∈ openPairs ops := by
  unfold openPairs
  refine List.mem_flatMap.2 ⟨(an, j), ?_, List.mem_filterMap.2 ⟨i, List.mem_range.2 hij, ?_⟩⟩
  · rw [List.mem_zipIdx_iff_getElem?]; exact h
  · rw [if_neg (by simpa using hn)]
theorem openPairs_lt {ops : List Oper} {i j : Nat} (h : (i, j) ∈ openPairs ops) : i < j := by
  unfold openPairs at h
  obtain ⟨⟨an, k⟩, _, h⟩ := List.mem_flatMap.1 h
  obtain ⟨q, hq, h⟩ := List.mem_filterMap.1 h
  split at h
  · cases h
  · cases h; exact List.mem_range.1 hq
theorem WD_mono {ops : Array Oper} {prs : List (Nat × Nat)} {K K' : St → Prop} (hK : ∀ st, K st → K' st) : ∀ (l : List (Nat × Oper)) {st : St} {tr : Trace}, WD P tb sp ops.toList prs l st tr K → WD P tb sp ops.toList prs l st tr K'
  | [], st, tr, h => hK _ h
  | (j, o) :: l, st, tr, h => by
    rw [WD] at h ⊢
    refine RM.runL_mono h fun out log h => ?_
    rw [pickIds_iff] at h ⊢
    intro ids hi
    obtain ⟨h1, h2, h3⟩ := h ids hi
    exact ⟨h1, h2, WD_mono hK l h3⟩
structure DInv (ops : Array Oper) (l : List (Nat × Oper)) (listed : Array Bool) : Prop where
  mem : ∀ x ∈ l, ops[x.1]? = some x.2 ∧ listed.getD x.1 true = false
  all : ∀ j o, ops[j]? = some o → listed.getD j true = false → (j, o) ∈ l
  sorted : l.Pairwise (fun x y => x.1 < y.1)
  closed : ∀ j, listed.getD j false = true → ∀ i ∈ anc ops.toList j, listed.getD i false = true
  size : listed.size = ops.size
theorem getD_false_true {listed : Array Bool} {i : Nat} (h : listed.getD i true = false) : ¬ (listed.getD i false = true) := by
  rw [Array.getD_eq_getD_getElem?] at h ⊢
  cases e : listed[i]? with
  | none => rw [e] at h; simp at h
  | some b => rw [e] at h; simp at h ⊢; exact h
theorem draw_ok (hb : TbOK P tb) {B : Base} {ops : Array Oper} {prs : List (Nat × Nat)} {Q : Exit → Act → World → Prop} {K : St → Prop} (hd : dstsOK B.n ops.toList = true) (hor : orderly ops.toList = true) (hprs : memPairs ops.toList = prs) (hK : Closed K)
    (hQ : ∀ R st a w, SimR P B R st a w → K st → Q .normal a w) :
    ∀ (fuel : Nat) (l : List (Nat × Oper)) (listed : Array Bool) {R : CSet} {st : St} {a : Act} {w : World}, DInv ops l listed → l.length ≤ fuel → SimR P B R st a w → WD P tb sp ops.toList prs l st [] K →
      wpAny P .any ops Q fuel listed a w := by
  simp only [orderly, Bool.and_eq_true, List.all_eq_true] at hor
  obtain ⟨hor1, hor2⟩ := hor
  have hback : ∀ {j o}, ops[j]? = some o → ∀ e ∈ o.after.toList, Region.binds .any e = true → e.on < j := by
    intro j o ho e he hbe
    have := hor1 (o, j) (by rw [List.mem_zipIdx_iff_getElem?]; simpa using ho)
    simp only [List.all_eq_true] at this
    have := this e he
    simpa [hbe] using this
  have hready : ∀ {l listed}, DInv ops l listed → ∀ i, i ∈ Region.ready .any ops listed → ∃ o, (i, o) ∈ l ∧ ops[i]? = some o ∧ ∀ e ∈ o.after, Region.binds .any e = true → listed.getD e.on false = true := by
    intro l listed hI i hi
    obtain ⟨h0, o, ho, hall⟩ := mem_ready.1 hi
    exact ⟨o, hI.all i o ho h0, ho, hall⟩
  have hempty : ∀ {l listed}, DInv ops l listed → Region.ready .any ops listed = [] → l = [] := by
    intro l listed hI hr
    cases l with
    | nil => rfl
    | cons x l =>
      exfalso
      obtain ⟨hx1, hx2⟩ := hI.mem x (List.mem_cons_self ..)
      have : x.1 ∈ Region.ready .any ops listed := by
        refine mem_ready.2 ⟨hx2, x.2, hx1, fun e he hbe => ?_⟩
        have hlt := hback hx1 e (Array.mem_toList_iff.2 he) hbe
        have hxs : x.1 < ops.size := (Array.getElem?_eq_some_iff.1 hx1).1
        cases hl : listed.getD e.on true with
        | false =>
          exfalso
          have hm := hI.all e.on _ (Array.getElem?_eq_getElem (by omega)) hl
          rcases List.mem_cons.1 hm with e1 | hm
          · have : e.on = x.1 := by rw [← e1]
            omega
          · have := (List.pairwise_cons.1 hI.sorted).1 _ hm
            simp only [] at this; omega
        | true =>
          have hs : e.on < listed.size := by rw [hI.size]; omega
          simp [hs] at hl ⊢
          exact hl
      rw [hr] at this
      cases this
  intro fuel
  induction fuel with
  | zero =>
    intro l listed R st a w hI hf hs h
    have hl : l = [] := List.eq_nil_of_length_eq_zero (by omega)
    subst hl
    refine ⟨?_, hQ _ _ _ _ hs h⟩
    cases hr : Region.ready .any ops listed with
    | nil => rfl
    | cons i rs => obtain ⟨o, hm, _⟩ := hready hI i (by rw [hr]; exact List.mem_cons_self ..); cases hm
  | succ fuel ih =>
    intro l listed R st a w hI hf hs h
    refine ⟨fun hr => by have := hempty hI hr; subst this; exact hQ _ _ _ _ hs h, fun i hi => ?_⟩
    obtain ⟨o, hm, ho, hpre⟩ := hready hI i hi
    obtain ⟨l1, l2, rfl⟩ := List.append_of_mem hm
    have hpw := hI.sorted
    rw [List.pairwise_append] at hpw
    obtain ⟨pw1, pw2, pw3⟩ := hpw
    have hanc := anc_spec (ops := ops.toList) (j := i) (o := o) (by simpa using ho) (hback ho)
    have hancl : ∀ q ∈ anc ops.toList i, listed.getD q false = true := by
      intro q hq
      obtain ⟨e, he, hbe, hc⟩ := hanc.2 q hq
      have hel := hpre e (Array.mem_toList_iff.1 he) hbe
      rcases hc with rfl | hc
      · exact hel
      · exact hI.closed _ hel q hc
    have hind : ∀ x ∈ l1, Indep ops prs x (i, o) := by
      intro x hx
      have hlt : x.1 < i := pw3 x hx (i, o) (List.mem_cons_self ..)
      obtain ⟨hx1, hx2⟩ := hI.mem x (List.mem_append_left _ hx)
      have hop := openPairs_mem hanc.1 hlt fun hq => getD_false_true hx2 (hancl _ hq)
      have hap := hor2 _ hop
      simp only [Array.getElem?_toList, hx1, ho, Bool.and_eq_true] at hap
      refine ⟨hap.1, ?_, fun hm => ?_⟩
      · by_cases p1 : pure' x.2.op = true
        · exact .inr (.inl p1)
        · by_cases p2 : pure' o.op = true
          · exact .inr (.inr p2)
          · left
            rw [← hprs]
            unfold memPairs
            refine List.mem_filter.2 ⟨hop, ?_⟩
            simp [hx1, ho, p1, p2]
      · rw [← hprs] at hm
        have := openPairs_lt (List.mem_filter.1 hm).1
        simp only [] at this
        omega
    have hW := bubble hK l1 hind h
    rw [WD] at hW
    refine step_ok (K := fun out => pickIds st.H out.ch [] fun ids => WD P tb sp ops.toList prs (l1 ++ l2) (putO st o.dst (out.f ids)) [] K) hb hs ho (RM.run_of_runL (RM.runL_mono hW fun out log h => ?_)) ?_
    · rw [pickIds_iff] at h ⊢
      intro ids hids
      obtain ⟨_, _, hW2⟩ := h ids hids
      exact WD_eqv (tr' := []) hK (l1 ++ l2) ⟨fun _ => rfl, fun _ => rfl⟩ (by simp) hW2
    rintro out u w' k1 ⟨ids, R', k2, k3, k4⟩
    have hW3 := pickIds_ids k2 k1
    refine ih (l1 ++ l2) _ ?_ (by simp at hf ⊢; omega) (hs.put (dstsOK_spec hd (by simpa using ho)) k3 k4) hW3
    have hisz : i < listed.size := by rw [hI.size]; exact (Array.getElem?_eq_some_iff.1 ho).1
    have hne : ∀ x ∈ l1 ++ l2, i ≠ x.1 := by
      intro x hx
      rcases List.mem_append.1 hx with hx | hx
      · have : x.1 < i := pw3 x hx (i, o) (List.mem_cons_self ..); omega
      · have : i < x.1 := (List.pairwise_cons.1 pw2).1 x hx; omega
    refine ⟨fun x hx => ?_, fun j oj hj hl => ?_, ?_, fun j hj q hq => ?_, by simp [hI.size]⟩
    · obtain ⟨h1, h2⟩ := hI.mem x (by
        rcases List.mem_append.1 hx with hx | hx
        · exact List.mem_append_left _ hx
        · exact List.mem_append_right _ (List.mem_cons_of_mem _ hx))
      exact ⟨h1, by rw [getD_set_ne true (hne x hx)]; exact h2⟩
    · by_cases e : i = j
      · subst e; simp [hisz] at hl
      · rw [getD_set_ne true e] at hl
        have := hI.all j oj hj hl
        rcases List.mem_append.1 this with hm | hm
        · exact List.mem_append_left _ hm
        · cases hm with
          | head => exact absurd rfl e
          | tail _ hm => exact List.mem_append_right _ hm
    · rw [List.pairwise_append]
      exact ⟨pw1, (List.pairwise_cons.1 pw2).2, fun x hx y hy => pw3 x hx y (List.mem_cons_of_mem _ hy)⟩
    · by_cases e : i = j
      · subst e; exact getD_set_true (hancl q hq)
      · rw [getD_set_ne false e] at hj
        exact getD_set_true (hI.closed j hj q hq)
end
end Go.Am
set_option linter.unusedVariables false
namespace Go.Am

def exitOf : Ex → Exit
  | .normal => .normal
  | .exit i => .exit i
  | .ret => .ret
def dstsC (n : Nat) : Code → Bool
  | .seq a b => dstsC n a && dstsC n b
  | .region _ ops _ => dstsOK n ops.toList
  | .cond _ a b => dstsC n a && dstsC n b
  | .block _ b => dstsC n b
  | .loop b => dstsC n b
  | _ => true

section
variable {P : Program} {tb : Nat → Option TyA} {sp : FuncId → List AV → RM CallSpec}
theorem W_ok (hb : TbOK P tb) (hm : P.follows .mixedOrders = true) {B : Base} : ∀ (c : Code), dstsC B.n c = true → ∀ {R : CSet} {st : St} {a : Act} {w : World} {Q : Ex → St → Prop} {Qc : Exit → Act → World → Prop}, SimR P B R st a w → W P tb sp c st Q →
    (∀ e R st a w, SimR P B R st a w → Q e st → Qc (exitOf e) a w) → c.wp P Qc a w
  | .skip, _, R, st, a, w, Q, Qc, hs, h, hQ => wp_skip (hQ .normal _ _ _ _ hs h)
  | .seq x y, hd, R, st, a, w, Q, Qc, hs, h, hQ => by
    simp only [dstsC, Bool.and_eq_true] at hd
    simp only [W] at h
    refine wp_seq (W_ok hb hm x hd.1 hs h ?_)
    rintro e R' st' a' w' hs' hq
    cases e with
    | normal => exact W_ok hb hm y hd.2 hs' hq hQ
    | exit i => exact hQ (.exit i) _ _ _ _ hs' hq
    | ret => exact hQ .ret _ _ _ _ hs' hq
  | .region id ops d, hd, R, st, a, w, Q, Qc, hs, h, hQ => by
    simp only [dstsC] at hd
    simp only [W] at h
    cases d with
    | false =>
      simp only [Bool.false_eq_true, if_false] at h
      refine wp_region ?_
      have := WL_ok (Q := Qc) hb hd (fun R st a w hs hk => hQ .normal R st a w hs hk) ops.toList 0 (by simp) hs h
      rw [List.range_eq_range', ← Array.length_toList]
      exact this
    | true =>
      simp only [if_true] at h
      obtain ⟨prs, l, h1, h2, h3, h4⟩ := h
      refine wp_region_any hm ?_
      have hs' : SimR P B R st a { w with drawn := w.drawn + 1 } := by
        have h5 := StepOK.same (w' := { w with drawn := w.drawn + 1 }) hs.step.wf hs.step.virt rfl ⟨rfl, rfl, rfl⟩
        exact ⟨hs.step.trans h5, hs.size, fun t => (hs.tmps t).keeps h5.keeps, hs.defers⟩
      refine draw_ok (K := fun st => ∃ st0, Eqv st0 st ∧ Q .normal st0) hb hd h1 h2 ?_ ?_ ops.size l _ ?_ ?_ hs' (WD_mono (fun st h => ⟨st, ⟨fun _ => rfl, fun _ => rfl⟩, h⟩) l h4)
      · rintro st1 st2 he ⟨st0, h0, hq⟩
        exact ⟨st0, ⟨fun t => (h0.1 t).trans (he.1 t), fun r => (h0.2 r).trans (he.2 r)⟩, hq⟩
      · rintro R1 st1 a1 w1 hs1 ⟨st0, h0, hq⟩
        exact hQ .normal _ _ _ _ (hs1.eqv h0.symm) hq
      · subst h3
        refine ⟨fun x hx => ?_, fun j o hj hl => ?_, ?_, fun j hj => ?_, by simp⟩
        · obtain ⟨p, hp, rfl⟩ := List.mem_map.1 hx
          rw [List.mem_zipIdx_iff_getElem?] at hp
          have hp' : ops[p.2]? = some p.1 := by simpa using hp
          refine ⟨hp', ?_⟩
          have := (Array.getElem?_eq_some_iff.1 hp').1
          simp [this]
        · refine List.mem_map.2 ⟨(o, j), ?_, rfl⟩
          rw [List.mem_zipIdx_iff_getElem?]
          simpa using hj
        · rw [List.pairwise_map]
          exact List.pairwise_iff_getElem.2 fun i j hi hj hij => by simpa using hij
        · exfalso
          by_cases hlt : j < ops.size
          · simp [hlt] at hj
          · simp [hlt] at hj
      · subst h3; simp
  | .cond c x y, hd, R, st, a, w, Q, Qc, hs, h, hQ => by
    simp only [dstsC, Bool.and_eq_true] at hd
    simp only [W] at h
    have hc := ev_rep hs.tmps c
    unfold WCond at h
    split at h
    · rename_i t e
      rw [e] at hc
      refine wp_cond hc.bool ?_
      cases t with
      | true => exact W_ok hb hm x hd.1 hs (by simpa using h) hQ
      | false => exact W_ok hb hm y hd.2 hs (by simpa using h) hQ
    · exact h.elim
  | .block id b, hd, R, st, a, w, Q, Qc, hs, h, hQ => by
    simp only [dstsC] at hd
    simp only [W] at h
    refine wp_block (W_ok hb hm b hd hs h ?_)
    rintro e R' st' a' w' hs' hq
    cases e with
    | normal => exact hQ .normal _ _ _ _ hs' hq
    | exit i =>
      simp only [exitOf, Exit.inBlock]
      simp only [] at hq
      split at hq
      · rename_i e1; rw [if_pos e1]; exact hQ .normal _ _ _ _ hs' hq
      · rename_i e1; rw [if_neg e1]; exact hQ (.exit i) _ _ _ _ hs' hq
    | ret => exact hQ .ret _ _ _ _ hs' hq
  | .loop b, hd, R, st, a, w, Q, Qc, hs, h, hQ => by
    simp only [dstsC] at hd
    simp only [W] at h
    obtain ⟨I, h0, hstep⟩ := h
    obtain ⟨R0, st0, hs0, n0, hI0⟩ := h0 B a w R hs
    refine wp_loop_ghost (fun n a w => ∃ R st, SimR P B R st a w ∧ I n st) n0 ⟨R0, st0, hs0, hI0⟩ ?_
    rintro n a1 w1 ⟨R1, st1, hs1, hI1⟩
    refine W_ok hb hm b hd hs1 (hstep n st1 hI1) ?_
    rintro e R' st' a' w' hs' hq
    cases e with
    | normal =>
      obtain ⟨R2, st2, hs2, m, hlt, hI2⟩ := hq B a' w' R' hs'
      exact ⟨m, hlt, R2, st2, hs2, hI2⟩
    | exit i => exact hQ (.exit i) _ _ _ _ hs' hq
    | ret => exact hQ .ret _ _ _ _ hs' hq
  | .exit id, _, R, st, a, w, Q, Qc, hs, h, hQ => wp_exit (hQ (.exit id) _ _ _ _ hs h)
  | .ret, _, R, st, a, w, Q, Qc, hs, h, hQ => wp_ret (hQ .ret _ _ _ _ hs h)
  | .rangeFunc .., _, _, _, _, _, _, _, _, h, _ => h.elim
  | .scope .., _, _, _, _, _, _, _, _, h, _ => h.elim
  | .label .., _, _, _, _, _, _, _, _, h, _ => h.elim
  | .goto .., _, _, _, _, _, _, _, _, h, _ => h.elim
  | .refuse .., _, _, _, _, _, _, _, _, h, _ => h.elim

/-! ### a function -/
def initT : Nat → List AV → List (Nat × AV)
  | _, [] => []
  | k, v :: vs => (k, v) :: initT (k + 1) vs
def resA (tb : Nat → Option TyA) (T : List (Nat × AV)) : List ResultVar → RM (List AV)
  | [] => .ret []
  | .tmp t :: l => (resA tb T l).bind fun vs => .ret (lk T t :: vs)
  | .cell a t :: l => (loadA tb t (lk T a)).bind fun o => (resA tb T l).bind fun vs => .ret ((o.f []).1 :: vs)
/-- the entries that are promised are held -/
def entsOk (H : Heap) : List Id → Heap → Prop
  | _, [] => True
  | seen, (k, e) :: l => (k ∈ seen ∨ hf H k = some e ∨ (match e with | .dead => hf H k ≠ none | _ => False)) ∧ entsOk H (k :: seen) l
def idsOk (Hin H : Heap) : List (Option Id) → List Id → List Id → Prop
  | [], _, [] => True
  | c :: cs, used, r :: rs => (c = some r ∨ hf Hin r = none) ∧ hf H r ≠ none ∧ notIn used r ∧ idsOk Hin H cs (r :: used) rs
  | _, _, _ => False
def tupOf (n : Nat) (v : AV) : Option (List AV) := if n = 1 then some [v] else match v with | .tup vs => some vs | _ => none
/-- how a function's end answers its contract -/
def Fin (tb : Nat → Option TyA) (rs : List ResultVar) (Hin : Heap) (out : Out) (st : St) : Prop :=
  ∃ ids ws, tupOf rs.length (out.f ids).1 = some ws ∧ ((resA tb st.T rs).bind fun vs => passAll vs ws).run st.H fun fz => idsOk Hin (fz ++ st.H) out.ch [] ids ∧ entsOk (fz ++ st.H) [] ((out.f ids).2 ++ Hin)
def FinE (tb : Nat → Option TyA) (rs : List ResultVar) (Hin : Heap) (out : Out) (e : Ex) (st : St) : Prop := match e with | .normal | .ret => Fin tb rs Hin out st | _ => False
def FnW (P : Program) (tb : Nat → Option TyA) (sp : FuncId → List AV → RM CallSpec) (rs : List ResultVar) (c : Code) (args : List AV) (Hin : Heap) (out : Out) : Prop :=
  W P tb sp c ⟨initT 0 args, Hin⟩ (FinE tb rs Hin out)
theorem lk_init : ∀ (args : List AV) (k t : Nat), lk (initT k args) t = if k ≤ t then (args[t - k]?).getD .any else .any
  | [], k, t => by simp [initT, lk]
  | v :: vs, k, t => by
    simp only [initT, lk, lk_init vs (k + 1) t]
    by_cases e : k = t
    · subst e; simp
    · rw [if_neg e]
      by_cases h : k ≤ t
      · rw [if_pos h, if_pos (by omega), show t - k = (t - (k + 1)) + 1 by omega]; simp
      · rw [if_neg h, if_neg (by omega)]
theorem entsOk_spec {H : Heap} : ∀ {l : Heap} {seen : List Id}, entsOk H seen l → ∀ r e, hf l r = some e → r ∉ seen → hf H r = some e ∨ (e = .dead ∧ hf H r ≠ none)
  | [], seen, _, r, e, h, _ => by cases h
  | (k, en) :: l, seen, ⟨h1, h2⟩, r, e, h, hn => by
    simp only [hf] at h
    split at h
    · rename_i hk
      subst hk
      cases h
      rcases h1 with h1 | h1 | h1
      · exact absurd h1 hn
      · exact .inl h1
      · cases en <;> first | exact h1.elim | exact .inr ⟨rfl, h1⟩
    · rename_i hk
      exact entsOk_spec h2 r e h fun hm => by
        rcases List.mem_cons.1 hm with e1 | hm
        · exact hk e1.symm
        · exact hn hm
theorem idsOk_picks {N : Nat} {w : World} {Hin H : Heap} (hnew : ∀ r, hf H r ≠ none → hf Hin r ≠ none ∨ NewId N w r) : ∀ {ch : List (Option Id)} {used ids : List Id}, idsOk Hin H ch used ids → Picks N w Hin ch used ids
  | [], used, [], _ => .nil
  | c :: cs, used, r :: rs, ⟨h1, h2, h3, h4⟩ => by
    refine .cons ?_ h3 ?_ (idsOk_picks hnew h4)
    · refine freshBut_iff.2 fun k hk => ?_
      by_cases e : k = r
      · subst e
        rcases h1 with h1 | h1
        · exact .inl h1.symm
        · exact absurd h1 hk
      · exact .inr e
    · rcases h1 with h1 | h1
      · exact .inr h1
      · rcases hnew r h2 with h | h
        · exact absurd h1 h
        · exact .inl h
theorem StepOK.drop {N : Nat} {R R' : CSet} {H H' H'' : Heap} {w w' : World} (h : StepOK P N R H w R' H' w') (he : ∀ r e, hf H'' r = some e → hf H' r = some e ∨ (e = .dead ∧ hf H' r ≠ none)) : StepOK P N R H w R' H'' w' := by
  have hne : ∀ r, hf H'' r ≠ none → hf H' r ≠ none := by
    intro r hr
    cases e : hf H'' r with
    | none => exact absurd e hr
    | some en => rcases he r en e with h | ⟨_, h⟩; rw [h]; simp; exact h
  have hW : ∀ b o, Wr H'' b o → Wr H' b o := by
    intro b o hw
    unfold Wr at hw ⊢
    cases e : hf H'' (.blk b) with
    | none => rw [e] at hw; exact hw.elim
    | some en =>
      rw [e] at hw
      rcases he _ _ e with h1 | ⟨rfl, _⟩
      · rw [h1]; exact hw
      · exact hw.elim
  refine ⟨h.keeps, h.grow, fun b o hw => h.wr b o (hW b o hw), ⟨h.wf.lt, fun b o hr hw => h.wf.dis b o hr (hW b o hw), fun r e hr => ?_⟩, fun b hb hn => ?_, h.size, h.env, fun r hr => h.news r (hne r hr), ?_⟩
  · rcases he r e hr with h1 | ⟨rfl, h1⟩
    · exact h.wf.ents r e h1
    · cases r with
      | virt n => trivial
      | blk b =>
        cases e1 : hf H' (.blk b) with
        | none => exact absurd e1 h1
        | some en => exact (h.wf.ents _ _ e1).lt
  · obtain ⟨h1, h2⟩ := h.others b hb hn
    refine ⟨h1, ?_⟩
    cases e : hf H'' (.blk b) with
    | none => rfl
    | some en => exact absurd h2 (hne _ (by rw [e]; simp))
  · obtain ⟨M, m1, m2⟩ := h.virt
    exact ⟨M, m1, fun n hn => m2 n (hne _ hn)⟩
end
end Go.Am
set_option linter.unusedVariables false
namespace Go.Am
section
variable {P : Program} {tb : Nat → Option TyA} {sp : FuncId → List AV → RM CallSpec} {N : Nat} {R : CSet} {H : Heap} {w : World}

def resV (tmps : Array Value) : ResultVar → Sem Value
  | .tmp t => pure (tmps.getD t undef)
  | .cell a t => do loadVar t (← asAddr (tmps.getD a undef))
theorem cell_ok (hb : TbOK P tb) (hw : WfH P R H w) (hv : VBound N H) {t : Nat} {x : AV} {u : Value} {K : Out → Prop} (hu : RepV R w x u) (h : (loadA tb t x).run H K) :
    ∃ v o, K o ∧ (do loadVar t (← asAddr u) : Sem Value).run P w = .ok v w ∧ RepV R w (o.f []).1 v := by
  have hL := load_ok hb hw hv hu h
  cases x with
  | ptr r p =>
    obtain ⟨b, rfl, rfl⟩ := hu.ptr
    simp only [loadA, RM.run] at h
    cases e : hf H (.blk b) with
    | none => rw [e] at h; exact h.elim
    | some en =>
      rw [e] at h
      simp only [] at h
      cases eg : entGet en p with
      | none => rw [eg] at h; exact h.elim
      | some v =>
        rw [eg] at h
        simp only [] at h
        split at h
        · rename_i hf'
          obtain ⟨ds, d1, d2, _⟩ := entGet_cells (hw.ents _ _ e) eg
          obtain ⟨z, z1, z2⟩ := run_loadVar_rep hb hf' d1 d2
          exact ⟨z, _, h, by simp only [asAddr, Sem.run_bind, Sem.run_pure, Result.andThen_ok]; exact z1, z2⟩
        · exact h.elim
  | cref v =>
    obtain ⟨b, o, c, rfl, k1, k2⟩ := hu.cref
    simp only [loadA] at h
    split at h
    · rename_i hf'
      obtain ⟨z, z1, z2⟩ := run_loadVar_rep hb hf' k1 fun i u hi => (k2 i u hi).1
      exact ⟨z, _, h, by simp only [asAddr, Sem.run_bind, Sem.run_pure, Result.andThen_ok]; exact z1, z2⟩
    · exact h.elim
  | _ => exact h.elim
theorem resA_ok (hb : TbOK P tb) (hw : WfH P R H w) (hv : VBound N H) {T : List (Nat × AV)} {tmps : Array Value} (hT : ∀ t, RepV R w (lk T t) (tmps.getD t undef)) : ∀ {rs : List ResultVar} {K : List AV → Prop}, (resA tb T rs).run H K →
    ∃ vs us, K vs ∧ RepVL R w vs us ∧ us.length = rs.length ∧ (rs.mapM (resV tmps)).run P w = .ok us w
  | [], K, h => ⟨[], [], h, rfl, rfl, rfl⟩
  | .tmp t :: rs, K, h => by
    simp only [resA, RM.run_bind] at h
    obtain ⟨vs, us, k1, k2, k3, k4⟩ := resA_ok hb hw hv hT h
    refine ⟨_, _, k1, ⟨_, _, rfl, hT t, k2⟩, by simp [k3], ?_⟩
    simp only [List.mapM_cons, resV, Sem.run_bind, Sem.run_pure, Result.andThen_ok, k4]
  | .cell a t :: rs, K, h => by
    simp only [resA, RM.run_bind] at h
    obtain ⟨v, o, k0, k5, k6⟩ := cell_ok hb hw hv (hT a) h
    obtain ⟨vs, us, k1, k2, k3, k4⟩ := resA_ok hb hw hv hT k0
    refine ⟨_, _, k1, ⟨_, _, rfl, k6, k2⟩, by simp [k3], ?_⟩
    simp only [List.mapM_cons, resV]
    rw [Sem.run_bind, k5]
    simp only [Result.andThen_ok, Sem.run_bind, Sem.run_pure, k4]
theorem FnG_of_W (hb : TbOK P tb) (hm : P.follows .mixedOrders = true) {f : FuncId} {fn : Func} {c : Code} {args : List AV} {Hin : Heap} {out : Out} (hf : P.funcs[f]? = some fn) (hbody : fn.body = some c) (hname : (fn.name == "runtime.NumGoroutine") = false)
    (hd : dstsC fn.ntmps c = true) (harg : args.length ≤ fn.ntmps) {rs : List ResultVar} (hrs : fn.results.toList = rs) (h : FnW P tb sp rs c args Hin out) : FnG P f args Hin out := by
  subst hrs
  intro w R N cargs hw hv hN hr
  have hlen : ∀ {xs : List AV} {us : List Value}, RepVs R w xs us → us.length = xs.length := by
    intro xs
    induction xs with
    | nil => intro us h; simp only [RepVs] at h; subst h; rfl
    | cons x xs ih => intro us h; simp only [RepVs] at h; obtain ⟨u, us', rfl, _, h3⟩ := h; simp [ih h3]
  have hcl : cargs.size = args.length := by rw [← Array.length_toList]; exact hlen hr
  have hcall : (callFunc f cargs).run P w = .ok (.enter f cargs) w := by
    have hprog : (program).run P w = .ok P w := rfl
    unfold callFunc
    simp only [Sem.run_bind, hprog, Result.andThen_ok, hf, hname, Bool.false_eq_true, if_false, hbody, Option.isNone_some, Sem.run_pure]
  unfold CallF
  rw [hcall]
  simp only []
  refine calls_of_wp hf hbody ?_
  let B : Base := ⟨w, R, Hin, N, fn.ntmps⟩
  have hs : SimR P B R ⟨initT 0 args, Hin⟩ { tmps := cargs ++ Array.replicate (fn.ntmps - cargs.size) undef, defers := [] } w := by
    refine ⟨.refl hw hv, ?_, fun t => ?_, rfl⟩
    · show (cargs ++ Array.replicate (fn.ntmps - cargs.size) undef).size = fn.ntmps
      rw [Array.size_append, Array.size_replicate, hcl]
      omega
    · rw [lk_init]
      simp only [Nat.zero_le, if_true, Nat.sub_zero]
      cases e : args[t]? with
      | none => exact .any
      | some v =>
        obtain ⟨u, hu, hru⟩ := vs_at hr e
        simp only [Option.getD_some]
        have : (cargs ++ Array.replicate (fn.ntmps - cargs.size) undef).getD t undef = u := by
          rw [Array.getElem?_toList] at hu
          have hlt := (Array.getElem?_eq_some_iff.1 hu).1
          rw [Array.getD_eq_getD_getElem?, Array.getElem?_append_left hlt, hu]
          rfl
        rw [this]
        exact hru
  refine W_ok hb hm c hd hs h ?_
  rintro e R' st a' w' hs' hq
  have hfin : Fin tb fn.results.toList Hin out st → a'.defers = [] ∧ ∃ v, (results fn a'.tmps).run P w' = .ok v w' ∧ Post P N R Hin w out (.returned v) w' := by
    rintro ⟨ids, ws, h1, h2⟩
    refine ⟨hs'.defers, ?_⟩
    simp only [RM.run_bind] at h2
    obtain ⟨vs, us, k1, k2, k3, k4⟩ := resA_ok hb hs'.step.wf hs'.step.virt hs'.tmps h2
    obtain ⟨fz, R2, m1, m2, m3, m4⟩ := passAll_ok (.refl st.H) hs'.step.wf hs'.step.virt k2 k1
    obtain ⟨i1, i2⟩ := m1
    have hst := (hs'.step.trans m2)
    have hdrop := hst.drop fun r e he => entsOk_spec i2 r e he (by simp)
    refine ⟨if h : us.toArray.size = 1 then us.toArray[0] else .tuple us.toArray, ?_, _, ids, R2, rfl, idsOk_picks hst.news i1, hdrop, ?_⟩
    · have : results fn a'.tmps = (do let vs ← fn.results.mapM (resV a'.tmps); pure (if h : vs.size = 1 then vs[0] else .tuple vs)) := by
        unfold results
        congr 1
      rw [this, Array.mapM_eq_mapM_toList]
      simp only [Sem.run_bind, map_eq_pure_bind, k4, Result.andThen_ok, Sem.run_pure]
    · have hul : us.length = ws.length := by
        have : ∀ {xs : List AV} {us : List Value}, RepVs R2 w' xs us → us.length = xs.length := by
          intro xs
          induction xs with
          | nil => intro us h; simp only [RepVs] at h; subst h; rfl
          | cons x xs ih => intro us h; simp only [RepVs] at h; obtain ⟨u, us', rfl, _, h3⟩ := h; simp [ih h3]
        exact this m4
      unfold tupOf at h1
      split at h1
      · rename_i hn1
        cases h1
        rw [hn1] at k3
        obtain ⟨u, rfl⟩ := List.length_eq_one_iff.1 k3
        simp only [RepVs, List.cons.injEq, and_true] at m4
        obtain ⟨u', us', ⟨rfl, rfl⟩, m5, _⟩ := m4
        exact m5.imp id .inl
      · rename_i hn1
        split at h1
        · rename_i vs' ev
          cases h1
          rw [dif_neg (by simp [k3]; exact hn1)]
          rw [ev]
          exact .inr (.inr ⟨_, _, rfl, rfl, m4⟩)
        · cases h1
  cases e with
  | normal => exact hfin hq
  | ret => exact hfin hq
  | exit i => exact hq.elim
end
end Go.Am
