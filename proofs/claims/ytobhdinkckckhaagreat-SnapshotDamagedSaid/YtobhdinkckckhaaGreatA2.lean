/- A part of the proof of the laws of layer 32: abstract values and contracts of functions; no statement of its own. -/
import Derived.Test.YtobhdinkckckhaaGreatA1
import Derived.Laws.StructEq
set_option linter.unusedSimpArgs false
set_option linter.unusedVariables false
set_option linter.unusedVariables false
namespace Go.Am
section
variable {P : Program} {tb : Nat → Option TyA} {N : Nat} {R : CSet} {H : Heap} {w : World}

theorem beq_dec {α : Type} [BEq α] [LawfulBEq α] [DecidableEq α] (a b : α) : (a == b) = decide (a = b) := by rw [Bool.eq_iff_iff]; simp
theorem run_intBits {op k a b v} (h : bitsI op k a b = some v) : ∃ u, (Op.intBits op k a b).run P w = .ok u w ∧ RepV R w v u := by
  cases op <;> simp only [bitsI, Option.some.injEq, reduceCtorEq] at h <;> subst h <;> exact ⟨_, rfl, rep_int⟩
theorem run_cmpI {op a b v} (h : cmpI op a b = some v) : ∃ u, (Op.intCmp op a b).run P w = .ok u w ∧ RepV R w v u := by
  cases op <;> simp only [cmpI, Option.some.injEq, reduceCtorEq] at h <;> subst h <;>
    first
      | exact ⟨_, rfl, rep_bool⟩
      | exact ⟨_, rfl, by rw [beq_dec]; exact rep_bool⟩
      | exact ⟨_, rfl, by rw [bne, beq_dec]; exact rep_bool⟩
theorem run_binI {op k a b v} (t : TypeId) (h : binI op k a b = some v) (h1 : op ≠ .shl) (h2 : op ≠ .shr) : ∃ u, (binOp op t (.int k a) (.int k b)).run P w = .ok u w ∧ RepV R w v u := by
  cases op <;> simp only [ne_eq, not_true_eq_false] at h1 h2 <;> simp only [binI] at h <;> simp only [binOp, ne_eq, not_true_eq_false, if_false] <;>
    first
      | exact run_cmpI h
      | exact run_intBits h
      | (cases h; exact ⟨_, rfl, rep_int⟩)
      | (split at h
         · cases h
         · cases h
           rename_i hb
           exact ⟨_, by simp only [Op.intDiv, hb, if_false]; rfl, rep_int⟩)
      | (simp [cmpI] at h)
theorem run_shiftI {op k a yk b v} (h : shiftI op k a b = some v) : ∃ u, (Op.shift op k a yk b).run P w = .ok u w ∧ RepV R w v u := by
  simp only [shiftI] at h
  split at h
  · cases h
  · rename_i hb
    simp only [Op.shift, hb, if_false]
    cases op <;> simp only [Option.some.injEq, reduceCtorEq] at h <;> subst h <;> exact ⟨_, rfl, rep_int⟩
theorem bytesLess_eq (a b : ByteArray) : Op.bytesLess a.toList b.toList = Op.bytesLess a.data.toList b.data.toList := by
  rw [ByteArray.toList_eq, ByteArray.toList_eq]
theorem run_cmpS {op a b v} (h : cmpS op a b = some v) : ∃ u, (Op.stringOp op ⟨a.toArray⟩ ⟨b.toArray⟩).run P w = .ok u w ∧ RepV R w v u := by
  have e1 : (⟨a.toArray⟩ : ByteArray).toList = a := by rw [ByteArray.toList_eq]
  have e2 : (⟨b.toArray⟩ : ByteArray).toList = b := by rw [ByteArray.toList_eq]
  cases op <;> simp only [cmpS, Option.some.injEq, reduceCtorEq] at h <;> simp only [Op.stringOp, e1, e2] <;>
    first
      | (subst h; exact ⟨_, rfl, by simp only [beq_dec]; exact rep_bool⟩)
      | (subst h; exact ⟨_, rfl, rep_bool⟩)
      | skip
  split at h
  · rename_i hl
    cases h
    have e3 : (⟨a.toArray⟩ : ByteArray).size = a.length := by simp [ByteArray.size]
    have e4 : (⟨b.toArray⟩ : ByteArray).size = b.length := by simp [ByteArray.size]
    have : ¬ (((⟨a.toArray⟩ : ByteArray).size + (⟨b.toArray⟩ : ByteArray).size : Nat) : Int) > IntKind.i64.max := by
      rw [e3, e4]
      have : IntKind.i64.max = 9223372036854775807 := by decide
      rw [this]; omega
    rw [if_neg this]
    refine ⟨_, rfl, ?_⟩
    have : (⟨a.toArray⟩ : ByteArray) ++ ⟨b.toArray⟩ = ⟨(a ++ b).toArray⟩ := by
      apply ByteArray.ext
      rw [ByteArray.data_append]; simp
    rw [this]
    exact rep_str
  · cases h

/-! ### equality -/

def aggC : CT → Bool
  | .agg _ | .rep _ _ => true
  | _ => false
mutual
theorem eqT_shape : ∀ {c : CT} {x y : AV} {r : Bool}, eqT c x y = some r → ncells x = csize c ∧ ncells y = csize c ∧ aggA x = aggC c ∧ aggA y = aggC c ∧ known x = true ∧ known y = true
  | .int, x, y, r, h => by cases x <;> cases y <;> simp [eqT] at h <;> simp [ncells, csize, aggA, aggC, known]
  | .bool, x, y, r, h => by cases x <;> cases y <;> simp [eqT] at h <;> simp [ncells, csize, aggA, aggC, known]
  | .str, x, y, r, h => by cases x <;> cases y <;> simp [eqT] at h <;> simp [ncells, csize, aggA, aggC, known]
  | .none, x, y, r, h => by cases x <;> cases y <;> simp [eqT] at h
  | .agg cs, x, y, r, h => by
    cases x <;> cases y <;> simp only [eqT, reduceCtorEq] at h
    obtain ⟨h1, h2⟩ := eqTL_shape h
    simp [ncells, csize, aggA, aggC, known, h1, h2]
  | .rep n c, x, y, r, h => by
    cases x <;> cases y <;> simp only [eqT, reduceCtorEq] at h
    split at h
    · rename_i hl
      obtain ⟨h1, h2⟩ := eqTR_shape h
      simp only [ncells, csize, aggA, aggC, known]
      rw [ncellsL_allSz h1, ncellsL_allSz h2, hl.1, hl.2]
      simp
    · cases h
theorem eqTL_shape : ∀ {cs : List CT} {xs ys : List AV} {r : Bool}, eqTL cs xs ys = some r → ncellsL xs = csizeL cs ∧ ncellsL ys = csizeL cs
  | [], xs, ys, r, h => by cases xs <;> cases ys <;> simp [eqTL] at h <;> simp [ncellsL, csizeL]
  | c :: cs, xs, ys, r, h => by
    cases xs <;> cases ys <;> simp only [eqTL, reduceCtorEq] at h
    split at h
    · rename_i r1 e1
      split at h
      · rename_i r2 e2
        have := eqT_shape e1
        have := eqTL_shape e2
        simp [ncellsL, csizeL, *]
      · cases h
    · cases h
theorem eqTR_shape : ∀ {c : CT} {xs ys : List AV} {r : Bool}, eqTR c xs ys = some r → allSz (csize c) xs = true ∧ allSz (csize c) ys = true
  | c, [], ys, r, h => by cases ys <;> simp [eqTR] at h <;> simp [allSz]
  | c, x :: xs, ys, r, h => by
    cases ys <;> simp only [eqTR, reduceCtorEq] at h
    split at h
    · rename_i r1 e1
      split at h
      · rename_i r2 e2
        have h1 := eqT_shape e1
        have h2 := eqTR_shape e2
        simp [allSz, h1, h2]
      · cases h
    · cases h
end
/-- the part of a struct's or an array's cells -/
theorem run_part_rep {t : Nat} {cs : Array Value} {off : Nat} {x : AV} {ag : Bool} (hag : ∀ w : World, (isAgg t).run P w = .ok ag w) (hsz : ag = true → ∀ w : World, (sizeOf t).run P w = .ok (ncells x) w)
    (hx : Rep R w x ((cs.toList.drop off).take (ncells x))) (hl : off + ncells x ≤ cs.size) (hax : aggA x = ag) :
    ∃ u, (part t cs off).run P w = .ok u w ∧ RepV R w x u := by
  cases ag with
  | true =>
    refine ⟨.agg (cs.extract off (off + ncells x)), by simp only [part, Sem.run_bind, hag, Result.andThen_ok, if_true, hsz rfl, Sem.run_pure], .of ?_ (by rw [hax]; rfl)⟩
    simp only [Value.cells, Array.toList_extract]
    simpa [List.extract] using hx
  | false =>
    have h1 := ncells_scalar hax
    rw [h1] at hx hl
    have h2 : (cs.toList.drop off).take 1 = [cs[off]] := by
      rw [List.drop_eq_getElem_cons (by simp; omega)]
      simp
    rw [h2] at hx
    refine ⟨cs[off], ?_, .of_one hx hax⟩
    simp only [part, Sem.run_bind, hag, Result.andThen_ok, Bool.false_eq_true, if_false]
    rw [Array.getElem?_eq_getElem (by omega)]
    simp
theorem CtOK.isAgg {d t c} (h : CtOK P d t c) (w : World) : (isAgg t).run P w = .ok (aggC c) w := by
  cases h with
  | int h _ => simp [Go.isAgg, run_underlying h, aggC]
  | bool h _ => simp [Go.isAgg, run_underlying h, aggC]
  | str h _ => simp [Go.isAgg, run_underlying h, aggC]
  | rep h _ _ => simp [Go.isAgg, run_underlying h, aggC]
  | agg h _ _ _ _ _ => simp [Go.isAgg, run_underlying h, aggC]
theorem CtOK.sz {d t c} (h : CtOK P d t c) : P.cellsOf t = csize c := by
  cases h with
  | int _ h => exact h
  | bool _ h => exact h
  | str _ h => exact h
  | rep _ h _ => exact h
  | agg _ h _ _ _ _ => exact h
theorem CtOK.run_size {d t c} (h : CtOK P d t c) (hc : aggC c = true) (w : World) : (sizeOf t).run P w = .ok (csize c) w := by
  have : ∃ i, P.info? t = some i := by
    cases h with
    | int h _ => exact info_of_underlying h
    | bool h _ => exact info_of_underlying h
    | str h _ => exact info_of_underlying h
    | rep h _ _ => exact info_of_underlying h
    | agg h _ _ _ _ _ => exact info_of_underlying h
  obtain ⟨i, hi⟩ := this
  rw [run_sizeOf w hi, h.sz]
theorem eqFields_ok {d : Nat} {xs ys : Array Value} (IH : ∀ {t : Nat} {c : CT} {x y : AV} {u u' : Value} {r : Bool}, CtOK P d t c → eqT c x y = some r → RepV R w x u → RepV R w y u' → (Op.equalIn d t u u').run P w = .ok r w) :
    ∀ (fs : List Field) (cs : List CT) (vs us : List AV) (r : Bool) (o : Nat), fs.length = cs.length →
      (∀ (i : Nat) (f : Field), fs[i]? = some f → f.name ≠ "_" ∧ f.offset = o + csizeL (cs.take i)) → (∀ (i : Nat) (f : Field) (c : CT), fs[i]? = some f → cs[i]? = some c → CtOK P d f.type c) →
      eqTL cs vs us = some r → RepL R w vs (xs.toList.drop o) → RepL R w us (ys.toList.drop o) → (Op.eqFields d xs ys fs).run P w = .ok r w
  | [], cs, vs, us, r, o, hl, _, _, h, _, _ => by
    cases cs <;> simp at hl
    cases vs <;> cases us <;> simp [eqTL] at h
    subst h
    simp [Op.eqFields]
  | f :: fs, cs, vs, us, r, o, hl, h1, h2, h, hx, hy => by
    cases cs with
    | nil => simp at hl
    | cons c cs =>
      cases vs with
      | nil => simp [eqTL] at h
      | cons v vs =>
        cases us with
        | nil => simp [eqTL] at h
        | cons u us =>
          simp only [eqTL] at h
          split at h
          · rename_i r1 e1
            split at h
            · rename_i r2 e2
              cases h
              obtain ⟨hn, ho⟩ := h1 0 f rfl
              simp only [List.take_zero, csizeL, Nat.add_zero] at ho
              have hc := h2 0 f c rfl rfl
              obtain ⟨s1, s2, s3, s4, _⟩ := eqT_shape e1
              simp only [RepL] at hx hy
              obtain ⟨a1, a2, ha, ha1, ha2⟩ := hx
              obtain ⟨b1, b2, hb, hb1, hb2⟩ := hy
              have la := Rep.length _ _ ha1
              have lb := Rep.length _ _ hb1
              have hxl : o + a1.length ≤ xs.size ∨ a1.length = 0 := by
                have := congrArg List.length ha
                simp at this; omega
              have hyl : o + b1.length ≤ ys.size ∨ b1.length = 0 := by
                have := congrArg List.length hb
                simp at this; omega
              have hag : ∀ w : World, (Go.isAgg f.type).run P w = .ok (aggC c) w := hc.isAgg
              -- the first field's parts
              have px : ∃ p, (part f.type xs f.offset).run P w = .ok p w ∧ RepV R w v p := by
                by_cases hz : ncells v = 0
                · -- an empty struct: its part is empty
                  have hagv : aggA v = true := by cases v <;> simp [ncells] at hz <;> rfl
                  have hcc : aggC c = true := by rw [← s3]; exact hagv
                  refine ⟨.agg (xs.extract f.offset (f.offset + csize c)), by simp only [part, Sem.run_bind, hag, Result.andThen_ok, hcc, if_true, hc.run_size hcc, Sem.run_pure], .of ?_ (by rw [hagv]; rfl)⟩
                  have : a1 = [] := List.eq_nil_of_length_eq_zero (by omega)
                  subst this
                  have hcz : csize c = 0 := by omega
                  simpa [Value.cells, hcz] using ha1
                · refine run_part_rep (cs := xs) hag (fun ht w => by rw [s1]; exact hc.run_size ht w) ?_ (by rw [ho]; omega) s3
                  rw [ho, ha, ← la, List.take_left]
                  exact ha1
              have py : ∃ p, (part f.type ys f.offset).run P w = .ok p w ∧ RepV R w u p := by
                by_cases hz : ncells u = 0
                · have hagv : aggA u = true := by cases u <;> simp [ncells] at hz <;> rfl
                  have hcc : aggC c = true := by rw [← s4]; exact hagv
                  refine ⟨.agg (ys.extract f.offset (f.offset + csize c)), by simp only [part, Sem.run_bind, hag, Result.andThen_ok, hcc, if_true, hc.run_size hcc, Sem.run_pure], .of ?_ (by rw [hagv]; rfl)⟩
                  have : b1 = [] := List.eq_nil_of_length_eq_zero (by omega)
                  subst this
                  have hcz : csize c = 0 := by omega
                  simpa [Value.cells, hcz] using hb1
                · refine run_part_rep (cs := ys) hag (fun ht w => by rw [s2]; exact hc.run_size ht w) ?_ (by rw [ho]; omega) s4
                  rw [ho, hb, ← lb, List.take_left]
                  exact hb1
              obtain ⟨p, hp1, hp2⟩ := px
              obtain ⟨q, hq1, hq2⟩ := py
              have hpq := IH hc e1 hp2 hq2
              have rest := eqFields_ok IH fs cs vs us r2 (o + csize c) (by simpa using hl) (fun i g hg => by
                  obtain ⟨n1, n2⟩ := h1 (i + 1) g (by simpa using hg)
                  exact ⟨n1, by rw [n2, List.take_succ_cons, csizeL]; omega⟩) (fun i g c' hg hc' => h2 (i + 1) g c' (by simpa using hg) (by simpa using hc')) e2
                (by rw [← s1, ← la, ← List.drop_drop, ha, List.drop_left]; exact ha2) (by rw [← s2, ← lb, ← List.drop_drop, hb, List.drop_left]; exact hb2)
              simp only [Op.eqFields, hn, ne_eq, not_false_eq_true, if_true, Sem.run_bind, hp1, hq1, hpq, Result.andThen_ok, Sem.run_ite]
              cases r1
              · simp
              · simpa using rest
            · cases h
          · cases h
theorem eqItems_ok {d e : Nat} {c : CT} {xs ys : Array Value} (hc : CtOK P d e c) (IH : ∀ {t : Nat} {c : CT} {x y : AV} {u u' : Value} {r : Bool}, CtOK P d t c → eqT c x y = some r → RepV R w x u → RepV R w y u' → (Op.equalIn d t u u').run P w = .ok r w) :
    ∀ (vs us : List AV) (r : Bool) (k : Nat), eqTR c vs us = some r → RepL R w vs (xs.toList.drop (k * csize c)) → RepL R w us (ys.toList.drop (k * csize c)) →
      (Op.eqItems d e (csize c) xs ys (List.range' k vs.length)).run P w = .ok r w
  | [], us, r, k, h, _, _ => by
    cases us <;> simp [eqTR] at h
    subst h
    simp [Op.eqItems]
  | v :: vs, us, r, k, h, hx, hy => by
    cases us with
    | nil => simp [eqTR] at h
    | cons u us =>
      simp only [eqTR] at h
      split at h
      · rename_i r1 e1
        split at h
        · rename_i r2 e2
          cases h
          obtain ⟨s1, s2, s3, s4, _⟩ := eqT_shape e1
          simp only [RepL] at hx hy
          obtain ⟨a1, a2, ha, ha1, ha2⟩ := hx
          obtain ⟨b1, b2, hb, hb1, hb2⟩ := hy
          have la := Rep.length _ _ ha1
          have lb := Rep.length _ _ hb1
          have hag : ∀ w : World, (Go.isAgg e).run P w = .ok (aggC c) w := hc.isAgg
          have px : ∃ p, (part e xs (k * csize c)).run P w = .ok p w ∧ RepV R w v p := by
            by_cases hz : ncells v = 0
            · have hagv : aggA v = true := by cases v <;> simp [ncells] at hz <;> rfl
              have hcc : aggC c = true := by rw [← s3]; exact hagv
              refine ⟨.agg (xs.extract (k * csize c) (k * csize c + csize c)), by simp only [part, Sem.run_bind, hag, Result.andThen_ok, hcc, if_true, hc.run_size hcc, Sem.run_pure], .of ?_ (by rw [hagv]; rfl)⟩
              have : a1 = [] := List.eq_nil_of_length_eq_zero (by omega)
              subst this
              have hcz : csize c = 0 := by omega
              simpa [Value.cells, hcz] using ha1
            · have := congrArg List.length ha
              simp at this
              refine run_part_rep (cs := xs) hag (fun ht w => by rw [s1]; exact hc.run_size ht w) ?_ (by omega) s3
              rw [ha, ← la, List.take_left]
              exact ha1
          have py : ∃ p, (part e ys (k * csize c)).run P w = .ok p w ∧ RepV R w u p := by
            by_cases hz : ncells u = 0
            · have hagv : aggA u = true := by cases u <;> simp [ncells] at hz <;> rfl
              have hcc : aggC c = true := by rw [← s4]; exact hagv
              refine ⟨.agg (ys.extract (k * csize c) (k * csize c + csize c)), by simp only [part, Sem.run_bind, hag, Result.andThen_ok, hcc, if_true, hc.run_size hcc, Sem.run_pure], .of ?_ (by rw [hagv]; rfl)⟩
              have : b1 = [] := List.eq_nil_of_length_eq_zero (by omega)
              subst this
              have hcz : csize c = 0 := by omega
              simpa [Value.cells, hcz] using hb1
            · have := congrArg List.length hb
              simp at this
              refine run_part_rep (cs := ys) hag (fun ht w => by rw [s2]; exact hc.run_size ht w) ?_ (by omega) s4
              rw [hb, ← lb, List.take_left]
              exact hb1
          obtain ⟨p, hp1, hp2⟩ := px
          obtain ⟨q, hq1, hq2⟩ := py
          have hpq := IH hc e1 hp2 hq2
          have rest := eqItems_ok hc IH vs us r2 (k + 1) e2 (by rw [Nat.succ_mul, ← List.drop_drop, ha, ← s1, ← la, List.drop_left]; exact ha2) (by rw [Nat.succ_mul, ← List.drop_drop, hb, ← s2, ← lb, List.drop_left]; exact hb2)
          simp only [List.length_cons, List.range'_succ, Op.eqItems, Sem.run_bind, hp1, hq1, hpq, Result.andThen_ok, Sem.run_ite]
          cases r1
          · simp
          · simpa using rest
        · cases h
      · cases h
theorem equalIn_ok : ∀ {d t c x y u u' r}, CtOK P d t c → eqT c x y = some r → RepV R w x u → RepV R w y u' → (Op.equalIn d t u u').run P w = .ok r w := by
  intro d
  induction d with
  | zero => intro t c x y u u' r h; cases h
  | succ d ih =>
    intro t c x y u u' r h he hx hy
    cases h with
    | int h _ =>
      cases x <;> cases y <;> simp only [eqT, reduceCtorEq] at he
      split at he
      · rename_i hk; subst hk; cases he
        rw [hx.int, hy.int, run_equalIn_int w d t _ _ _ _ h, beq_dec]
      · cases he
    | bool h _ =>
      cases x <;> cases y <;> simp only [eqT, reduceCtorEq, Option.some.injEq] at he
      subst he
      rw [hx.bool, hy.bool, run_equalIn_bool w d t _ _ h, beq_dec]
    | str h _ =>
      cases x <;> cases y <;> simp only [eqT, reduceCtorEq, Option.some.injEq] at he
      subst he
      rw [hx.str, hy.str, run_equalIn_string w d t _ _ h, beq_dec, ByteArray.toList_eq, ByteArray.toList_eq]
    | rep h hs hc =>
      rename_i n e c
      cases x <;> cases y <;> simp only [eqT, reduceCtorEq] at he
      split at he
      · rename_i hl
        obtain ⟨xs, rfl, hx'⟩ := hx.agg
        obtain ⟨ys, rfl, hy'⟩ := hy.agg
        have : ∃ i, P.info? e = some i := by
          cases hc with
          | int h _ => exact info_of_underlying h
          | bool h _ => exact info_of_underlying h
          | str h _ => exact info_of_underlying h
          | rep h _ _ => exact info_of_underlying h
          | agg h _ _ _ _ _ => exact info_of_underlying h
        obtain ⟨i, hi⟩ := this
        rw [run_equalIn_array w d xs ys h hi, hc.sz, List.range_eq_range']
        have := eqItems_ok (xs := xs) (ys := ys) hc ih _ _ r 0 he (by simpa using hx') (by simpa using hy')
        rwa [hl.1] at this
      · cases he
    | agg h hs hst hl h1 h2 =>
      rename_i fs cs
      cases x <;> cases y <;> simp only [eqT, reduceCtorEq] at he
      obtain ⟨xs, rfl, hx'⟩ := hx.agg
      obtain ⟨ys, rfl, hy'⟩ := hy.agg
      have hfs : P.fieldsOf t = fs := by simp [Program.fieldsOf, h]
      rw [run_equalIn_struct w d t xs ys (by rw [hfs]; exact h) hst, hfs]
      exact eqFields_ok ih fs.toList cs _ _ r 0 (by simpa using hl) (fun i f hf => by simpa using h1 i f (by simpa using hf)) (fun i f c hf hc => h2 i f c (by simpa using hf) hc) he (by simpa using hx') (by simpa using hy')
end
end Go.Am
set_option linter.unusedVariables false
namespace Go.Am
section
variable {P : Program} {tb : Nat → Option TyA} {N : Nat} {R : CSet} {H : Heap} {w : World}

theorem run_eqGuard_other {op t o1 o2 u v} (h1 : ∀ a b, ¬ (u = .agg a ∧ v = .agg b)) (h2 : ¬ (u = .nilIface ∧ v = .nilIface)) : (eqGuard op t o1 o2 u v).run P w = .ok () w := by
  have key : (do if !(op matches .eql | .neq) then return (); pure () : Sem Unit).run P w = .ok () w := by
    simp only [Sem.run_bind, Sem.run_ite, Sem.run_pure]
    split <;> rfl
  unfold eqGuard
  cases u <;> cases v <;> first
    | exact key
    | exact absurd ⟨rfl, rfl⟩ h2
    | exact absurd ⟨rfl, rfl⟩ (h1 _ _)
/-- what Go's == tells of these two values of the type -/
def EqOK (P : Program) (w : World) (t : Nat) (u v : Value) (b : Bool) : Prop := (Op.equal t u v).run P w = .ok b w
theorem run_binOp_eq {t u v b} (h : EqOK P w t u v b) (h1 : ∀ k a k' c, ¬ (u = .int k a ∧ v = .int k' c)) (h2 : ∀ k a k' c, ¬ (u = .float k a ∧ v = .float k' c)) (h3 : ∀ k a a' k' c c', ¬ (u = .complex k a a' ∧ v = .complex k' c c')) (h4 : ∀ a c, ¬ (u = .string a ∧ v = .string c)) :
    (binOp .eql t u v).run P w = .ok (.bool b) w ∧ (binOp .neq t u v).run P w = .ok (.bool !b) w := by
  have e1 : binOp .eql t u v = (do pure (.bool (← Op.equal t u v))) := by
    unfold binOp
    split <;> first
      | rfl
      | (exfalso; first | exact h1 _ _ _ _ ⟨rfl, rfl⟩ | exact h2 _ _ _ _ ⟨rfl, rfl⟩ | exact h3 _ _ _ _ _ _ ⟨rfl, rfl⟩ | exact h4 _ _ ⟨rfl, rfl⟩)
      | simp_all
  have e2 : binOp .neq t u v = (do pure (.bool (!(← Op.equal t u v)))) := by
    unfold binOp
    split <;> first
      | rfl
      | (exfalso; first | exact h1 _ _ _ _ ⟨rfl, rfl⟩ | exact h2 _ _ _ _ ⟨rfl, rfl⟩ | exact h3 _ _ _ _ _ _ ⟨rfl, rfl⟩ | exact h4 _ _ ⟨rfl, rfl⟩)
      | simp_all
  rw [e1, e2]
  unfold EqOK at h
  simp [h]

theorem run_opt {α : Type} {o : Option α} {K : α → Prop} (h : (opt o).run H K) : ∃ v, o = some v ∧ K v := by
  cases o with
  | none => exact h.elim
  | some v => exact ⟨v, rfl, h⟩
theorem run_map' {α β : Type} {x : RM α} {f : α → β} {K : β → Prop} (h : (x.map f).run H K) : x.run H fun a => K (f a) := by
  rw [RM.map, RM.run_bind] at h
  exact h
def NilShape (td : TD) (u : Value) (b : Bool) : Prop :=
  match td with
  | .ptr _ => ∃ a, u = .pointer a ∧ b = a.isNone
  | .slice _ => ∃ a n c, u = .slice a n c ∧ b = a.isNone
  | .map _ _ => ∃ a, u = .map a ∧ b = a.isNone
  | .func => (u = .nilFunc ∧ b = true) ∨ ((∃ f A B, u = .func f A B) ∧ b = false)
  | _ => False
def NilVal (td : TD) (u : Value) : Prop :=
  match td with
  | .ptr _ => u = .pointer none
  | .slice _ => u = .slice none 0 0
  | .map _ _ => u = .map none
  | .func => u = .nilFunc
  | _ => False
/-- is a value nil? -/
theorem nil_ok {td : TD} {x : AV} {u : Value} {K : Bool → Prop} (hk : nilKind td x = true) (hx : RepV R w x u) (h : (nilA x).run H K) :
    ∃ b, K b ∧ NilShape td u b := by
  cases x with
  | nilp => cases td <;> simp [nilKind] at hk; exact ⟨true, h, none, hx.nilp, rfl⟩
  | ptr r p => cases td <;> simp [nilKind] at hk; obtain ⟨b, _, hu⟩ := hx.ptr; exact ⟨false, h, _, hu, rfl⟩
  | cref v => cases td <;> simp [nilKind] at hk; obtain ⟨b, o, c, hu, _⟩ := hx.cref; exact ⟨false, h, _, hu, rfl⟩
  | nils => cases td <;> simp [nilKind] at hk; exact ⟨true, h, none, 0, 0, hx.nils, rfl⟩
  | list xs =>
    cases td <;> simp [nilKind] at hk
    have h2 := hx.one rfl rfl
    simp only [Rep, List.cons.injEq, and_true] at h2
    obtain ⟨a, c, rfl, h3, sz, cells, h4, h5⟩ := h2
    cases xs with
    | nil => exact ⟨a.isNone, h _, a, _, _, rfl, rfl⟩
    | cons y xs =>
      obtain ⟨b, o, rfl, _⟩ := h5.resolve_left (by simp)
      exact ⟨false, h, _, _, _, rfl, rfl⟩
  | own r p sz off len mc =>
    cases td <;> simp [nilKind] at hk
    have h2 := hx.one rfl rfl
    simp only [nilA] at h
    have hex : ∃ a c, u = .slice a len c ∧ (0 < len → a ≠ none) := by
      cases r with
      | blk b =>
        simp only [Rep, List.cons.injEq, and_true] at h2
        obtain ⟨a, c, rfl, h3, h4, h5⟩ := h2
        refine ⟨a, c, rfl, fun hl => ?_⟩
        rcases h5 with h5 | ⟨rfl, _⟩
        · omega
        · simp
      | virt n =>
        simp only [Rep, List.cons.injEq, and_true] at h2
        obtain ⟨a, rfl, rfl, _⟩ := h2
        exact ⟨a, 0, rfl, fun hl => by omega⟩
    obtain ⟨a, c, rfl, ha⟩ := hex
    split at h
    · rename_i hl
      refine ⟨false, h, a, _, _, rfl, ?_⟩
      cases a with
      | none => exact absurd rfl (ha hl)
      | some a => rfl
    · exact ⟨a.isNone, h _, a, _, _, rfl, rfl⟩
  | map r =>
    cases td <;> simp [nilKind] at hk
    have h2 := hx.one rfl rfl
    cases r with
    | blk b => simp only [Rep, List.cons.injEq, and_true] at h2; exact ⟨false, h, _, h2, rfl⟩
    | virt n => simp [Rep] at h2
  | nilm =>
    cases td <;> simp [nilKind] at hk
    have h2 := hx.one rfl rfl
    simp only [Rep, List.cons.injEq, and_true] at h2
    exact ⟨true, h, none, h2, rfl⟩
  | func f fi ca =>
    cases td <;> simp [nilKind] at hk
    have h2 := hx.one rfl rfl
    simp only [Rep, List.cons.injEq, and_true] at h2
    obtain ⟨A, B, h3, _⟩ := h2
    exact ⟨false, h, .inr ⟨⟨_, A, B, h3⟩, rfl⟩⟩
  | nilf =>
    cases td <;> simp [nilKind] at hk
    have h2 := hx.one rfl rfl
    simp only [Rep, List.cons.injEq, and_true] at h2
    exact ⟨true, h, .inl ⟨h2, rfl⟩⟩
  | _ => cases td <;> simp [nilKind] at hk
theorem isNil_ok {td : TD} {x : AV} {u : Value} (hk : nilKind td x = true) (hn : isNil x = true) (hx : RepV R w x u) : NilVal td u := by
  cases x <;> simp [isNil] at hn <;> cases td <;> simp [nilKind] at hk
  · exact hx.nilp
  · exact hx.nils
  · have h2 := hx.one rfl rfl; simpa [Rep, NilVal] using h2
  · have h2 := hx.one rfl rfl; simpa [Rep, NilVal] using h2
theorem nilKind_not {td x u} (hk : nilKind td x = true) (hx : RepV R w x u) : (∀ k a, u ≠ .int k a) ∧ (∀ k a, u ≠ .float k a) ∧ (∀ k a b, u ≠ .complex k a b) ∧ (∀ s, u ≠ .string s) ∧ (∀ a, u ≠ .agg a) ∧ u ≠ .nilIface := by
  have hkn : known x = true := by cases x <;> simp [nilKind] at hk <;> rfl
  have ha : aggA x = false := by cases x <;> simp [nilKind] at hk <;> rfl
  have h2 := hx.one hkn ha
  cases x <;> simp only [nilKind, Bool.false_eq_true] at hk <;> simp only [Rep] at h2
  case ptr r p => cases r <;> simp at h2; subst h2; simp
  case nilp => simp at h2; subst h2; simp
  case cref v => obtain ⟨b, o, c, h2, _⟩ := h2; simp at h2; subst h2; simp
  case list xs => obtain ⟨a, c, h2, _⟩ := h2; simp at h2; subst h2; simp
  case nils => simp at h2; subst h2; simp
  case own r p sz off len mc =>
    cases r <;> simp only [] at h2
    · obtain ⟨a, c, h2, _⟩ := h2; simp at h2; subst h2; simp
    · obtain ⟨a, h2, _⟩ := h2; simp at h2; subst h2; simp
  case map r => cases r <;> simp at h2; subst h2; simp
  case nilm => simp at h2; subst h2; simp
  case func f fi ca => obtain ⟨A, B, h2, _⟩ := h2; simp at h2; subst h2; simp
  case nilf => simp at h2; subst h2; simp
theorem eqIn_ptr (d : Nat) {t e : Nat} (h : P.underlying t = some (.pointer e)) (a : Option Addr) : (Op.equalIn (d + 1) t (.pointer a) (.pointer none)).run P w = .ok a.isNone w ∧ (Op.equalIn (d + 1) t (.pointer none) (.pointer a)).run P w = .ok a.isNone w := by
  constructor <;> cases a <;> simp only [Op.equalIn, Sem.run_bind, run_underlying h, Result.andThen_ok, Sem.run_pure] <;> rfl
theorem eqIn_slice (d : Nat) {t e : Nat} (h : P.underlying t = some (.slice e)) (a : Option Addr) (n c : Nat) : (Op.equalIn (d + 1) t (.slice a n c) (.slice none 0 0)).run P w = .ok a.isNone w ∧ (Op.equalIn (d + 1) t (.slice none 0 0) (.slice a n c)).run P w = .ok a.isNone w := by
  constructor <;> cases a <;> simp only [Op.equalIn, Sem.run_bind, run_underlying h, Result.andThen_ok, Sem.run_pure] <;> rfl
theorem eqIn_map (d : Nat) {t k e : Nat} (h : P.underlying t = some (.map k e)) (a : Option Nat) : (Op.equalIn (d + 1) t (.map a) (.map none)).run P w = .ok a.isNone w ∧ (Op.equalIn (d + 1) t (.map none) (.map a)).run P w = .ok a.isNone w := by
  constructor <;> cases a <;> simp only [Op.equalIn, Sem.run_bind, run_underlying h, Result.andThen_ok, Sem.run_pure] <;> rfl
theorem eqIn_func (d : Nat) {t : Nat} {p q r} (h : P.underlying t = some (.func p q r)) : (Op.equalIn (d + 1) t .nilFunc .nilFunc).run P w = .ok true w ∧ ∀ f A B, (Op.equalIn (d + 1) t (.func f A B) .nilFunc).run P w = .ok false w ∧ (Op.equalIn (d + 1) t .nilFunc (.func f A B)).run P w = .ok false w := by
  refine ⟨?_, fun f A B => ⟨?_, ?_⟩⟩ <;> simp only [Op.equalIn, Sem.run_bind, run_underlying h, Result.andThen_ok, Sem.run_pure]
theorem eqNil_ok (hb : TbOK P tb) {t ty x y u v} {K : Bool → Prop} (ht : tb t = some ty) (hkx : nilKind ty.td x = true) (hky : nilKind ty.td y = true) (hn : isNil y = true) (hx : RepV R w x u) (hy : RepV R w y v) (h : (nilA x).run H K) :
    ∃ b, K b ∧ EqOK P w t u v b ∧ EqOK P w t v u b := by
  obtain ⟨b, hK, hu⟩ := nil_ok hkx hx h
  have hv := isNil_ok hky hn hy
  have htd := (hb t ty ht).td
  refine ⟨b, hK, ?_⟩
  cases e : ty.td with
  | ptr el =>
    simp only [e, tdOK, NilShape, NilVal] at hu hv htd
    obtain ⟨a, rfl, rfl⟩ := hu; subst hv
    exact eqIn_ptr 9999 htd a
  | slice el =>
    simp only [e, tdOK, NilShape, NilVal] at hu hv htd
    obtain ⟨a, n, c, rfl, rfl⟩ := hu; subst hv
    exact eqIn_slice 9999 htd a n c
  | map k el =>
    simp only [e, tdOK, NilShape, NilVal] at hu hv htd
    obtain ⟨a, rfl, rfl⟩ := hu; subst hv
    exact eqIn_map 9999 htd a
  | func =>
    simp only [e, tdOK, NilShape, NilVal] at hu hv htd
    obtain ⟨p, q, r, htd⟩ := htd; subst hv
    rcases hu with ⟨rfl, rfl⟩ | ⟨⟨f, A, B, rfl⟩, rfl⟩
    · exact ⟨(eqIn_func 9999 htd).1, (eqIn_func 9999 htd).1⟩
    · exact (eqIn_func 9999 htd).2 f A B
  | _ => simp [e, NilVal] at hv
theorem eqlA_ok (hb : TbOK P tb) {t x y u v} {K : Bool → Prop} (hx : RepV R w x u) (hy : RepV R w y v) (h : (eqlA tb t x y).run H K) :
    ∃ b, K b ∧ (∀ o1 o2 op, op = .eql ∨ op = .neq → (eqGuard op t o1 o2 u v).run P w = .ok () w) ∧ (binOp .eql t u v).run P w = .ok (.bool b) w ∧ (binOp .neq t u v).run P w = .ok (.bool !b) w := by
  unfold eqlA at h
  cases ht : tb t with
  | none => rw [ht] at h; exact h.elim
  | some ty =>
    rw [ht] at h
    simp only [] at h
    split at h
    · rename_i a b
      have := hx.bool; subst this
      have := hy.bool; subst this
      split at h
      · rename_i e
        have htd := (hb t ty ht).td
        simp only [e, tdOK] at htd
        have hq : EqOK P w t (.bool a) (.bool b) (decide (a = b)) := by
          simp only [EqOK, Op.equal, Op.maxDepth]; rw [run_equalIn_bool w _ t a b htd, beq_dec]
        have := run_binOp_eq hq (by simp) (by simp) (by simp) (by simp)
        exact ⟨_, h, fun o1 o2 op _ => run_eqGuard_other (by simp) (by simp), this.1, this.2⟩
      · exact h.elim
    · rename_i xs ys
      obtain ⟨b, he, hK⟩ := run_opt h
      rcases (hb t ty ht).ct with hc | ⟨hc, hg⟩
      · rw [hc] at he; simp [eqT] at he
      · have hq : EqOK P w t u v b := equalIn_ok hc he hx hy
        obtain ⟨cx, rfl, _⟩ := hx.agg
        obtain ⟨cy, rfl, _⟩ := hy.agg
        have := run_binOp_eq hq (by simp) (by simp) (by simp) (by simp)
        exact ⟨b, hK, fun o1 o2 op _ => run_eqGuard_agg w op t o1 o2 cx cy hg, this.1, this.2⟩
    · split at h
      · rename_i hk
        obtain ⟨n1, n2, n3, n4, n5, n6⟩ := nilKind_not hk.1 hx
        have hgd : ∀ o1 o2 op, (eqGuard op t o1 o2 u v).run P w = .ok () w := fun o1 o2 op => run_eqGuard_other (fun a b h => n5 a h.1) (fun h => n6 h.1)
        have fin : ∀ b, EqOK P w t u v b → (binOp .eql t u v).run P w = .ok (.bool b) w ∧ (binOp .neq t u v).run P w = .ok (.bool !b) w := fun b hq =>
          run_binOp_eq hq (fun k a _ _ h => n1 k a h.1) (fun k a _ _ h => n2 k a h.1) (fun k a b _ _ _ h => n3 k a b h.1) (fun s _ h => n4 s h.1)
        split at h
        · rename_i hn
          obtain ⟨b, hK, hq, _⟩ := eqNil_ok hb ht hk.1 hk.2 hn hx hy h
          exact ⟨b, hK, fun o1 o2 op _ => hgd o1 o2 op, (fin b hq).1, (fin b hq).2⟩
        · split at h
          · rename_i hn
            obtain ⟨b, hK, _, hq⟩ := eqNil_ok hb ht hk.2 hk.1 hn hy hx h
            exact ⟨b, hK, fun o1 o2 op _ => hgd o1 o2 op, (fin b hq).1, (fin b hq).2⟩
          · exact h.elim
      · exact h.elim
theorem binA_ok (hb : TbOK P tb) {op t x y u v} {K : AV → Prop} (hx : RepV R w x u) (hy : RepV R w y v) (o1 o2 : Operand) (h : (binA tb op t x y).run H K) :
    ∃ r z, K r ∧ (do eqGuard op t o1 o2 u v; binOp op t u v : Sem Value).run P w = .ok z w ∧ RepV R w r z := by
  unfold binA at h
  split at h
  · rename_i k a k' b
    have := hx.int; subst this
    have := hy.int; subst this
    simp only [Sem.run_bind, run_eqGuard_other (P := P) (w := w) (op := op) (t := t) (o1 := o1) (o2 := o2) (u := .int k a) (v := .int k' b) (by simp) (by simp), Result.andThen_ok]
    split at h
    · obtain ⟨r, he, hK⟩ := run_opt h
      obtain ⟨z, hz, hr⟩ := run_shiftI (P := P) (w := w) (R := R) (yk := k') he
      exact ⟨r, z, hK, hz, hr⟩
    · obtain ⟨r, he, hK⟩ := run_opt h
      obtain ⟨z, hz, hr⟩ := run_shiftI (P := P) (w := w) (R := R) (yk := k') he
      exact ⟨r, z, hK, hz, hr⟩
    · rename_i h1 h2
      split at h
      · rename_i hk
        subst hk
        obtain ⟨r, he, hK⟩ := run_opt h
        obtain ⟨z, hz, hr⟩ := run_binI (P := P) (w := w) (R := R) t he (fun e => h1 e) (fun e => h2 e)
        exact ⟨r, z, hK, hz, hr⟩
      · exact h.elim
  · rename_i a b
    have := hx.str; subst this
    have := hy.str; subst this
    obtain ⟨r, he, hK⟩ := run_opt h
    obtain ⟨z, hz, hr⟩ := run_cmpS (P := P) (w := w) (R := R) he
    refine ⟨r, z, hK, ?_, hr⟩
    simp only [Sem.run_bind, run_eqGuard_other (P := P) (w := w) (op := op) (t := t) (o1 := o1) (o2 := o2) (u := .string ⟨a.toArray⟩) (v := .string ⟨b.toArray⟩) (by simp) (by simp), Result.andThen_ok]
    have : binOp op t (.string ⟨a.toArray⟩) (.string ⟨b.toArray⟩) = Op.stringOp op ⟨a.toArray⟩ ⟨b.toArray⟩ := by
      cases op <;> first
        | rfl
        | (simp [cmpS] at he)
    rw [this]
    exact hz
  · split at h
    · obtain ⟨b, hK, hg, h1, h2⟩ := eqlA_ok hb hx hy (run_map' h)
      exact ⟨_, _, hK, by simp only [Sem.run_bind, hg o1 o2 .eql (.inl rfl), Result.andThen_ok]; exact h1, rep_bool⟩
    · obtain ⟨b, hK, hg, h1, h2⟩ := eqlA_ok hb hx hy (run_map' h)
      exact ⟨_, _, hK, by simp only [Sem.run_bind, hg o1 o2 .neq (.inr rfl), Result.andThen_ok]; exact h2, rep_bool⟩
    · exact h.elim
end
end Go.Am
set_option linter.unusedVariables false
namespace Go.Am
section
variable {P : Program} {tb : Nat → Option TyA} {N : Nat} {R : CSet} {H : Heap} {w : World}

theorem add_off (b o n : Nat) : (⟨b, o, none⟩ : Addr).add n = ⟨b, o + n, none⟩ := by unfold Addr.add; split <;> simp_all
theorem TyOK.struct {t ty fs} (h : TyOK P t ty) (hs : ty.td = .struct fs) : ∃ Fs : Array Field, P.underlying t = some (.struct Fs) ∧ Fs.toList.map (fun f => (f.type, f.offset)) = fs ∧ ∀ f ∈ Fs.toList, P.cellsOf f.type ≠ 0 := by
  have := h.td
  rw [hs] at this
  obtain ⟨Fs, h1, h2, h3⟩ := this
  exact ⟨Fs, h1, h2, fun f hf => by simpa using List.all_eq_true.1 h3 f hf⟩
theorem field_at {Fs : Array Field} {fs : List (Nat × Nat)} (h : Fs.toList.map (fun f => (f.type, f.offset)) = fs) {i ft off : Nat} (hi : fs[i]? = some (ft, off)) : ∃ f, Fs[i]? = some f ∧ f ∈ Fs.toList ∧ f.type = ft ∧ f.offset = off := by
  rw [← h, List.getElem?_map] at hi
  cases e : Fs.toList[i]? with
  | none => simp [e] at hi
  | some f =>
    simp only [e, Option.map_some, Option.some.injEq, Prod.mk.injEq] at hi
    exact ⟨f, by simpa using e, List.mem_of_getElem? e, hi.1, hi.2⟩
theorem run_fieldPlace (b o : Nat) (f : Field) (h : P.cellsOf f.type ≠ 0) : (fieldPlace ⟨b, o, none⟩ f).run P w = .ok ⟨b, o + f.offset, none⟩ w := by
  have : ∃ i, P.info? f.type = some i := by
    cases e : P.info? f.type with
    | none => simp [Program.cellsOf, e] at h
    | some i => exact ⟨i, rfl⟩
  obtain ⟨i, hi⟩ := this
  simp only [fieldPlace, Sem.run_bind, run_sizeOf w hi, Result.andThen_ok, h, if_false, Sem.run_pure, add_off]
theorem constAt_part {b o : Nat} {cs : List Value} {k n : Nat} (h : constAt R w b o cs) : constAt R w b (o + k) ((cs.drop k).take n) := by
  intro i v hi
  have hlt : i < n := by have := (List.getElem?_eq_some_iff.1 hi).1; simp at this; omega
  rw [List.getElem?_take_of_lt hlt, List.getElem?_drop] at hi
  have := h (k + i) v hi
  rwa [← Nat.add_assoc] at this
theorem optOut_ok {o : Option AV} {K : Out → Prop} (h : (optOut o).run H K) : ∃ v, o = some v ∧ K (.val v) := by
  cases o with
  | none => exact h.elim
  | some v => exact ⟨v, rfl, h⟩
theorem fieldAddr_ok (hb : TbOK P tb) (hw : WfH P R H w) (hv : VBound N H) {s x f u} {K : Out → Prop} (hx : RepV R w x u) (h : (optOut (fieldAddrA tb s x f)).run H K) : Done P N R H w ((Instr.fieldAt s u f).run P w) K := by
  obtain ⟨v, he, hK⟩ := optOut_ok h
  unfold fieldAddrA at he
  cases ht : tb s with
  | none => simp [ht] at he
  | some ty =>
    simp only [ht] at he
    split at he
    · rename_i fs hs
      obtain ⟨Fs, h1, h2, h3⟩ := (hb s ty ht).struct hs
      cases e : fs[f]? with
      | none => simp [e] at he
      | some p =>
        obtain ⟨ft, off⟩ := p
        obtain ⟨g, g1, g2, g3, g4⟩ := field_at h2 e
        simp only [e] at he
        split at he
        · rename_i r p
          cases he
          obtain ⟨b, rfl, rfl⟩ := hx.ptr
          simp only [Instr.fieldAt, Sem.run_bind, run_underlying h1, Result.andThen_ok, g1, Instr.sureAddr, Sem.run_pure, run_fieldPlace b (poff p) g (h3 g g2)]
          exact .val hw hv (.of_one (by simp [Rep, poff_append, poff, g4]) rfl) hK
        · rename_i vs
          split at he
          · rename_i ho
            cases e2 : vs[f]? with
            | none => simp [e2] at he
            | some v' =>
              simp only [e2, Option.some.injEq] at he
              subst he
              obtain ⟨b, o, c, rfl, h4, h5⟩ := hx.cref
              simp only [Rep] at h4
              obtain ⟨k1, k2⟩ := RepL.at_ h4 e2
              rw [ho] at k1
              simp only [Instr.fieldAt, Sem.run_bind, run_underlying h1, Result.andThen_ok, g1, Instr.sureAddr, Sem.run_pure, run_fieldPlace b o g (h3 g g2)]
              refine .val hw hv (.of_one ?_ rfl) hK
              simp only [Rep]
              exact ⟨b, _, _, rfl, k1, by rw [g4]; exact constAt_part h5⟩
          · cases he
        · cases he
    · cases he
theorem esize_ok (hb : TbOK P tb) {t sz} (h : esize tb t = some sz) : ∃ e, P.underlying t = some (.slice e) ∧ (∀ w : World, (sizeOf e).run P w = .ok sz w) ∧ ∃ te, tb e = some te ∧ te.size = sz := by
  unfold esize at h
  cases ht : tb t with
  | none => simp [ht] at h
  | some ty =>
    simp only [ht] at h
    split at h
    · rename_i e he
      cases hte : tb e with
      | none => simp [hte] at h
      | some te =>
        simp only [hte, Option.some.injEq] at h
        have := (hb t ty ht).td
        rw [he] at this
        exact ⟨e, this, fun w => by rw [(hb e te hte).size, h], te, hte, h⟩
    · cases h
theorem indexAddr_ok (hb : TbOK P tb) (hw : WfH P R H w) (hv : VBound N H) {t x i u ui} {K : Out → Prop} (hx : RepV R w x u) (hi : RepV R w i ui) (h : (optOut (idxA tb x i t)).run H K) : Done P N R H w ((Instr.indexAt t u ui).run P w) K := by
  obtain ⟨v, he, hK⟩ := optOut_ok h
  cases i with
  | int k n =>
    have := hi.int; subst this
    simp only [idxA] at he
    cases x with
    | list xs =>
      simp only [] at he
      split at he
      · rename_i hn
        cases e : xs[n.toNat]? with
        | none => simp [e] at he
        | some y =>
          simp only [e] at he
          split at he
          · rename_i hs
            cases he
            obtain ⟨el, h1, h2, _⟩ := esize_ok hb hs
            have h3 := hx.one rfl rfl
            simp only [Rep, List.cons.injEq, and_true] at h3
            obtain ⟨a, c, rfl, h4, sz, cells, h5, h6⟩ := h3
            have hne : xs ≠ [] := by intro e'; subst e'; simp at e
            obtain ⟨b, o, rfl, h7⟩ := h6.resolve_left hne
            obtain ⟨k1, k2, k3⟩ := h5.at_ e
            rw [k3] at h2
            simp only [Instr.indexAt, asIntOf, Sem.run_bind, Sem.run_pure, Result.andThen_ok, run_underlying h1, Bool.and_false, Bool.false_eq_true, if_false, hn, and_self, if_true, h2, Sem.run_ite]
            refine .val hw hv (.of_one ?_ rfl) hK
            simp only [Rep, add_off]
            exact ⟨b, _, _, rfl, k1, constAt_part h7⟩
          · cases he
      · cases he
    | own r p sz off len mc =>
      simp only [] at he
      split at he
      · rename_i hn
        cases he
        obtain ⟨el, h1, h2, _⟩ := esize_ok hb hn.2.2
        have h3 := hx.one rfl rfl
        cases r with
        | virt m =>
          simp only [Rep] at h3
          obtain ⟨_, _, rfl, _⟩ := h3
          have := hn.2.1
          have := hn.1
          omega
        | blk b =>
          simp only [Rep, List.cons.injEq, and_true] at h3
          obtain ⟨a, c, rfl, h4, h5, h6⟩ := h3
          have hc : c ≠ 0 := by have := hn.2.1; have := hn.1; omega
          obtain ⟨rfl, _⟩ := h6.resolve_left hc
          have hcond : 0 ≤ n ∧ n < (len : Int) := ⟨hn.1, hn.2.1⟩
          simp only [Instr.indexAt, asIntOf, Sem.run_bind, Sem.run_pure, Result.andThen_ok, run_underlying h1, Bool.and_false, Bool.false_eq_true, if_false, hcond, and_self, if_true, h2, Sem.run_ite]
          refine .val hw hv (.of_one ?_ rfl) hK
          simp only [Rep, add_off, poff_append, poff, Nat.add_zero]
          rw [Nat.add_assoc, ← Nat.add_mul]
      · cases he
    | ptr r p =>
      simp only [] at he
      cases ht : tb t with
      | none => simp [ht] at he
      | some ty =>
        simp only [ht] at he
        split at he
        · rename_i m e hs
          cases hte : tb e with
          | none => simp [hte] at he
          | some te =>
            simp only [hte] at he
            split at he
            · rename_i hn
              cases he
              obtain ⟨b, rfl, rfl⟩ := hx.ptr
              have h1 := (hb t ty ht).td
              simp only [hs, tdOK] at h1
              simp only [Instr.indexAt, asIntOf, Sem.run_bind, Sem.run_pure, Result.andThen_ok, run_underlying h1, Instr.sureAddr, Bool.and_true, hn, and_self, if_true, (hb e te hte).size, Sem.run_ite]
              refine .val hw hv (.of_one ?_ rfl) hK
              simp only [Rep, add_off, poff_append, poff, Nat.add_zero]
            · cases he
        · cases he
    | cref y =>
      cases y with
      | agg vs =>
        simp only [] at he
        cases ht : tb t with
        | none => simp [ht] at he
        | some ty =>
          simp only [ht] at he
          split at he
          · rename_i m e hs
            cases hte : tb e with
            | none => simp [hte] at he
            | some te =>
              simp only [hte] at he
              split at he
              · rename_i hn
                cases e2 : vs[n.toNat]? with
                | none => simp [e2] at he
                | some y =>
                  simp only [e2, Option.some.injEq] at he
                  subst he
                  obtain ⟨b, o, c, rfl, h4, h5⟩ := hx.cref
                  simp only [Rep] at h4
                  obtain ⟨k1, k2⟩ := RepL.at_ h4 e2
                  rw [hn.2.2] at k1
                  have h1 := (hb t ty ht).td
                  simp only [hs, tdOK] at h1
                  have hcond : 0 ≤ n ∧ n < (m : Int) := ⟨hn.1, hn.2.1⟩
                  simp only [Instr.indexAt, asIntOf, Sem.run_bind, Sem.run_pure, Result.andThen_ok, run_underlying h1, Instr.sureAddr, Bool.and_true, hcond, and_self, if_true, (hb e te hte).size, Sem.run_ite]
                  refine .val hw hv (.of_one ?_ rfl) hK
                  simp only [Rep, add_off]
                  exact ⟨b, _, _, rfl, k1, constAt_part h5⟩
              · cases he
          · cases he
      | _ => cases he
    | _ => cases he
  | _ => cases he
theorem field_ok (hb : TbOK P tb) (hw : WfH P R H w) (hv : VBound N H) {s x f u} {K : Out → Prop} (hx : RepV R w x u) (h : (optOut (fieldA tb s x f)).run H K) : Done P N R H w ((Instr.field s u f).run P w) K := by
  obtain ⟨v, he, hK⟩ := optOut_ok h
  unfold fieldA at he
  cases ht : tb s with
  | none => simp [ht] at he
  | some ty =>
    simp only [ht] at he
    split at he
    · rename_i fs hs
      obtain ⟨Fs, h1, h2, h3⟩ := (hb s ty ht).struct hs
      cases e : fs[f]? with
      | none => simp [e] at he
      | some p =>
        obtain ⟨ft, off⟩ := p
        obtain ⟨g, g1, g2, g3, g4⟩ := field_at h2 e
        simp only [e] at he
        split at he
        · rename_i vs
          split at he
          · rename_i ho
            cases e2 : vs[f]? with
            | none => simp [e2] at he
            | some v' =>
              simp only [e2] at he
              split at he
              · rename_i hfit
                cases he
                cases htf : tb ft with
                | none => simp [fits, htf] at hfit
                | some fty =>
                  obtain ⟨cs, rfl, h4⟩ := hx.agg
                  obtain ⟨k1, k2⟩ := RepL.at_ h4 e2
                  rw [ho] at k1 k2
                  have hy := hb ft fty htf
                  obtain ⟨n1, n2⟩ := fits_size hb htf hfit
                  have hag : aggA v = aggTd fty.td := by
                    rcases fits_agg htf hfit with ⟨q1, ⟨vs', rfl⟩, _⟩ | ⟨q1, q2⟩
                    · rw [q1]; rfl
                    · rw [q1, (isScalar_one q2).2]
                  obtain ⟨p, hp1, hp2⟩ := run_part_rep (P := P) (t := ft) (cs := cs) hy.isAgg (fun _ w => by rw [n1]; exact hy.size w) k1 (by simpa using k2) hag
                  simp only [Instr.field, Sem.run_bind, run_underlying h1, Result.andThen_ok, g1, asAgg, Sem.run_pure, g3, g4, hp1]
                  exact .val hw hv hp2 hK
              · cases he
          · cases he
        · cases he
    · cases he
theorem index_ok (hb : TbOK P tb) (hw : WfH P R H w) (hv : VBound N H) {t x i u ui} {K : Out → Prop} (hx : RepV R w x u) (hi : RepV R w i ui) (h : (optOut (indexA tb t x i)).run H K) : Done P N R H w ((Instr.index t u ui).run P w) K := by
  obtain ⟨v, he, hK⟩ := optOut_ok h
  cases i with
  | int k n =>
    have := hi.int; subst this
    simp only [indexA] at he
    cases x with
    | agg vs =>
      simp only [] at he
      cases ht : tb t with
      | none => simp [ht] at he
      | some ty =>
        simp only [ht] at he
        split at he
        · rename_i m e hs
          cases hte : tb e with
          | none => simp [hte] at he
          | some te =>
            simp only [hte] at he
            split at he
            · rename_i hn
              cases e2 : vs[n.toNat]? with
              | none => simp [e2] at he
              | some y =>
                simp only [e2] at he
                split at he
                · rename_i hfit
                  cases he
                  obtain ⟨cs, rfl, h4⟩ := hx.agg
                  obtain ⟨k1, k2⟩ := RepL.at_ h4 e2
                  rw [hn.2.2] at k1 k2
                  have hy := hb e te hte
                  obtain ⟨n1, n2⟩ := fits_size hb hte hfit
                  have hag : aggA v = aggTd te.td := by
                    rcases fits_agg hte hfit with ⟨q1, ⟨vs', rfl⟩, _⟩ | ⟨q1, q2⟩
                    · rw [q1]; rfl
                    · rw [q1, (isScalar_one q2).2]
                  obtain ⟨p, hp1, hp2⟩ := run_part_rep (P := P) (t := e) (cs := cs) hy.isAgg (fun _ w => by rw [n1]; exact hy.size w) k1 (by simpa using k2) hag
                  have h1 := (hb t ty ht).td
                  simp only [hs, tdOK] at h1
                  have hcond : 0 ≤ n ∧ n < (m : Int) := ⟨hn.1, hn.2.1⟩
                  simp only [Instr.index, asIntOf, Sem.run_bind, Sem.run_pure, Result.andThen_ok, run_underlying h1, hcond, and_self, if_true, hy.size, Sem.run_ite, hp1]
                  exact .val hw hv hp2 hK
                · cases he
            · cases he
        · cases he
    | str s =>
      simp only [] at he
      cases ht : tb t with
      | none => simp [ht] at he
      | some ty =>
        simp only [ht] at he
        split at he
        · rename_i hs
          have h1 := (hb t ty ht).td
          simp only [hs, tdOK] at h1
          split at he
          · rename_i hn
            cases e2 : s[n.toNat]? with
            | none => simp [e2] at he
            | some c =>
              simp only [e2, Option.some.injEq] at he
              subst he
              have := hx.str; subst this
              obtain ⟨hlt, hval⟩ := List.getElem?_eq_some_iff.1 e2
              have hlt' : n.toNat < (ByteArray.mk s.toArray).size := by simpa [ByteArray.size] using hlt
              have e3 : (ByteArray.mk s.toArray)[n.toNat]? = some c := by
                rw [getElem?_pos (ByteArray.mk s.toArray) n.toNat hlt']
                congr 1
              simp only [Instr.index, asIntOf, Sem.run_bind, Sem.run_pure, Result.andThen_ok, run_underlying h1, hn.1, if_true, e3]
              exact .val hw hv rep_int hK
          · cases he
        · cases he
    | _ => cases he
  | _ => cases he
end
end Go.Am
set_option linter.unusedVariables false
namespace Go.Am
section
variable {P : Program} {tb : Nat → Option TyA} {N : Nat} {R : CSet} {H : Heap} {w : World}

def RepO (R : CSet) (w : World) : Option AV → Option Value → Prop
  | none, none => True
  | some v, some u => RepV R w v u
  | _, _ => False
theorem run_sliceBound {k : IntKind} {n : Int} {y : Nat} {code : BoundsCode} (h : 0 ≤ n ∧ n ≤ (y : Int)) : (Instr.sliceBound (.int k n) y code).run P w = .ok n.toNat w := by
  simp only [Instr.sliceBound, asIntOf, Sem.run_bind, Sem.run_pure, Result.andThen_ok, Sem.run_ite]
  rw [if_pos h]
theorem bd_ok {x : Option AV} {x' : Option Value} {d y n : Nat} (hx : RepO R w x x') (h : bd x d y = some n) :
    (x = none ∧ x' = none ∧ n = d) ∨ (∃ v, x' = some v ∧ x.isSome = true ∧ n ≤ y ∧ ∀ (y' : Nat) (code : BoundsCode), n ≤ y' → (Instr.sliceBound v y' code).run P w = .ok n w) := by
  cases x with
  | none =>
    cases x' with
    | none => simp only [bd, Option.some.injEq] at h; exact .inl ⟨rfl, rfl, h.symm⟩
    | some v => exact hx.elim
  | some a =>
    cases x' with
    | none => exact hx.elim
    | some v =>
      cases a with
      | int k i =>
        simp only [bd] at h
        split at h
        · rename_i hi
          simp only [Option.some.injEq] at h
          have := RepV.int hx; subst this
          refine .inr ⟨_, rfl, rfl, by omega, fun y' code hy => ?_⟩
          rw [run_sliceBound ⟨hi.1, by omega⟩, h]
        · cases h
      | _ => simp [bd] at h
theorem sliceBd_ok {b : Bool} {len mc c : Nat} {lo hi mx : Option AV} {lo' hi' mx' : Option Value} {l h m : Nat} (hlo : RepO R w lo lo') (hhi : RepO R w hi hi') (hmx : RepO R w mx mx') (hc : mc ≤ c) (he : sliceBd len mc lo hi mx = some (l, h, m)) :
    ∃ m', (Instr.sliceBounds b len c lo' hi' mx').run P w = .ok (l, h, m') w ∧ l ≤ h ∧ h ≤ m ∧ m ≤ m' ∧ m ≤ mc ∧ m' ≤ c := by
  unfold sliceBd at he
  cases e1 : bd mx mc mc with
  | none => simp [e1] at he
  | some mA =>
    simp only [e1] at he
    cases e2 : bd hi len mA with
    | none => simp [e2] at he
    | some hA =>
      simp only [e2] at he
      cases e3 : bd lo 0 hA with
      | none => simp [e3] at he
      | some lA =>
        simp only [e3] at he
        split at he
        · rename_i hle
          simp only [Option.some.injEq, Prod.mk.injEq] at he
          obtain ⟨rfl, rfl, rfl⟩ := he
          have hl : lA ≤ hA := by
            rcases bd_ok (P := P) (w := w) hlo e3 with ⟨_, _, h3⟩ | ⟨v, _, _, h3, _⟩ <;> omega
          rcases bd_ok (P := P) (w := w) hmx e1 with ⟨rfl, rfl, rfl⟩ | ⟨vm, rfl, hm1, hm2, hm3⟩
          · refine ⟨c, ?_, hl, hle.1, hc, Nat.le_refl _, Nat.le_refl _⟩
            rcases bd_ok (P := P) (w := w) hhi e2 with ⟨rfl, rfl, rfl⟩ | ⟨vh, rfl, hh1, hh2, hh3⟩ <;>
              rcases bd_ok (P := P) (w := w) hlo e3 with ⟨rfl, rfl, rfl⟩ | ⟨vl, rfl, hl1, hl2, hl3⟩ <;>
              simp only [Instr.sliceBounds, Sem.run_bind, Sem.run_pure, Result.andThen_ok] <;>
              first
                | rfl
                | (rw [hl3 _ _ hl]; rfl)
                | (rw [hh3 _ _ (by omega)]; simp only [Result.andThen_ok]; rw [hl3 _ _ hl]; rfl)
                | (rw [hh3 _ _ (by omega)]; rfl)
          · refine ⟨mA, ?_, hl, hle.1, Nat.le_refl _, hm2, by omega⟩
            rcases bd_ok (P := P) (w := w) hhi e2 with ⟨rfl, rfl, rfl⟩ | ⟨vh, rfl, hh1, hh2, hh3⟩
            · exact absurd (hle.2 hm1) (by simp)
            · rcases bd_ok (P := P) (w := w) hlo e3 with ⟨rfl, rfl, rfl⟩ | ⟨vl, rfl, hl1, hl2, hl3⟩ <;>
                simp only [Instr.sliceBounds, Sem.run_bind, Sem.run_pure] <;> rw [hm3 _ _ (by omega)] <;> simp only [Result.andThen_ok] <;> rw [hh3 _ _ (by omega)] <;> simp only [Result.andThen_ok] <;>
                first
                  | rfl
                  | (rw [hl3 _ _ hl]; rfl)
        · cases he
theorem list_cut {xs : List AV} {sz : Nat} {cells : List Value} (h5 : RepE R w sz xs cells) {b o : Nat} (h7 : constAt R w b o cells) (l n : Nat) :
    RepE R w sz ((xs.drop l).take n) ((cells.drop (l * sz)).take (n * sz)) ∧ constAt R w b (o + l * sz) ((cells.drop (l * sz)).take (n * sz)) := ⟨RepE.take _ (RepE.drop _ h5), constAt_part h7⟩
theorem sz_eq {xs : List AV} {sz sz' : Nat} {cells : List Value} (h : RepE R w sz xs cells) (ha : allSz sz' xs = true) (hne : xs ≠ []) : sz = sz' := by
  cases xs with
  | nil => exact absurd rfl hne
  | cons x xs =>
    have := h.allSz
    simp only [allSz, Bool.and_eq_true, beq_iff_eq] at this ha
    omega
theorem slice_ok (hb : TbOK P tb) (hw : WfH P R H w) (hv : VBound N H) {t : Nat} {x : AV} {lo hi mx : Option AV} {u : Value} {lo' hi' mx' : Option Value} {K : Out → Prop} (hx : RepV R w x u) (hlo : RepO R w lo lo') (hhi : RepO R w hi hi') (hmx : RepO R w mx mx')
    (h : (sliceRM tb t x lo hi mx).run H K) : Done P N R H w ((Instr.sliceAt t u lo' hi' mx').run P w) K := by
  unfold sliceRM at h
  have hsl : ∀ {e : Nat} {a : Option Addr} {n c : Nat}, P.underlying t = some (.slice e) → (Instr.sliceAt t (.slice a n c) lo' hi' mx') = Instr.sliceAt t (.slice a n c) lo' hi' mx' := fun _ => rfl
  have hrun : ∀ {e sz : Nat} {a : Option Addr} {n c l h m : Nat}, P.underlying t = some (.slice e) → (∀ w : World, (sizeOf e).run P w = .ok sz w) → (Instr.sliceBounds true n c lo' hi' mx').run P w = .ok (l, h, m) w →
      (Instr.sliceAt t (.slice a n c) lo' hi' mx').run P w = .ok (.slice (if m = l then a else a.map (·.add (l * sz))) (h - l) (m - l)) w := by
    intro e sz a n c l h m h1 h2 h3
    simp only [Instr.sliceAt, Instr.slice, Sem.run_bind, run_underlying h1, Result.andThen_ok, h3, h2, Sem.run_pure]
  cases x with
  | ptr r p =>
    obtain ⟨b, rfl, rfl⟩ := hx.ptr
    simp only [sliceArr] at h
    cases ht : tb t with
    | none => simp [ht] at h; exact h.elim
    | some ty =>
      simp only [ht] at h
      split at h
      · rename_i n e hs
        cases hte : tb e with
        | none => simp [hte] at h; exact h.elim
        | some te =>
          simp only [hte, RM.run] at h
          cases en : hf H (.blk b) with
          | none => rw [en] at h; exact h.elim
          | some en' =>
            rw [en] at h
            simp only [] at h
            cases eg : entGet en' p with
            | none => rw [eg] at h; exact h.elim
            | some v =>
              rw [eg] at h
              cases v with
              | agg vs =>
                simp only [] at h
                split at h
                · rename_i hvs
                  cases es : sliceBd n n lo hi mx with
                  | none => simp [es] at h; exact h.elim
                  | some q =>
                    obtain ⟨l, hh, m⟩ := q
                    simp only [es, RM.run] at h
                    obtain ⟨m', r1, r2, r3, r4, r5, r6⟩ := sliceBd_ok (P := P) (b := false) (c := n) hlo hhi hmx (Nat.le_refl _) es
                    have h1 := (hb t ty ht).td
                    simp only [hs, tdOK] at h1
                    obtain ⟨ds, d1, d2, e', k', d3, d4⟩ := entGet_cells (hw.ents _ _ en) eg
                    simp only [Instr.sliceAt, Sem.run_bind, run_underlying h1, Result.andThen_ok, Instr.sureAddr, Sem.run_pure, r1, (hb e te hte).size]
                    refine .val hw hv (.of_one ?_ rfl) h
                    simp only [Rep, List.cons.injEq, and_true]
                    refine ⟨_, _, rfl, by omega, by omega, ?_⟩
                    by_cases hz : m' = l
                    · left; omega
                    · right
                      rw [if_neg hz]
                      refine ⟨by rw [add_off], ?_⟩
                      have hlen : ds.length = n * te.size := by
                        simp only [Rep] at d1
                        rw [RepL.length _ _ d1, ncellsL_allSz hvs.2, hvs.1]
                      refine ⟨e', k', d3, ?_⟩
                      have : (l + (m' - l)) * te.size ≤ n * te.size := Nat.mul_le_mul_right _ (by omega)
                      omega
                · exact h.elim
              | _ => exact h.elim
      · exact h.elim
  | list xs =>
    obtain ⟨v, he, hK⟩ := optOut_ok h
    simp only [sliceA] at he
    cases es : esize tb t with
    | none => simp [es] at he
    | some sz =>
      simp only [es] at he
      split at he
      · rename_i ha
        cases eb : sliceBd xs.length xs.length lo hi mx with
        | none => simp [eb] at he
        | some q =>
          obtain ⟨l, hh, m⟩ := q
          simp only [eb, Option.some.injEq] at he
          subst he
          obtain ⟨e, h1, h2, _⟩ := esize_ok hb es
          have h3 := hx.one rfl rfl
          simp only [Rep, List.cons.injEq, and_true] at h3
          obtain ⟨a, c, rfl, h4, sz', cells, h5, h6⟩ := h3
          obtain ⟨m', r1, r2, r3, r4, r5, r6⟩ := sliceBd_ok (P := P) (b := true) (c := c) hlo hhi hmx h4 eb
          rw [hrun h1 h2 r1]
          refine .val hw hv (.of_one ?_ rfl) hK
          simp only [Rep, List.cons.injEq, and_true]
          have hl : ((xs.drop l).take (hh - l)).length = hh - l := by simp; omega
          refine ⟨_, _, by rw [hl], by rw [hl]; omega, sz', (cells.drop (l * sz')).take ((hh - l) * sz'), RepE.take _ (RepE.drop _ h5), ?_⟩
          by_cases hz : hh = l
          · left; simp [hz]
          · right
            have hne : xs ≠ [] := by intro e'; subst e'; simp at r5; omega
            obtain ⟨b, o, rfl, h7⟩ := h6.resolve_left hne
            have hsz := sz_eq h5 ha hne
            subst hsz
            rw [if_neg (by omega)]
            exact ⟨b, _, by simp only [Option.map_some, add_off], constAt_part h7⟩
      · cases he
  | nils =>
    obtain ⟨v, he, hK⟩ := optOut_ok h
    simp only [sliceA] at he
    cases es : esize tb t with
    | none => simp [es] at he
    | some sz =>
      simp only [es] at he
      cases eb : sliceBd 0 0 lo hi mx with
      | none => simp [eb] at he
      | some q =>
        obtain ⟨l, hh, m⟩ := q
        simp only [eb, Option.some.injEq] at he
        subst he
        have := hx.nils; subst this
        obtain ⟨e, h1, h2, _⟩ := esize_ok hb es
        obtain ⟨m', r1, r2, r3, r4, r5, r6⟩ := sliceBd_ok (P := P) (b := true) (c := 0) hlo hhi hmx (Nat.le_refl _) eb
        rw [hrun h1 h2 r1]
        refine .val hw hv (.of_one ?_ rfl) hK
        simp only [Rep, List.cons.injEq, and_true]
        have e1 : hh - l = 0 := by omega
        have e2 : m' - l = 0 := by omega
        rw [e1, e2]
        split <;> rfl
  | own r p sz off len mc =>
    obtain ⟨v, he, hK⟩ := optOut_ok h
    simp only [sliceA] at he
    split at he
    · rename_i es
      cases eb : sliceBd len mc lo hi mx with
      | none => simp [eb] at he
      | some q =>
        obtain ⟨l, hh, m⟩ := q
        simp only [eb, Option.some.injEq] at he
        subst he
        obtain ⟨e, h1, h2, _⟩ := esize_ok hb es
        have h3 := hx.one rfl rfl
        cases r with
        | virt n =>
          simp only [Rep, List.cons.injEq, and_true] at h3
          obtain ⟨a, rfl, rfl, rfl⟩ := h3
          obtain ⟨m', r1, r2, r3, r4, r5, r6⟩ := sliceBd_ok (P := P) (b := true) (c := 0) hlo hhi hmx (Nat.le_refl _) eb
          rw [hrun h1 h2 r1]
          refine .val hw hv (.of_one ?_ rfl) hK
          simp only [Rep, List.cons.injEq, and_true]
          have e1 : hh - l = 0 := by omega
          have e2 : m' - l = 0 := by omega
          rw [e1, e2]
          exact ⟨_, rfl, rfl, by omega⟩
        | blk b =>
          simp only [Rep, List.cons.injEq, and_true] at h3
          obtain ⟨a, c, rfl, h4, h5, h6⟩ := h3
          obtain ⟨m', r1, r2, r3, r4, r5, r6⟩ := sliceBd_ok (P := P) (b := true) (c := c) hlo hhi hmx h5 eb
          rw [hrun h1 h2 r1]
          refine .val hw hv (.of_one ?_ rfl) hK
          simp only [Rep, List.cons.injEq, and_true]
          refine ⟨_, _, rfl, by omega, by omega, ?_⟩
          by_cases hz : m' = l
          · left; omega
          · right
            obtain ⟨rfl, e', n, k1, k2⟩ := h6.resolve_left (by omega)
            rw [if_neg hz]
            refine ⟨by simp only [Option.map_some, add_off, Nat.add_mul, Nat.add_assoc], e', n, k1, ?_⟩
            have : (off + l + (m' - l)) * sz ≤ (off + c) * sz := Nat.mul_le_mul_right _ (by omega)
            omega
    · cases he
  | cref y =>
    obtain ⟨v, he, hK⟩ := optOut_ok h
    cases y with
    | agg vs =>
      simp only [sliceA] at he
      cases ht : tb t with
      | none => simp [ht] at he
      | some ty =>
        simp only [ht] at he
        split at he
        · rename_i n e hs
          cases hte : tb e with
          | none => simp [hte] at he
          | some te =>
            simp only [hte] at he
            split at he
            · rename_i hvs
              cases eb : sliceBd n n lo hi mx with
              | none => simp [eb] at he
              | some q =>
                obtain ⟨l, hh, m⟩ := q
                simp only [eb, Option.some.injEq] at he
                subst he
                obtain ⟨b, o, c, rfl, h4, h5⟩ := hx.cref
                simp only [Rep] at h4
                have h6 := RepE.ofL h4 hvs.2
                obtain ⟨m', r1, r2, r3, r4, r5, r6⟩ := sliceBd_ok (P := P) (b := false) (c := n) hlo hhi hmx (Nat.le_refl _) eb
                have h1 := (hb t ty ht).td
                simp only [hs, tdOK] at h1
                simp only [Instr.sliceAt, Sem.run_bind, run_underlying h1, Result.andThen_ok, Instr.sureAddr, Sem.run_pure, r1, (hb e te hte).size]
                refine .val hw hv (.of_one ?_ rfl) hK
                simp only [Rep, List.cons.injEq, and_true]
                have hl : ((vs.drop l).take (hh - l)).length = hh - l := by simp; omega
                refine ⟨_, _, by rw [hl], by rw [hl]; omega, te.size, (c.drop (l * te.size)).take ((hh - l) * te.size), RepE.take _ (RepE.drop _ h6), ?_⟩
                by_cases hz : hh = l
                · left; simp [hz]
                · right
                  rw [if_neg (by omega)]
                  exact ⟨b, _, by rw [add_off], constAt_part h5⟩
            · cases he
        · cases he
    | _ => simp [sliceA] at he
  | str s =>
    obtain ⟨v, he, hK⟩ := optOut_ok h
    simp only [sliceA] at he
    cases ht : tb t with
    | none => simp [ht] at he
    | some ty =>
      simp only [ht] at he
      split at he
      · rename_i hs
        have h1 := (hb t ty ht).td
        simp only [hs, tdOK] at h1
        cases mx with
        | some m => simp at he
        | none =>
          simp only [] at he
          cases eb : sliceBd s.length s.length lo hi none with
          | none => simp [eb] at he
          | some q =>
            obtain ⟨l, hh, m⟩ := q
            simp only [eb, Option.some.injEq] at he
            subst he
            have := hx.str; subst this
            cases mx' with
            | some _ => exact hmx.elim
            | none =>
              obtain ⟨m', r1, r2, r3, r4, r5, r6⟩ := sliceBd_ok (P := P) (b := false) (c := s.length) hlo hhi hmx (Nat.le_refl _) eb
              have e1 : (ByteArray.mk s.toArray).size = s.length := by simp [ByteArray.size]
              simp only [Instr.sliceAt, Instr.slice, Sem.run_bind, run_underlying h1, Result.andThen_ok, Option.isSome_none, Bool.false_eq_true, if_false, Sem.run_pure, e1, r1]
              have e2 : (ByteArray.mk s.toArray).extract l hh = ⟨((s.drop l).take (hh - l)).toArray⟩ := by
                apply ByteArray.ext
                rw [ByteArray.data_extract]
                apply Array.ext'
                simp [Array.toList_extract, List.extract]
              rw [e2]
              exact .val hw hv rep_str hK
      · cases he
  | _ => exact absurd h (by simp [optOut, sliceA, RM.run])
end
end Go.Am
set_option linter.unusedVariables false
namespace Go.Am
section
variable {P : Program} {tb : Nat → Option TyA} {N : Nat} {R : CSet} {H : Heap} {w : World}

theorem foldl_spl (off : Nat) : ∀ (vs : List Value) (k : Nat) (cs : Array Value), off + k + vs.length ≤ cs.size →
    (vs.zipIdx k).foldl (fun (cs : Array Value) (p : Value × Nat) => cs.setIfInBounds (off + p.2) p.1) cs = spl cs (off + k) vs
  | [], k, cs, h => by
    apply Array.ext_getElem?; intro i
    rw [spl_get (by simpa using h), if_neg (by simp)]
    rfl
  | v :: vs, k, cs, h => by
    simp only [List.length_cons] at h
    simp only [List.zipIdx_cons, List.foldl_cons]
    rw [foldl_spl off vs (k + 1) _ (by simp; omega)]
    apply Array.ext_getElem?; intro i
    rw [spl_get (by simp; omega), spl_get (by simp; omega), Array.getElem?_setIfInBounds]
    by_cases h1 : off + k = i
    · subst h1
      rw [if_neg (by omega), if_pos rfl, if_pos (by omega), if_pos (by simp)]
      simp
    · by_cases h2 : off + (k + 1) ≤ i ∧ i < off + (k + 1) + vs.length
      · rw [if_pos h2, if_pos (by simp only [List.length_cons]; omega), show i - (off + k) = (i - (off + (k + 1))) + 1 by omega]
        simp
      · rw [if_neg h2, if_neg h1, if_neg (by simp only [List.length_cons]; omega)]
def RepParts (R : CSet) (w : World) : List (Nat × AV) → List (Nat × Value) → Prop
  | [], us => us = []
  | p :: ps, us => ∃ u us', us = (p.1, u) :: us' ∧ RepV R w p.2 u ∧ RepParts R w ps us'
theorem fill_ok {places : Nat → Option (Nat × Nat)} {places' : Nat → Option (Nat × Nat)} (hp : ∀ i q, places i = some q → places' i = some q) : ∀ {parts : List (Nat × AV)} {us : List (Nat × Value)} {xs ys : List AV} {cs : Array Value},
    RepParts R w parts us → RepL R w xs cs.toList → fillA places xs parts = some ys → ∃ cs', Instr.fill places' cs us = some cs' ∧ RepL R w ys cs'.toList ∧ cs'.size = cs.size ∧ ys.length = xs.length ∧ (∀ sz, allSz sz xs = true → allSz sz ys = true)
  | [], us, xs, ys, cs, hr, hx, h => by
    simp only [RepParts] at hr; subst hr
    simp only [fillA, Option.some.injEq] at h; subst h
    exact ⟨cs, rfl, hx, rfl, rfl, fun _ h => h⟩
  | (i, v) :: parts, us, xs, ys, cs, hr, hx, h => by
    obtain ⟨u, us', rfl, hu, hr'⟩ := hr
    simp only [fillA] at h
    cases e : places i with
    | none => simp [e] at h
    | some q =>
      obtain ⟨off, sz⟩ := q
      simp only [e] at h
      cases ex : xs[i]? with
      | none => simp [ex] at h
      | some x =>
        simp only [ex] at h
        split at h
        · rename_i hc
          obtain ⟨c1, c2, c3, c4⟩ := hc
          obtain ⟨hu1, hu2⟩ := hu.cells c4
          have hl := Rep.length _ _ hu1
          have hsz : u.cells.size = sz := by rw [← Array.length_toList, hl, c3]
          obtain ⟨k1, k2⟩ := RepL.at_ hx ex
          have hset := RepL.set hx ex hu1 (by rw [hl, c3, c2])
          rw [c1] at k1 k2 hset
          have hle : off + u.cells.size ≤ cs.size := by rw [hsz]; rw [c2] at k2; simpa using k2
          have hsp : RepL R w (xs.set i v) (spl cs off u.cells.toList).toList := by rw [spl_toList]; exact hset
          obtain ⟨cs', f1, f2, f3, f4, f5⟩ := fill_ok hp hr' hsp h
          refine ⟨cs', ?_, f2, by rw [f3]; exact spl_size (by simpa using hle), by simpa using f4, fun sz' ha => f5 sz' ?_⟩
          · simp only [Instr.fill, hp i _ e]
            rw [if_neg (by simp only [hsz, ne_eq, not_true_eq_false, Bool.or_eq_true, decide_eq_true_eq, false_or]; omega)]
            have := foldl_spl off u.cells.toList 0 cs (by simpa using hle)
            simp only [Nat.add_zero] at this
            rw [← Array.foldl_toList, Array.toList_zipIdx, this]
            exact f1
          · rw [allSz_all] at ha ⊢
            intro y hy
            rcases List.mem_or_eq_of_mem_set hy with hy | hy
            · exact ha y hy
            · subst hy
              rw [c3, ← c2]
              exact ha x (List.mem_of_getElem? ex)
        · cases h
theorem parts_rep {T : List (Nat × AV)} {a : Act} (hT : ∀ t, RepV R w (lk T t) (a.tmps.getD t undef)) (ps : List (Nat × Operand)) : RepParts R w (ps.map fun p => (p.1, ev T p.2)) (ps.map fun p => (p.1, a.eval p.2)) := by
  induction ps with
  | nil => rfl
  | cons p ps ih => exact ⟨_, _, rfl, ev_rep hT p.2, ih⟩
theorem TyOK.zrep {t ty} (h : TyOK P t ty) (w : World) (R : CSet) : ∃ z, (∀ w : World, (zeroValue t).run P w = .ok z w) ∧ Rep R w ty.zero z.cells.toList ∧ aggA ty.zero = aggV z ∧ z.cells.size = ty.size := by
  obtain ⟨i, z, h1, h2, h3, h4, h5, h6⟩ := h.info
  have := zcells_rep (R := R) (w := w) _ _ h5
  refine ⟨z, fun w => by simp [zeroValue, run_typeInfo w h1, h4], this, h6, ?_⟩
  rw [← Array.length_toList, Rep.length _ _ this, h.zsz]
theorem build_ok (hb : TbOK P tb) (hw : WfH P R H w) (hv : VBound N H) {t : Nat} {parts : List (Nat × AV)} {us : Array (Nat × Value)} {K : Out → Prop} (hp : RepParts R w parts us.toList) (h : (optOut (buildA tb t parts)).run H K) : Done P N R H w ((Instr.build t us).run P w) K := by
  obtain ⟨v, he, hK⟩ := optOut_ok h
  unfold buildA at he
  cases ht : tb t with
  | none => simp [ht] at he
  | some ty =>
    simp only [ht] at he
    have hy := hb t ty ht
    obtain ⟨z, z1, z2, z3, z4⟩ := hy.zrep w R
    split at he
    · rename_i zs hz
      rw [hz] at z2 z3
      simp only [Rep] at z2
      split at he
      · rename_i fs hs
        split at he
        · rename_i ys hf'
          cases he
          obtain ⟨Fs, h1, h2, h3⟩ := hy.struct hs
          have hmap : ∀ w : World, (Fs.mapM (fun f => (do pure (f.offset, ← sizeOf f.type) : Sem (Nat × Nat)))).run P w = .ok (Fs.map fun f => (f.offset, P.cellsOf f.type)) w := by
            intro w
            rw [Array.mapM_eq_mapM_toList, Sem.run_map]
            have : ∀ (l : List Field), (∀ f ∈ l, P.cellsOf f.type ≠ 0) → (l.mapM (fun f => (do pure (f.offset, ← sizeOf f.type) : Sem (Nat × Nat)))).run P w = .ok (l.map fun f => (f.offset, P.cellsOf f.type)) w := by
              intro l
              induction l with
              | nil => intro _; simp
              | cons f l ih =>
                intro hl
                have : ∃ i, P.info? f.type = some i := by
                  cases e : P.info? f.type with
                  | none => have := hl f (by simp); simp [Program.cellsOf, e] at this
                  | some i => exact ⟨i, rfl⟩
                obtain ⟨i, hi⟩ := this
                rw [List.mapM_cons]
                have := ih fun g hg => hl g (by simp [hg])
                simp only [Sem.run_bind, run_sizeOf w hi, Result.andThen_ok, Sem.run_pure, this, List.map_cons]
            rw [this _ h3]
            simp only [Result.andThen_ok]
            congr 1
            apply Array.ext'
            simp
          have hpl : ∀ (i : Nat) (q : Nat × Nat), (match (fs[i]? : Option (Nat × Nat)) with | some (ft, off) => (match tb ft with | some fty => some (off, fty.size) | none => none) | none => none) = some q → (Fs.map fun f => (f.offset, P.cellsOf f.type))[i]? = some q := by
            intro i q hq
            cases e : fs[i]? with
            | none => simp [e] at hq
            | some p =>
              obtain ⟨ft, off⟩ := p
              simp only [e] at hq
              cases hft : tb ft with
              | none => simp [hft] at hq
              | some fty =>
                simp only [hft, Option.some.injEq] at hq
                obtain ⟨g, g1, g2, g3, g4⟩ := field_at h2 e
                rw [Array.getElem?_map, g1]
                simp [← hq, g3, g4, (hb ft fty hft).cells]
          obtain ⟨cs', f1, f2, _⟩ := fill_ok hpl hp z2 hf'
          simp only [Instr.build, Sem.run_bind, z1, Result.andThen_ok, run_underlying h1, hmap, f1, Sem.run_pure]
          exact .val hw hv (.of (by simpa [Rep, Value.cells] using f2) rfl) hK
        · cases he
      · rename_i n e hs
        cases hte : tb e with
        | none => simp [hte] at he
        | some te =>
          simp only [hte] at he
          split at he
          · rename_i ys hf'
            cases he
            have h1 := hy.td
            simp only [hs, tdOK] at h1
            obtain ⟨cs', f1, f2, _⟩ := fill_ok (places' := fun i => some (i * te.size, te.size)) (fun i q hq => hq) hp z2 hf'
            simp only [Instr.build, Sem.run_bind, z1, Result.andThen_ok, run_underlying h1, (hb e te hte).size, f1, Sem.run_pure]
            exact .val hw hv (.of (by simpa [Rep, Value.cells] using f2) rfl) hK
          · cases he
      · cases he
    · cases he

theorem zeros_rep {te : TyA} {z : Value} (hz : Rep R w te.zero z.cells.toList) (hsz : z.cells.size = te.size) (hpos : 0 < te.size) : ∀ n, RepE R w te.size (List.replicate n te.zero) ((Array.range (n * te.size)).map (z.cells[· % z.cells.size]!)).toList
  | 0 => by simp [RepE]
  | n + 1 => by
    simp only [List.replicate_succ', RepE]
    have e : ((Array.range ((n + 1) * te.size)).map (z.cells[· % z.cells.size]!)).toList = ((Array.range (n * te.size)).map (z.cells[· % z.cells.size]!)).toList ++ z.cells.toList := by
      apply List.ext_getElem?
      intro i
      simp only [Array.toList_map, Array.toList_range, List.getElem?_map, List.getElem?_append, List.length_map, List.length_range, Array.getElem?_toList]
      by_cases h1 : i < n * te.size
      · rw [if_pos h1, List.getElem?_range (by rw [Nat.succ_mul]; omega), List.getElem?_range h1]
      · rw [if_neg h1]
        by_cases h2 : i < (n + 1) * te.size
        · rw [List.getElem?_range h2]
          rw [Nat.succ_mul] at h2
          simp only [Option.map_some, hsz]
          have h3 : i % te.size = i - n * te.size := by
            have : i = (i - n * te.size) + n * te.size := by omega
            rw [this, Nat.add_mul_mod_self_right, Nat.mod_eq_of_lt (by omega)]
            omega
          rw [h3, Array.getElem?_eq_getElem (by omega)]
          simp [getElem!_pos, hsz, show i - n * te.size < te.size by omega]
        · rw [List.getElem?_eq_none (by simpa using h2), Array.getElem?_eq_none (by rw [Nat.succ_mul] at h2; omega)]
          rfl
    rw [e]
    refine RepE.append (zeros_rep hz hsz hpos n) ?_
    simp only [RepE]
    exact ⟨_, [], by simp, by simpa using hsz, hz, rfl⟩
theorem buildSlice_ok (hb : TbOK P tb) (hw : WfH P R H w) (hv : VBound N H) {t len : Nat} {parts : List (Nat × AV)} {us : Array (Nat × Value)} {K : Out → Prop} (hp : RepParts R w parts us.toList)
    {e : Nat} {te : TyA} (ht : ∃ ty, tb t = some ty ∧ ty.td = .slice e) (hte : tb e = some te) (hc : 0 < te.size ∧ len * te.size ≤ 16777216) {xs : List AV} (hf' : fillA (fun i => some (i * te.size, te.size)) (List.replicate len te.zero) parts = some xs)
    (h : (frzAL xs).run H fun y => K (.fresh fun r => (.own r [] te.size 0 len len, (r, .row e te.size y.1 0) :: y.2))) : Done P N R H w ((Instr.buildSlice t len us).run P w) K := by
  obtain ⟨ty, ht, hs⟩ := ht
  have h1 := (hb t ty ht).td
  simp only [hs, tdOK] at h1
  have hy := hb e te hte
  obtain ⟨z, z1, z2, z3, z4⟩ := hy.zrep w R
  have hzr := zeros_rep z2 z4 hc.1 len
  obtain ⟨cs', f1, f2, f3, f4, f5⟩ := fill_ok (places' := fun i => some (i * te.size, te.size)) (fun i q hq => hq) hp hzr.toL hf'
  have hsize : cs'.size = len * te.size := by rw [f3]; simp
  have hlen : xs.length = len := by rw [f4]; simp
  have hre : RepE R w te.size xs cs'.toList := RepE.ofL f2 (f5 _ hzr.allSz)
  obtain ⟨ys, fz, R2, k1, k2, k3, k4, k5⟩ := frzAL_ok (.refl H) hw hv hre h
  have hrun : (Instr.buildSlice t len us).run P w = .ok (.slice (some ⟨w.heap.size, 0, none⟩) len len) (w.alloc (.cells cs' e)) := by
    simp only [Instr.buildSlice, Sem.run_bind, run_underlying h1, Result.andThen_ok, hy.size]
    rw [if_neg (by omega)]
    by_cases h0 : len * te.size = 0
    · have e0 : ∀ g : Nat → Value, (Array.range 0).map g = #[] := fun g => by simp
      rw [if_pos h0]
      rw [h0, e0] at f1
      simp only [Sem.run_bind, Sem.run_pure, Result.andThen_ok, h0, e0, f1]
      simp only [newRow, Sem.run_bind, run_newObj, Result.andThen_ok, Sem.run_pure]
      rfl
    · rw [if_neg h0]
      simp only [Sem.run_bind, Sem.run_pure, Result.andThen_ok, z1, f1]
      simp only [newRow, Sem.run_bind, run_newObj, Result.andThen_ok, Sem.run_pure]
      rfl
  have hst := StepOK.alloc (w' := w.alloc (.cells cs' e)) k2.wf k2.virt (.cells cs' e) (alloc_heap w _) ⟨rfl, rfl, rfl⟩ (.row e te.size ys 0) fun hk => ?_
  · refine ⟨_, _, _, hrun, k1, [.blk w.heap.size], R2, .fresh_blk hw, ?_, ?_⟩
    · simpa [Out.fresh, id0] using k2.trans hst
    · refine .of_one ?_ rfl
      simp only [Out.fresh, id0, Rep, List.cons.injEq, and_true]
      refine ⟨_, _, rfl, Nat.le_refl _, Nat.le_refl _, .inr ⟨by simp [poff], e, cs'.size, ?_, by simp [poff, hsize]⟩⟩
      simp only [World.shape?, alloc_get (alloc_heap w _)]
  · refine ⟨cs', (0, 0), alloc_get (alloc_heap w _), thawed00 _, hc.1, by rw [hy.cells], Nat.zero_le _, ⟨len, hsize⟩, fun o ho => by omega, cs'.toList, [], RepE.keeps hk _ _ _ k4, by simp⟩
end
end Go.Am
set_option linter.unusedVariables false
namespace Go.Am
section
variable {P : Program} {tb : Nat → Option TyA} {N : Nat} {R : CSet} {H : Heap} {w : World}

theorem cell_heap {w w' : World} (h : w'.heap = w.heap) (a : Addr) : w'.cell? a = w.cell? a := by simp [World.cell?, h]
theorem run_firstCells {sz n : Nat} {ys : List AV} {a : Option Addr} {m c : Nat} (hs : ∃ sz', Shows R w sz' ys a) (ha : allSz sz ys = true) (hn : n = ys.length) :
    ∃ new : Array Value, RepE R w sz ys new.toList ∧ ∀ w' : World, w'.heap = w.heap → (Builtin.firstCells sz n (.slice a m c)).run P w' = .ok new w' := by
  obtain ⟨sz', cells, h1, h2⟩ := hs
  subst hn
  by_cases he : ys = []
  · subst he
    refine ⟨#[], by simp [RepE], fun w' _ => ?_⟩
    cases a with
    | none => simp [Builtin.firstCells]
    | some a => simp [Builtin.firstCells, loadCells, loadCellsFrom]
  · have hsz := sz_eq h1 ha he
    subst hsz
    obtain ⟨b, o, rfl, h3⟩ := h2.resolve_left he
    refine ⟨cells.toArray, by simpa using h1, fun w' hw' => ?_⟩
    simp only [Builtin.firstCells]
    rw [← h1.len]
    exact run_loadCells_list w' _ cells fun j v hj => by rw [add_off, cell_heap hw']; exact h3 j v hj
theorem roomy_bytes {n b : Nat} (h : roomy n b) : n * b ≤ 35184372088832 ∧ n ≤ 4611686018427387904 := h
theorem nextcap_le {need old b : Nat} (h : roomy need b) (ho : old < need) : ¬ (Builtin.nextslicecap need old * b > 2 ^ 48) := by
  have hg : ∀ (r c : Nat), c < need → Builtin.growBy need r c ≤ 2 * need + 768 := by
    intro r
    induction r with
    | zero => intro c hc; simp only [Builtin.growBy]; omega
    | succ r ih =>
      intro c hc
      simp only [Builtin.growBy]
      rw [if_neg (by omega)]
      by_cases h2 : c + (c + 768) / 4 < need
      · exact ih _ h2
      · cases r with
        | zero => simp only [Builtin.growBy]; omega
        | succ r => simp only [Builtin.growBy]; rw [if_pos (by omega)]; omega
  have h1 : Builtin.nextslicecap need old ≤ 5 * need := by
    unfold Builtin.nextslicecap
    split
    · omega
    · split
      · omega
      · have := hg 4 old ho; omega
  obtain ⟨h2, _⟩ := h
  have h3 : Builtin.nextslicecap need old * b ≤ (5 * need) * b := Nat.mul_le_mul_right _ h1
  rw [Nat.mul_assoc] at h3
  omega
/-- the cells behind what was appended -/
def restCells (z : Value) (n : Nat) : Array Value := Builtin.zeroCells z.cells n
theorem run_choose_cap (need old e : Nat) : ∃ q, need ≤ q ∧ (choose (.appendCap need old e)).run P w = .ok q { w with drawn := w.drawn + 1 } := by
  refine ⟨_, ?_, by rw [run_choose]; rfl⟩
  simp only [Question.cut]
  omega
theorem zeroCells_size (z : Value) (n : Nat) : (Builtin.zeroCells z.cells n).size = n * z.cells.size := by simp [Builtin.zeroCells]
/-- the run of an append that is not of a make -/
theorem run_append {t t2 e n sLen sCap : Nat} {te : TyA} {base : Option Addr} {x : Value} {new : Array Value} {ts : Array TypeId} {ty : TypeId} (hts : ts[0]? = some t ∧ ts[1]? = some t2) (h1 : P.underlying t = some (.slice e)) (hy : TyOK P e te)
    (hz : (∃ e2, P.underlying t2 = some (.slice e2)) ∨ P.underlying t2 = some .string) (hlen : (Builtin.lenOf x).run P w = .ok n w) (hnew : ∀ w' : World, w'.heap = w.heap → (Builtin.firstCells te.size n x).run P w' = .ok new w')
    {old : Array Value} (hold : ∀ w' : World, w'.heap = w.heap → (Builtin.firstCells te.size sLen (.slice base sLen sCap)).run P w' = .ok old w')
    (hroom : roomy (sLen + n) te.bytes) :
    (sLen + n ≤ sCap ∧ ∀ w', (match base with | some a => (storeCells (a.add (sLen * te.size)) new.toList).run P w = .ok () w' | none => w' = w) → (Builtin.append_ ts ty #[.slice base sLen sCap, x]).run P w = .ok (.slice base (sLen + n) sCap) w') ∨
    (sCap < sLen + n ∧ ∃ (q : Nat) (rest : Array Value), sLen + n ≤ q ∧ rest.size = (q - (sLen + n)) * te.size ∧
      (Builtin.append_ ts ty #[.slice base sLen sCap, x]).run P w = .ok (.slice (some ⟨w.heap.size, 0, none⟩) (sLen + n) q) { w with drawn := w.drawn + 1, heap := w.heap.push (.cells (old ++ new ++ rest) e) }) := by
  obtain ⟨z, z1, z2, z3, z4⟩ := hy.zrep w (fun _ _ => False)
  obtain ⟨i, z', i1, i2, i3, i4, _⟩ := hy.info
  have hti : ∀ w : World, (typeInfo e).run P w = .ok i w := fun w => run_typeInfo w i1
  by_cases hr : sLen + n ≤ sCap
  · refine .inl ⟨hr, fun w' hst => ?_⟩
    unfold Builtin.append_
    rcases hz with ⟨e2, hd⟩ | hd
    all_goals
      simp only [hts.1, hts.2, List.getElem?_toArray, List.getElem?_cons_zero, List.getElem?_cons_succ, Sem.run_bind, run_underlying h1, run_underlying hd, Result.andThen_ok, hy.size, Sem.run_pure, Bool.false_eq_true, if_false, hlen, hr, if_true, Bool.not_false, hnew w rfl]
      cases base with
      | none => simp only [] at hst; subst hst; rfl
      | some a => simp only [] at hst; simp only [Sem.run_bind, hst, Result.andThen_ok, Sem.run_pure]
  · refine .inr ⟨by omega, ?_⟩
    obtain ⟨q, hq1, hq2⟩ := run_choose_cap (P := P) (w := w) (sLen + n) sCap e
    have o1 := hold { w with drawn := w.drawn + 1 } rfl
    have hcap := nextcap_le hroom (Nat.lt_of_not_le hr)
    rw [← i3] at hcap
    refine ⟨q, Builtin.zeroCells z.cells (q - (sLen + n)), hq1, by rw [zeroCells_size, z4], ?_⟩
    unfold Builtin.append_
    rcases hz with ⟨e2, hd⟩ | hd
    all_goals
      simp only [hts.1, hts.2, List.getElem?_toArray, List.getElem?_cons_zero, List.getElem?_cons_succ, Sem.run_bind, run_underlying h1, run_underlying hd, Result.andThen_ok, hy.size, Sem.run_pure, Bool.false_eq_true, if_false, hlen, hr, if_true, Bool.not_false, hti]
      rw [if_neg (by rintro ⟨h, _⟩; have := hroom.2; have e1 : IntKind.i64.max = 9223372036854775807 := by decide
                     rw [e1] at h; omega)]
      simp only [Sem.run_bind, hti, Result.andThen_ok]
      rw [if_neg hcap]
      simp only [Sem.run_bind, hq2, Result.andThen_ok, hti, run_askRoom, o1, hnew { w with drawn := w.drawn + 1 } rfl, z1, newRow, run_newObj, Sem.run_pure]

theorem StepOK.congr {P N R H w R' H' H'' w'} (h : StepOK P N R H w R' H' w') (he : ∀ r, hf H'' r = hf H' r) : StepOK P N R H w R' H'' w' where
  keeps := h.keeps
  grow := h.grow
  wr b o hw := h.wr b o (by simpa [Wr, he] using hw)
  wf := ⟨h.wf.lt, fun b o hr hw => h.wf.dis b o hr (by simpa [Wr, he] using hw), fun r e hr => h.wf.ents r e (by rw [← he]; exact hr)⟩
  others b hb hn := by obtain ⟨h1, h2⟩ := h.others b hb hn; exact ⟨h1, by rw [he]; exact h2⟩
  size := h.size
  env := h.env
  news r hr := h.news r (by rw [← he]; exact hr)
  virt := by
    obtain ⟨M, hM, hb⟩ := h.virt
    exact ⟨M, hM, fun n hn => hb n (by rw [← he]; exact hn)⟩
theorem hf_again {H : Heap} {r en} (h : hf H r = some en) : ∀ q, hf ((r, en) :: H) q = hf H q := by
  intro q; simp only [hf]; split
  · rename_i e; subst e; exact h.symm
  · rfl
theorem store_nothing {a : Addr} {i : Nat} : (storeCells a [] i).run P w = .ok () w := rfl
/-- a row that has moved to a new block -/
theorem row_moved (hw : WfH P R H w) (hv : VBound N H) {w' : World} {cs : Array Value} {e sz fz : Nat} {xs zs : List AV} {r : Id} {fz0 : Nat} (hh : w'.heap = w.heap.push (.cells cs e)) (henv : w'.os = w.os ∧ w'.tape = w.tape ∧ w'.output = w.output)
    (hpos : 0 < sz) (he : P.cellsOf e = sz) {cells rest : List Value} (hcs : cs.toList = cells ++ rest) (hr : RepE R w sz zs cells) (hcap : ∃ cap, cs.size = cap * sz) (hfz : fz ≤ zs.length) (h0 : hf H r ≠ none) :
    ∃ R1, StepOK P N R H w R1 ((.blk w.heap.size, .row e sz zs fz) :: (r, .dead) :: H) w' := by
  have s1 := StepOK.die hw hv r h0
  have s2 := StepOK.alloc (w' := w') s1.wf s1.virt _ hh henv (.row e sz zs 0) fun hk =>
    ⟨cs, (0, 0), alloc_get hh, thawed00 _, hpos, he, Nat.zero_le _, hcap, fun o ho => by omega, cells, rest, RepE.keeps hk _ _ _ hr, hcs⟩
  have s3 := StepOK.freeze s2.wf s2.virt (r := .blk w.heap.size) (e := e) (sz := sz) (xs := zs) (fz := 0) fz (by simp [hf]) (Nat.zero_le _) hfz
  refine ⟨_, ((s1.trans s2).trans s3).congr fun q => ?_⟩
  simp only [hf]
  split <;> rfl
theorem append_ok (hb : TbOK P tb) (hw : WfH P R H w) (hv : VBound N H) {t t2 : Nat} {s : AV} {u x : Value} {ys : List AV} {K : Out → Prop} {ts : Array TypeId} {ty : TypeId} (hu : RepV R w s u) (hts : ts[0]? = some t ∧ ts[1]? = some t2)
    (hz : (∃ e2, P.underlying t2 = some (.slice e2)) ∨ P.underlying t2 = some .string) (hlen : (Builtin.lenOf x).run P w = .ok ys.length w)
    (hnew : ∀ sz, allSz sz ys = true → ∃ new : Array Value, RepE R w sz ys new.toList ∧ ∀ w' : World, w'.heap = w.heap → (Builtin.firstCells sz ys.length x).run P w' = .ok new w')
    (h : (appendA tb t s ys).run H K) : Done P N R H w ((Builtin.append_ ts ty #[u, x]).run P w) K := by
  unfold appendA at h
  cases ht : tb t with
  | none => simp [ht] at h; exact h.elim
  | some tyA =>
    simp only [ht] at h
    split at h
    · rename_i e hs
      have h1 := (hb t tyA ht).td
      simp only [hs, tdOK] at h1
      cases hte : tb e with
      | none => simp [hte] at h; exact h.elim
      | some te =>
        simp only [hte] at h
        have hy := hb e te hte
        cases s with
        | nils =>
          simp only [] at h
          split at h
          · rename_i hc
            obtain ⟨c1, c2, c3⟩ := hc
            have := hu.nils; subst this
            obtain ⟨new, n1, n2⟩ := hnew _ c3
            have hns : new.size = ys.length * te.size := by rw [← Array.length_toList, n1.len]
            rcases run_append (P := P) (w := w) (base := none) (sLen := 0) (sCap := 0) (ty := ty) hts h1 hy hz hlen n2 (old := #[]) (fun w' _ => by simp [Builtin.firstCells]) (by simpa using c1) with ⟨hr, hrun⟩ | ⟨hr, q, rest, hq, hrest, hrun⟩
            · have hnil : ys = [] := List.eq_nil_of_length_eq_zero (by omega)
              subst hnil
              obtain ⟨n, hn1, hn2⟩ := hv.fresh
              refine ⟨_, _, _, hrun w rfl, h, [.virt n], R, .cons (freshBut_none _ hn2) trivial (.inl hn1) .nil, ?_, .of_one ?_ rfl⟩
              · simpa [Out.fresh, id0] using StepOK.virt' hw hv n e te.size hn1 c2 hy.cells
              · simp only [Out.fresh, id0, Rep, List.cons.injEq, and_true]
                exact ⟨none, by simp, rfl, rfl⟩
            · refine ⟨_, _, _, hrun, h, ?_⟩
              have hsz : (#[] ++ new ++ rest).size = q * te.size := by
                simp only [Array.size_append, hns, hrest, Array.size_empty, Nat.zero_add, ← Nat.add_mul]
                congr 1; omega
              have hheap : ({ w with drawn := w.drawn + 1, heap := w.heap.push (.cells (#[] ++ new ++ rest) e) } : World).heap = w.heap.push (.cells (#[] ++ new ++ rest) e) := rfl
              refine OutOK.fresh (f := fun r => (.own r [] te.size 0 ys.length ys.length, [(r, .row e te.size ys 0)])) (v := .own (.blk w.heap.size) [] te.size 0 ys.length ys.length) (en := .row e te.size ys 0) hw hv hheap ⟨rfl, rfl, rfl⟩ rfl (fun hk => ⟨_, (0, 0), alloc_get hheap, thawed00 _, c2, hy.cells, Nat.zero_le _, ⟨q, hsz⟩, fun o ho => by omega, new.toList, rest.toList, RepE.keeps hk _ _ _ n1, by simp⟩) fun hk => .of_one ?_ rfl
              simp only [Rep, List.cons.injEq, and_true]
              refine ⟨some ⟨w.heap.size, 0, none⟩, q, by simp, Nat.le_refl _, by omega, .inr ⟨by simp [poff], e, (#[] ++ new ++ rest).size, by simp [World.shape?], ?_⟩⟩
              rw [hsz]; simp [poff]
          · exact h.elim
        | own r p sz off len mc =>
          cases p with
          | cons s p => exact h.elim
          | nil =>
            simp only [RM.run] at h
            cases hen : hf H r with
            | none => rw [hen] at h; exact h.elim
            | some en =>
              rw [hen] at h
              cases en with
              | row e' sz' xs fz =>
                simp only [] at h
                split at h
                · rename_i hc
                  obtain ⟨rfl, rfl, rfl, c3, c1⟩ := hc
                  obtain ⟨new, n1, n2⟩ := hnew _ c3
                  have hns : new.size = ys.length * te.size := by rw [← Array.length_toList, n1.len]
                  have hent := hw.ents _ _ hen
                  have hpos : 0 < te.size := by
                    cases r with
                    | blk b => obtain ⟨_, _, _, _, q, _⟩ := hent; exact q
                    | virt n => exact hent.2.2.1
                  split at h
                  · -- within the row
                    rename_i hin
                    obtain ⟨_, i1, i2, i3⟩ := hin
                    obtain ⟨a, c, rfl, hlc, hsh⟩ := own_shows hw hu hen rfl (by omega)
                    obtain ⟨old, o1, o2⟩ := run_firstCells (P := P) (n := len) (m := len) (c := c) ⟨_, hsh⟩ (by obtain ⟨cells, q, _⟩ := hsh; exact q.allSz) (by simp; omega)
                    have hmc : mc ≤ c ∧ (c = 0 ∨ ∃ b, r = .blk b ∧ a = some ⟨b, off * te.size, none⟩) := by
                      have h2 := hu.one rfl rfl
                      cases r with
                      | virt n => simp only [Rep, List.cons.injEq, Value.slice.injEq, and_true] at h2; obtain ⟨_, ⟨_, _, rfl⟩, _, rfl⟩ := h2; exact ⟨Nat.le_refl _, .inl rfl⟩
                      | blk b =>
                        simp only [Rep, List.cons.injEq, Value.slice.injEq, and_true] at h2
                        obtain ⟨a', c', ⟨rfl, _, rfl⟩, q1, q2, q3⟩ := h2
                        exact ⟨q2, q3.imp id fun q => ⟨b, rfl, by simpa [poff] using q.1⟩⟩
                    rcases run_append (P := P) (w := w) (base := a) (sLen := len) (sCap := c) (ty := ty) hts h1 hy hz hlen n2 o2 c1 with ⟨hr, hrun⟩ | ⟨hr, _⟩
                    · by_cases hn : ys = []
                      · subst hn
                        have hnil : new.toList = [] := by simpa [RepE] using n1
                        have := hrun w (by cases a <;> simp [hnil, store_nothing])
                        refine ⟨_, _, _, this, h, [], R, .nil, ?_, ?_⟩
                        · refine (StepOK.refl hw hv).congr fun q => ?_
                          have e1 : xs.take (off + len) ++ [] ++ xs.drop (off + len + ([] : List AV).length) = xs := by simp
                          simp only [Out.upd, e1]
                          exact hf_again hen q
                        · simpa [Out.upd] using hu
                      · have hyl : 0 < ys.length := List.length_pos_iff.2 hn
                        obtain ⟨b, rfl, rfl⟩ := hmc.2.resolve_left (by omega)
                        obtain ⟨cs, fr, k1, k2, k3, k4, k5, k6, k9, cells, rest, k7, k8⟩ := hent
                        have hcl := k7.len
                        have hcs : cs.size = cells.length + rest.length := by rw [← Array.length_toList, k8]; simp
                        have hbd : (off + len + ys.length) * te.size ≤ cells.length := by rw [hcl]; exact Nat.mul_le_mul_right _ i1
                        have hpl : off * te.size + len * te.size + new.toList.length ≤ cs.size := by
                          rw [n1.len]; rw [Nat.add_mul, Nat.add_mul] at hbd; omega
                        have hst := run_storeCells_spl (P := P) b (off * te.size + len * te.size) e' fr new.toList 0 cs w k1 k2 (by simpa using hpl) (RepL.one _ _ n1.toL)
                        simp only [Nat.add_zero] at hst
                        have := hrun _ (by simp only [add_off]; exact hst)
                        refine ⟨_, _, _, this, h, [], R, .nil, ?_, ?_⟩
                        · simp only [Out.upd, List.cons_append, List.nil_append]
                          refine .put hw hv hen k1 hpl ?_ (fun i hi => by simpa [Wr, hf, hen] using hi) fun hk => ?_
                          · intro i q1 q2
                            simp only [Wr, hen]
                            have := Nat.mul_le_mul_right te.size i3
                            rw [Nat.add_mul] at this; omega
                          · refine ⟨_, fr, upW_get k1, thawed_spl k2 hpl, k3, k4, by simp; omega, by rw [spl_size hpl]; exact k6, k9, cells.take ((off + len) * te.size) ++ new.toList ++ cells.drop ((off + len + ys.length) * te.size), rest, ?_, ?_⟩
                            · exact RepE.keeps hk _ _ _ (RepE.append (RepE.append (RepE.take _ k7) n1) (RepE.drop _ k7))
                            · rw [spl_toList, k8, ← Nat.add_mul, n1.len, ← Nat.add_mul]
                              have q1 : (off + len) * te.size ≤ cells.length := Nat.le_trans (Nat.mul_le_mul_right _ (by omega)) hbd
                              rw [List.take_append_of_le_length q1, List.drop_append_of_le_length hbd]
                              simp [List.append_assoc]
                        · refine .of_one ?_ rfl
                          have h2 := hu.one rfl rfl
                          simp only [Rep, List.cons.injEq, Value.slice.injEq, and_true] at h2
                          obtain ⟨a', c', ⟨q0, _, rfl⟩, q1, q2, q3⟩ := h2
                          simp only [Out.upd, Rep, List.cons.injEq, Value.slice.injEq, and_true]
                          refine ⟨_, _, ⟨rfl, trivial, rfl⟩, i2, q2, ?_⟩
                          rcases q3 with q3 | ⟨q3, e3, n3, q4, q5⟩
                          · omega
                          · right
                            refine ⟨by simp [poff], e3, n3, ?_, q5⟩
                            have : (upW w b (.cells (spl cs (off * te.size + len * te.size) new.toList) e' fr)).shape? b = w.shape? b := by
                              simp only [World.shape?, upW_get k1, k1, spl_size hpl]
                            rw [this]; exact q4
                    · omega
                  · split at h
                    · -- behind the row's end
                      rename_i _ hend
                      obtain ⟨rfl, rfl⟩ := hend
                      obtain ⟨a, c, rfl, hlc, hsh⟩ := own_shows hw hu hen rfl (by omega)
                      rw [List.drop_zero, List.take_length] at hsh
                      obtain ⟨old, o1, o2⟩ := run_firstCells (P := P) (n := xs.length) (m := xs.length) (c := c) ⟨_, hsh⟩ (by obtain ⟨cells, q, _⟩ := hsh; exact q.allSz) rfl
                      have hfz : fz ≤ xs.length := by
                        cases r with
                        | blk b => obtain ⟨_, _, _, _, _, _, q, _⟩ := hent; exact q
                        | virt n => rw [hent.2.1]; exact Nat.zero_le _
                      rcases run_append (P := P) (w := w) (base := a) (sLen := xs.length) (sCap := c) (ty := ty) hts h1 hy hz hlen n2 o2 c1 with ⟨hr, hrun⟩ | ⟨hr, q, rst, hq, hrest, hrun⟩
                      · have hself : Picks N w H [some r] [] [r] := .cons (freshBut_of fun k _ => by by_cases e : k = r; exact .inl (by rw [e]); exact .inr e) trivial (.inr rfl) .nil
                        have hown : ∀ w' : World, (∀ b s, w.shape? b = some s → w'.shape? b = some s) → RepV R w' (.own r [] te.size 0 (xs.length + ys.length) (xs.length + ys.length)) (.slice a (xs.length + ys.length) c) := by
                          intro w' hsp
                          refine .of_one ?_ rfl
                          have h2 := hu.one rfl rfl
                          cases r with
                          | virt n =>
                            simp only [Rep, List.cons.injEq, Value.slice.injEq, and_true] at h2 ⊢
                            obtain ⟨a', ⟨_, q1, q2⟩, _⟩ := h2
                            exact ⟨a, ⟨rfl, by omega, q2⟩, by omega⟩
                          | blk b =>
                            simp only [Rep, List.cons.injEq, Value.slice.injEq, and_true] at h2 ⊢
                            obtain ⟨a', c', ⟨rfl, _, rfl⟩, q1, q2, q3⟩ := h2
                            exact ⟨a, c, ⟨rfl, trivial, rfl⟩, Nat.le_refl _, hr, q3.imp id fun ⟨p1, p2, p3, p4, p5⟩ => ⟨p1, p2, p3, hsp _ _ p4, p5⟩⟩
                        by_cases hn : ys = []
                        · subst hn
                          have hnil : new.toList = [] := by simpa [RepE] using n1
                          have := hrun w (by cases a <;> simp [hnil, store_nothing])
                          refine ⟨_, _, _, this, h, [r], R, hself, ?_, ?_⟩
                          · refine (StepOK.refl hw hv).congr fun q => ?_
                            simp only [Out.over, id0, List.append_nil, List.cons_append, List.nil_append, hf]
                            split
                            · rename_i e; subst e; exact hen.symm
                            · rfl
                          · simpa [Out.over, id0] using hown w fun _ _ h => h
                        · have hyl : 0 < ys.length := List.length_pos_iff.2 hn
                          have hblk : ∃ b, r = .blk b ∧ a = some ⟨b, 0, none⟩ ∧ ∃ e3 n3, w.shape? b = some (e3, n3) ∧ c * te.size ≤ n3 := by
                            have h2 := hu.one rfl rfl
                            cases r with
                            | virt n =>
                              simp only [Rep, List.cons.injEq, Value.slice.injEq, and_true] at h2
                              obtain ⟨a', ⟨_, q1, q2⟩, _⟩ := h2
                              omega
                            | blk b =>
                              simp only [Rep, List.cons.injEq, Value.slice.injEq, and_true] at h2
                              obtain ⟨a', c', ⟨rfl, _, rfl⟩, q1, q2, q3⟩ := h2
                              obtain ⟨p1, p2, p3, p4, p5⟩ := q3.resolve_left (by omega)
                              exact ⟨b, rfl, by simpa [poff] using p1, p2, p3, p4, by simpa [poff] using p5⟩
                          obtain ⟨b, rfl, rfl, e3, n3, p4, p5⟩ := hblk
                          obtain ⟨cs, fr, k1, k2, k3, k4, k5, k6, k9, cells, rest, k7, k8⟩ := hent
                          have hcl := k7.len
                          have hcs : cs.size = cells.length + rest.length := by rw [← Array.length_toList, k8]; simp
                          have hn3 : n3 = cs.size := by simp [World.shape?, k1] at p4; exact p4.2.symm
                          have hpl : xs.length * te.size + new.toList.length ≤ cs.size := by
                            rw [n1.len, ← Nat.add_mul, ← hn3]
                            exact Nat.le_trans (Nat.mul_le_mul_right _ hr) p5
                          have hst := run_storeCells_spl (P := P) b (xs.length * te.size) e' fr new.toList 0 cs w k1 k2 (by simpa using hpl) (RepL.one _ _ n1.toL)
                          simp only [Nat.add_zero] at hst
                          have := hrun _ (by simp only [add_off, Nat.zero_add]; exact hst)
                          refine ⟨_, _, _, this, h, [.blk b], R, hself, ?_, ?_⟩
                          · have hput : StepOK P N R H w R ((.blk b, .row e' te.size (xs ++ ys) fz) :: H) (upW w b (.cells (spl cs (xs.length * te.size) new.toList) e' fr)) := by
                              refine .put hw hv hen k1 hpl ?_ (fun i hi => by simpa [Wr, hf, hen] using hi) fun hk => ?_
                              · intro i q1 q2
                                simp only [Wr, hen]
                                have := Nat.mul_le_mul_right te.size hfz
                                omega
                              · refine ⟨_, fr, upW_get k1, thawed_spl k2 hpl, k3, k4, by simp; omega, by rw [spl_size hpl]; exact k6, k9, cells ++ new.toList, cs.toList.drop (xs.length * te.size + new.toList.length), ?_, ?_⟩
                                · exact RepE.keeps hk _ _ _ (RepE.append k7 n1)
                                · rw [spl_toList]
                                  congr 2
                                  rw [k8, ← hcl, List.take_left]
                            refine hput.congr fun q => ?_
                            simp only [Out.over, id0, List.cons_append, List.nil_append, hf]
                            split <;> rfl
                          · refine hown _ fun b' s hs => ?_
                            by_cases e1 : b' = b
                            · subst e1
                              simp only [World.shape?, upW_get k1, spl_size hpl]
                              simpa [World.shape?, k1] using hs
                            · have : (upW w b (.cells (spl cs (xs.length * te.size) new.toList) e' fr)).heap[b']? = w.heap[b']? := by
                                simp only [upW]; rw [Array.getElem?_setIfInBounds, if_neg (fun e => e1 e.symm)]
                              simpa [World.shape?, this] using hs
                      · have hol := o1.len
                        have hol' : old.size = xs.length * te.size := by rw [← Array.length_toList, hol]
                        have hsz : (old ++ new ++ rst).size = q * te.size := by
                          simp only [Array.size_append, hns, hrest, hol', ← Nat.add_mul]
                          congr 1; omega
                        obtain ⟨R1, hst⟩ := row_moved (P := P) (xs := xs) (fz0 := fz) hw hv (w' := { w with drawn := w.drawn + 1, heap := w.heap.push (.cells (old ++ new ++ rst) e') }) (r := r) (fz := fz) (zs := xs ++ ys) rfl ⟨rfl, rfl, rfl⟩ hpos hy.cells (cells := old.toList ++ new.toList) (rest := rst.toList) (by simp) (RepE.append o1 n1) ⟨q, hsz⟩ (by simp; omega) (by simp [hen])
                        refine ⟨_, _, _, hrun, h, [.blk w.heap.size], R1, .cons (freshBut_none _ (hw.none_of_ge (Nat.le_refl _))) trivial (.inl (Nat.le_refl _)) .nil, ?_, .of_one ?_ rfl⟩
                        · simpa [Out.over, id0] using hst
                        · simp only [Out.over, id0, Rep, List.cons.injEq, and_true]
                          refine ⟨_, q, rfl, Nat.le_refl _, hq, .inr ⟨by simp [poff], e', (old ++ new ++ rst).size, by simp [World.shape?], ?_⟩⟩
                          rw [hsz]; simp [poff]
                    · exact h.elim
                · exact h.elim
              | _ => exact h.elim
        | _ => exact h.elim
    · exact h.elim
end
end Go.Am
set_option linter.unusedVariables false
namespace Go.Am
section
variable {P : Program} {tb : Nat → Option TyA} {N : Nat} {R : CSet} {H : Heap} {w : World}

theorem i64_id {n : Int} (h0 : 0 ≤ n) (h1 : n ≤ 4611686018427387904) : IntKind.i64.wrap n = n := by
  have : IntKind.i64.wrap n = if n % 18446744073709551616 < 9223372036854775808 then n % 18446744073709551616 else n % 18446744073709551616 - 18446744073709551616 := by
    simp [IntKind.wrap, IntKind.signed, IntKind.bits]
    omega
  rw [this]; omega
theorem makeSlice_ok (hb : TbOK P tb) (hw : WfH P R H w) (hv : VBound N H) {t e : Nat} {te ty : TyA} {n m : Int} {K : Out → Prop} (ht : tb t = some ty) (hs : ty.td = .slice e) (hte : tb e = some te)
    (hc : 0 ≤ n ∧ n ≤ m ∧ roomy m.toNat te.bytes ∧ 0 < te.size) (hK : K (.fresh fun r => (.own r [] te.size 0 n.toNat m.toNat, [(r, .row e te.size (List.replicate n.toNat te.zero) 0)]))) :
    Done P N R H w ((Instr.makeSlice t (.int .i64 n) (.int .i64 m)).run P w) K := by
  obtain ⟨c0, c1, c2, c3⟩ := hc
  have h1 := (hb t ty ht).td
  simp only [hs, tdOK] at h1
  have hy := hb e te hte
  obtain ⟨z, z1, z2, z3, z4⟩ := hy.zrep w R
  obtain ⟨i, z', i1, i2, i3, i4, _⟩ := hy.info
  have hti : ∀ w : World, (typeInfo e).run P w = .ok i w := fun w => run_typeInfo w i1
  obtain ⟨r1, r2⟩ := c2
  have w1 : IntKind.i64.wrap m = m := i64_id (by omega) (by omega)
  have w2 : IntKind.i64.wrap n = n := i64_id (by omega) (by omega)
  have hbig : ¬ ((i.bytes : Int) * m > 2 ^ 48) := by
    have : ((m.toNat * te.bytes : Nat) : Int) = m * te.bytes := by rw [Int.natCast_mul]; congr 1; omega
    rw [i3, Int.mul_comm]
    omega
  have hzr := zeros_rep z2 z4 c3 m.toNat
  have hrun : ∃ cs : Array Value, cs.toList = ((Array.range (m.toNat * te.size)).map (z.cells[· % z.cells.size]!)).toList ∧ (Instr.makeSlice t (.int .i64 n) (.int .i64 m)).run P w = .ok (.slice (some ⟨w.heap.size, 0, none⟩) n.toNat m.toNat) (w.alloc (.cells cs e)) := by
    refine ⟨if m.toNat * te.size = 0 then #[] else (Array.range (m.toNat * te.size)).map (z.cells[· % z.cells.size]!), ?_, ?_⟩
    · split
      · rename_i h; simp [h]
      · rfl
    · unfold Instr.makeSlice
      simp only [Sem.run_bind, run_underlying h1, Result.andThen_ok, asInt, asIntOf, Sem.run_pure, hti, w1, w2]
      rw [if_neg (by
        simp only [Bool.or_eq_true, decide_eq_true_eq, not_or]
        exact ⟨⟨⟨by omega, hbig⟩, by omega⟩, by omega⟩)]
      simp only [Sem.run_bind, run_askRoom, Result.andThen_ok, hy.size]
      split
      · rename_i h
        simp only [Sem.run_bind, Sem.run_pure, Result.andThen_ok, newRow, run_newObj]
        have e0 : ∀ g : Nat → Value, (Array.range 0).map g = #[] := fun g => by simp
        rw [h, e0]
        rfl
      · simp only [Sem.run_bind, Sem.run_pure, Result.andThen_ok, newRow, run_newObj, z1]
        rfl
  obtain ⟨cs, hcs, hrun⟩ := hrun
  have hsize : cs.size = m.toNat * te.size := by rw [← Array.length_toList, hcs]; simp
  refine ⟨_, _, _, hrun, hK, ?_⟩
  have hheap : (w.alloc (.cells cs e)).heap = w.heap.push (.cells cs e) := rfl
  have htk : (List.replicate m.toNat te.zero).take n.toNat = List.replicate n.toNat te.zero := by
    rw [List.take_replicate, Nat.min_eq_left (by omega)]
  have h2 := RepE.take n.toNat hzr
  rw [htk] at h2
  refine OutOK.fresh (f := fun r => (.own r [] te.size 0 n.toNat m.toNat, [(r, .row e te.size (List.replicate n.toNat te.zero) 0)])) (v := .own (.blk w.heap.size) [] te.size 0 n.toNat m.toNat) (en := .row e te.size (List.replicate n.toNat te.zero) 0) hw hv hheap ⟨rfl, rfl, rfl⟩ rfl
    (fun hk => ⟨_, (0, 0), alloc_get hheap, thawed00 _, c3, hy.cells, Nat.zero_le _, ⟨m.toNat, hsize⟩, fun o ho => by omega, _, (((Array.range (m.toNat * te.size)).map (z.cells[· % z.cells.size]!)).toList).drop (n.toNat * te.size), RepE.keeps hk _ _ _ h2, ?_⟩) fun hk => .of_one ?_ rfl
  · rw [hcs]; exact (List.take_append_drop _ _).symm
  · simp only [Rep, List.cons.injEq, and_true]
    refine ⟨some ⟨w.heap.size, 0, none⟩, m.toNat, rfl, by omega, Nat.le_refl _, .inr ⟨by simp [poff], e, cs.size, ?_, ?_⟩⟩
    · simp only [World.shape?, alloc_get hheap]
    · rw [hsize]; simp [poff]

theorem asInt_run {k n} (w : World) : (asInt (.int k n)).run P w = .ok n w := by simp [asInt, asIntOf]
/-- an append of zeros to nothing -/
theorem appendZ_ok (hb : TbOK P tb) (hw : WfH P R H w) (hv : VBound N H) {t t2 : Nat} {k : IntKind} {n : Int} {K : Out → Prop} {ts : Array TypeId} {ty : TypeId} (hts : ts[0]? = some t ∧ ts[1]? = some t2)
    (hz : P.underlying t2 = some (.int k)) (h : (appendZ tb t n).run H K) : Done P N R H w ((Builtin.append_ ts ty #[.slice none 0 0, .int .i64 n]).run P w) K := by
  unfold appendZ at h
  cases ht : tb t with
  | none => rw [ht] at h; exact h.elim
  | some tyA =>
    rw [ht] at h
    simp only [] at h
    split at h
    · rename_i e hs
      have h1 := (hb t tyA ht).td
      simp only [hs, tdOK] at h1
      cases hte : tb e with
      | none => rw [hte] at h; exact h.elim
      | some te =>
        rw [hte] at h
        simp only [] at h
        have hy := hb e te hte
        split at h
        · rename_i hc
          obtain ⟨c0, c2, c3⟩ := hc
          obtain ⟨z, z1, z2, z3, z4⟩ := hy.zrep w R
          obtain ⟨i, z', i1, i2, i3, i4, _⟩ := hy.info
          have hti : ∀ w : World, (typeInfo e).run P w = .ok i w := fun w => run_typeInfo w i1
          obtain ⟨r1, r2⟩ := c2
          have w2 : IntKind.i64.wrap n = n := i64_id (by omega) (by omega)
          have hbig : ¬ (n * (i.bytes : Int) > 2 ^ 48) := by
            have : ((n.toNat * te.bytes : Nat) : Int) = n * te.bytes := by rw [Int.natCast_mul]; congr 1; omega
            rw [i3]; omega
          have hzr := zeros_rep z2 z4 c3 n.toNat
          by_cases hn : n.toNat = 0
          · have hrun : (Builtin.append_ ts ty #[.slice none 0 0, .int .i64 n]).run P w = .ok (.slice none 0 0) w := by
              unfold Builtin.append_
              simp only [hts.1, hts.2, List.getElem?_toArray, List.getElem?_cons_zero, List.getElem?_cons_succ, Sem.run_bind, run_underlying h1, run_underlying hz, Result.andThen_ok, hy.size, Sem.run_pure, if_true, asInt_run, w2]
              rw [if_neg (by omega)]
              simp only [Sem.run_bind, hti, Result.andThen_ok, Sem.run_pure]
              rw [if_neg hbig]
              simp [hn]
            obtain ⟨q, hn1, hn2⟩ := hv.fresh
            refine ⟨_, _, _, hrun, h, [.virt q], R, .cons (freshBut_none _ hn2) trivial (.inl hn1) .nil, ?_, .of_one ?_ rfl⟩
            · simpa [Out.fresh, id0, hn] using StepOK.virt' hw hv q e te.size hn1 c3 hy.cells
            · simp only [Out.fresh, id0, Rep, List.cons.injEq, and_true]
              exact ⟨none, by simp [hn], hn, hn⟩
          · obtain ⟨q, hq1, hq2⟩ := run_choose_cap (P := P) (w := w) (0 + n.toNat) 0 e
            have hcap := nextcap_le (need := 0 + n.toNat) (old := 0) (b := te.bytes) ⟨by rw [Nat.zero_add]; exact r1, by omega⟩ (by omega)
            rw [← i3] at hcap
            have hrun : (Builtin.append_ ts ty #[.slice none 0 0, .int .i64 n]).run P w = .ok (.slice (some ⟨w.heap.size, 0, none⟩) (0 + n.toNat) q) { w with drawn := w.drawn + 1, heap := w.heap.push (.cells (#[] ++ Builtin.zeroCells z.cells n.toNat ++ Builtin.zeroCells z.cells (q - (0 + n.toNat))) e) } := by
              unfold Builtin.append_
              simp only [hts.1, hts.2, List.getElem?_toArray, List.getElem?_cons_zero, List.getElem?_cons_succ, Sem.run_bind, run_underlying h1, run_underlying hz, Result.andThen_ok, hy.size, Sem.run_pure, if_true, asInt_run, w2]
              rw [if_neg (by omega)]
              simp only [Sem.run_bind, hti, Result.andThen_ok, Sem.run_pure]
              rw [if_neg hbig]
              simp only [Sem.run_bind, Sem.run_pure, Result.andThen_ok]
              rw [if_neg (by omega)]
              have hmx : ¬ (((0 + n.toNat : Nat) : Int) > IntKind.i64.max ∧ (True ∨ i.bytes = 0)) := by
                rintro ⟨h, _⟩
                have e1 : IntKind.i64.max = 9223372036854775807 := by decide
                rw [e1] at h; omega
              simp only [Sem.run_bind, hti, Result.andThen_ok, Sem.run_pure]
              rw [if_neg hmx]
              simp only [Sem.run_bind, hti, Result.andThen_ok, Sem.run_pure]
              rw [if_neg hcap]
              have hne : ¬ (n.toNat * te.size = 0) := by
                intro h; rcases Nat.mul_eq_zero.1 h with h | h <;> omega
              simp only [Sem.run_bind, hq2, Result.andThen_ok, hti, run_askRoom, run_firstCells_none, Bool.not_true, Bool.false_eq_true, if_false, hne, z1, newRow, run_newObj, Sem.run_pure]
            have hs1 : (#[] ++ Builtin.zeroCells z.cells n.toNat ++ Builtin.zeroCells z.cells (q - (0 + n.toNat))).size = q * te.size := by
              simp only [Array.size_append, zeroCells_size, z4, Array.size_empty, Nat.zero_add, ← Nat.add_mul]
              congr 1; omega
            generalize hcs : (#[] ++ Builtin.zeroCells z.cells n.toNat ++ Builtin.zeroCells z.cells (q - (0 + n.toNat))) = cs at hrun hs1
            have hcl : cs.toList = (Builtin.zeroCells z.cells n.toNat).toList ++ (Builtin.zeroCells z.cells (q - (0 + n.toNat))).toList := by rw [← hcs]; simp
            have hheap : ({ w with drawn := w.drawn + 1, heap := w.heap.push (.cells cs e) } : World).heap = w.heap.push (.cells cs e) := rfl
            refine ⟨_, _, _, hrun, h, ?_⟩
            refine OutOK.fresh (f := fun r => (.own r [] te.size 0 n.toNat n.toNat, [(r, .row e te.size (List.replicate n.toNat te.zero) 0)])) (v := .own (.blk w.heap.size) [] te.size 0 n.toNat n.toNat) (en := .row e te.size (List.replicate n.toNat te.zero) 0) hw hv hheap ⟨rfl, rfl, rfl⟩ rfl
              (fun hk => ⟨_, (0, 0), alloc_get hheap, thawed00 _, c3, hy.cells, Nat.zero_le _, ⟨q, hs1⟩, fun o ho => by omega, _, (Builtin.zeroCells z.cells (q - (0 + n.toNat))).toList, RepE.keeps hk _ _ _ hzr, ?_⟩) fun hk => .of_one ?_ rfl
            · rw [hcl]; simp only [Builtin.zeroCells, z4]
            · simp only [Rep, List.cons.injEq, and_true]
              refine ⟨some ⟨w.heap.size, 0, none⟩, q, by simp, by omega, by omega, .inr ⟨by simp [poff], e, cs.size, ?_, ?_⟩⟩
              · simp only [World.shape?, alloc_get hheap]
              · rw [hs1]; simp [poff]
        · exact h.elim
    · exact h.elim
end
end Go.Am
set_option linter.unusedVariables false
namespace Go.Am
section
variable {P : Program} {tb : Nat → Option TyA} {N : Nat} {R : CSet} {H : Heap} {w : World}

theorem Shows.take {sz ys a} (n : Nat) (h : Shows R w sz ys a) : Shows R w sz (ys.take n) a := by
  obtain ⟨cells, h1, h2⟩ := h
  refine ⟨cells.take (n * sz), RepE.take n h1, ?_⟩
  rcases h2 with h2 | ⟨b, o, h3, h4⟩
  · exact .inl (by rw [h2]; simp)
  · exact .inr ⟨b, o, h3, fun i u hi => h4 i u (by rw [List.getElem?_take] at hi; split at hi <;> simp_all)⟩
/-- elements of a row are written -/
theorem row_write (hw : WfH P R H w) (hv : VBound N H) {r sz off len mc u e sz' xs fz} (hu : RepV R w (.own r [] sz off len mc) u) (hen : hf H r = some (.row e sz' xs fz)) (hs : sz = sz') (hl : off + len ≤ xs.length) (hfz : fz ≤ off)
    {ys : List AV} {new : List Value} (hr : RepE R w sz ys new) (hn : ys.length ≤ len) :
    ∃ a c, u = .slice a len c ∧ ((ys = [] ∧ new = [] ∧ StepOK P N R H w R ((r, .row e sz' (spliceA xs off ys) fz) :: H) w) ∨
      ∃ b w', a = some ⟨b, off * sz, none⟩ ∧ 0 < len ∧ (storeCells ⟨b, off * sz, none⟩ new).run P w = .ok () w' ∧ StepOK P N R H w R ((r, .row e sz' (spliceA xs off ys) fz) :: H) w') := by
  subst hs
  obtain ⟨a, c, rfl, hlc, hsh⟩ := own_shows hw hu hen rfl hl
  refine ⟨a, c, rfl, ?_⟩
  by_cases h0 : ys = []
  · subst h0
    refine .inl ⟨rfl, by simpa [RepE] using hr, ?_⟩
    refine (StepOK.refl hw hv).congr fun q => ?_
    have e1 : spliceA xs off [] = xs := by simp [spliceA]
    rw [e1]
    exact hf_again hen q
  · right
    have hyl : 0 < ys.length := List.length_pos_iff.2 h0
    have h2 := hu.one rfl rfl
    cases r with
    | virt n =>
      simp only [Rep, List.cons.injEq, Value.slice.injEq, and_true] at h2
      obtain ⟨a', ⟨_, q1, q2⟩, q3, _⟩ := h2
      omega
    | blk b =>
      simp only [Rep, List.cons.injEq, Value.slice.injEq, and_true] at h2
      obtain ⟨a', c', ⟨rfl, _, rfl⟩, q1, q2, q3⟩ := h2
      obtain ⟨p1, p2⟩ := q3.resolve_left (by omega)
      obtain ⟨cs, fr, k1, k2, k3, k4, k5, k6, k9, cells, rest, k7, k8⟩ := hw.ents _ _ hen
      have hcl := k7.len
      have hcs : cs.size = cells.length + rest.length := by rw [← Array.length_toList, k8]; simp
      have hbd : (off + ys.length) * sz ≤ cells.length := by rw [hcl]; exact Nat.mul_le_mul_right _ (by omega)
      have hpl : off * sz + new.length ≤ cs.size := by
        rw [hr.len]; rw [Nat.add_mul] at hbd; omega
      have hst := run_storeCells_spl (P := P) b (off * sz) e fr new 0 cs w k1 k2 (by simpa using hpl) (RepL.one _ _ hr.toL)
      simp only [Nat.add_zero] at hst
      refine ⟨b, _, by simpa [poff] using p1, by omega, hst, ?_⟩
      refine .put hw hv hen k1 hpl ?_ (fun i hi => by simpa [Wr, hf, hen] using hi) fun hk => ?_
      · intro i q1 q2
        simp only [Wr, hen]
        have := Nat.mul_le_mul_right sz hfz
        omega
      · refine ⟨_, fr, upW_get k1, thawed_spl k2 hpl, k3, k4, by simp [spliceA]; omega, by rw [spl_size hpl]; exact k6, k9, cells.take (off * sz) ++ new ++ cells.drop ((off + ys.length) * sz), rest, ?_, ?_⟩
        · exact RepE.keeps hk _ _ _ (RepE.append (RepE.append (RepE.take _ k7) hr) (RepE.drop _ k7))
        · rw [spl_toList, k8, hr.len, ← Nat.add_mul]
          have q1 : off * sz ≤ cells.length := Nat.le_trans (Nat.mul_le_mul_right _ (by omega)) hbd
          rw [List.take_append_of_le_length q1, List.drop_append_of_le_length hbd]
          simp [List.append_assoc]
theorem allSz_splice {sz : Nat} {xs ys : List AV} {off : Nat} (h : allSz sz xs = true) (k : allSz sz ys = true) : allSz sz (spliceA xs off ys) = true :=
  allSz_append (allSz_append (allSz_take _ h) k) (allSz_drop _ h)
/-- elements of an array in a box are written -/
theorem box_write (hw : WfH P R H w) (hv : VBound N H) {b p sz off len mc u v v' vs} (hu : RepV R w (.own (.blk b) p sz off len mc) u) (hen : hf H (.blk b) = some (.box v)) (hg : getP v p = some (.agg vs)) (hl : off + len ≤ vs.length) (ha : allSz sz vs = true)
    {ys : List AV} {new : List Value} (hr : RepE R w sz ys new) (hn : ys.length ≤ len) (hset : setP v p (.agg (spliceA vs off ys)) = some v') :
    ∃ a c, u = .slice a len c ∧ ((new = [] ∧ StepOK P N R H w R ((.blk b, .box v') :: H) w) ∨
      ∃ w' o, a = some ⟨b, o, none⟩ ∧ (storeCells ⟨b, o, none⟩ new).run P w = .ok () w' ∧ StepOK P N R H w R ((.blk b, .box v') :: H) w') := by
  obtain ⟨cs, e, fr, k1, k2, k3⟩ := hw.ents _ _ hen
  obtain ⟨a, c, rfl, hlc, hsh⟩ := own_box_shows hu hg k3 (box_cells k1) hl ha
  refine ⟨a, c, rfl, ?_⟩
  obtain ⟨ds, d1, d2, d3⟩ := getP_rep (b := b) (o := 0) hg k3 (box_cells k1)
  have hdE : RepE R w sz vs ds := RepE.ofL (by simpa [Rep] using d1) ha
  have hdl := hdE.len
  have hus : RepE R w sz (spliceA vs off ys) (ds.take (off * sz) ++ new ++ ds.drop ((off + ys.length) * sz)) :=
    RepE.append (RepE.append (RepE.take _ hdE) hr) (RepE.drop _ hdE)
  have hnl := hr.len
  have hbd : (off + ys.length) * sz ≤ ds.length := by rw [hdl]; exact Nat.mul_le_mul_right _ (by omega)
  have hbd' := hbd
  rw [Nat.add_mul] at hbd'
  have hes : entSet (.box v) p (.agg (spliceA vs off ys)) = some (.box v') := by simp only [entSet, hset]
  obtain ⟨cs2, e2, fr2, m1, m2, m3, m4⟩ := entSet_step (us := ds.take (off * sz) ++ new ++ ds.drop ((off + ys.length) * sz)) hw hv hen hes (by simpa [Rep] using hus.toL)
  rw [k1] at m1
  cases m1
  have hcell : ∀ i x, ds[i]? = some x → cs[poff p + i]? = some x := by
    intro i x hi
    have := d2 i x hi
    rw [cell_of_row w b _ cs e fr k1] at this
    simpa using this
  have husl : (ds.take (off * sz) ++ new ++ ds.drop ((off + ys.length) * sz)).length = ds.length := by
    simp only [List.length_append, List.length_take, List.length_drop, Nat.add_mul]; omega
  have hpl : poff p + off * sz + new.length ≤ cs.size := by rw [husl] at m3; omega
  have heq : spl cs (poff p + off * sz) new = spl cs (poff p) (ds.take (off * sz) ++ new ++ ds.drop ((off + ys.length) * sz)) := by
    apply Array.ext_getElem?; intro i
    rw [spl_get hpl, spl_get m3, husl]
    by_cases h1 : poff p ≤ i ∧ i < poff p + ds.length
    · rw [if_pos h1]
      have hlt : (ds.take (off * sz)).length = off * sz := by simp; omega
      by_cases h2 : poff p + off * sz ≤ i ∧ i < poff p + off * sz + new.length
      · rw [if_pos h2, List.getElem?_append_left (by simp; omega), List.getElem?_append_right (by omega), hlt]
        congr 1; omega
      · rw [if_neg h2]
        have hd : ds[i - poff p]? = cs[i]? := by
          have : i - poff p < ds.length := by omega
          rw [List.getElem?_eq_getElem this]
          have := hcell (i - poff p) _ (List.getElem?_eq_getElem this)
          rw [show poff p + (i - poff p) = i by omega] at this
          exact this.symm
        by_cases h3 : i < poff p + off * sz
        · rw [List.getElem?_append_left (by simp; omega), List.getElem?_append_left (by omega), List.getElem?_take, if_pos (by omega), hd]
        · rw [List.getElem?_append_right (by simp; omega)]
          simp only [List.length_append, hlt]
          rw [List.getElem?_drop, ← hd]
          congr 1
          rw [Nat.add_mul]
          omega
    · rw [if_neg h1, if_neg (by omega)]
  rw [← heq] at m4
  by_cases h0 : new = []
  · left
    refine ⟨h0, ?_⟩
    have e1 : upW w b (.cells (spl cs (poff p + off * sz) new) e fr) = w := by
      have : spl cs (poff p + off * sz) new = cs := by
        subst h0
        apply Array.ext_getElem?; intro i
        rw [spl_get hpl, if_neg (by simp)]
      rw [this]
      unfold upW
      congr 1
      apply Array.ext_getElem?; intro i
      rw [Array.getElem?_setIfInBounds]
      split
      · rename_i h; subst h; split <;> simp_all
      · rfl
    rw [e1] at m4
    exact m4
  · right
    have hst := run_storeCells_spl (P := P) b (poff p + off * sz) e fr new 0 cs w k1 k2 (by simpa using hpl) (RepL.one _ _ hr.toL)
    simp only [Nat.add_zero] at hst
    have h2 := hu.one rfl rfl
    simp only [Rep, List.cons.injEq, Value.slice.injEq, and_true] at h2
    obtain ⟨a', c', ⟨rfl, _, rfl⟩, q1, q2, q3⟩ := h2
    have hyl : ys ≠ [] := by rintro rfl; simp [RepE] at hr; exact h0 hr
    have := List.length_pos_iff.2 hyl
    obtain ⟨p1, p2⟩ := q3.resolve_left (by omega)
    exact ⟨_, _, p1, hst, m4⟩

theorem len_take_min (ys : List AV) (len : Nat) : Nat.min ys.length len = (ys.take len).length := by
  simp only [List.length_take]
  exact Nat.min_comm _ _
theorem copy_ok (hb : TbOK P tb) (hw : WfH P R H w) (hv : VBound N H) {t sz0 : Nat} {d : AV} {ys : List AV} {u : Value} {a : Option Addr} {c : Nat} {K : Out → Prop} {ts : Array TypeId} {ty : TypeId} (hu : RepV R w d u) (hts : ts[0]? = some t)
    (hsh : Shows R w sz0 ys a) (h : (copyA tb t d ys).run H K) : Done P N R H w ((Builtin.copy_ ts ty #[u, .slice a ys.length c]).run P w) K := by
  have hrun : ∀ {e sz : Nat} {base : Option Addr} {len c' : Nat} {new : Array Value} {w' : World}, P.underlying t = some (.slice e) → (∀ w : World, (sizeOf e).run P w = .ok sz w) →
      (Builtin.firstCells sz (ys.take len).length (.slice a ys.length c)).run P w = .ok new w → (match base with | some a => (storeCells a new.toList).run P w = .ok () w' | none => w' = w) →
      (Builtin.copy_ ts ty #[.slice base len c', .slice a ys.length c]).run P w = .ok (.int .i64 ((ys.take len).length : Nat)) w' := by
    intro e sz base len c' new w' h1 h2 h3 h4
    unfold Builtin.copy_
    simp only [hts, List.getElem?_toArray, List.getElem?_cons_zero, List.getElem?_cons_succ, Sem.run_bind, run_underlying h1, Result.andThen_ok, Builtin.lenOf, Sem.run_pure, h2, len_take_min, h3]
    cases base with
    | none => simp only [] at h4; subst h4; rfl
    | some a => simp only [] at h4; simp only [Sem.run_bind, h4, Result.andThen_ok, Sem.run_pure]; rfl
  unfold copyA at h
  cases d with
  | nils =>
    simp only [] at h
    cases he : esize tb t with
    | none => rw [he] at h; exact h.elim
    | some sz =>
      rw [he] at h
      obtain ⟨e, h1, h2, _⟩ := esize_ok hb he
      have := hu.nils
      subst this
      obtain ⟨new, n1, n2⟩ := run_firstCells (P := P) (sz := sz) (n := (ys.take 0).length) (m := ys.length) (c := c) ⟨_, hsh.take 0⟩ (by simp [allSz]) rfl
      have := hrun (base := none) (len := 0) (c' := 0) (w' := w) h1 h2 (n2 w rfl) rfl
      rw [this]
      exact .val hw hv (by simpa using rep_int) h
  | own r p sz off len mc =>
    simp only [] at h
    split at h
    · rename_i hc
      obtain ⟨c1, c2⟩ := hc
      obtain ⟨e, h1, h2, _⟩ := esize_ok hb c2
      obtain ⟨new, n1, n2⟩ := run_firstCells (P := P) (sz := sz) (n := (ys.take len).length) (m := ys.length) (c := c) ⟨_, hsh.take len⟩ c1 rfl
      simp only [RM.run] at h
      cases hen : hf H r with
      | none => rw [hen] at h; exact h.elim
      | some en =>
        rw [hen] at h
        cases en with
        | row e' sz' xs fz =>
          cases p with
          | cons s p => exact h.elim
          | nil =>
            simp only [] at h
            split at h
            · rename_i hc
              obtain ⟨d1, d2, d3⟩ := hc
              obtain ⟨a', c', rfl, hcase⟩ := row_write hw hv hu hen d1 d2 d3 n1 (by simp; omega)
              rcases hcase with ⟨q1, q2, q3⟩ | ⟨b, w', rfl, q0, q2, q3⟩
              · have := hrun (base := a') (len := len) (c' := c') (w' := w) h1 h2 (n2 w rfl) (by cases a' <;> simp [q2, store_nothing])
                refine ⟨_, _, _, this, h, [], R, .nil, by simpa [Out.upd] using q3, by simpa [Out.upd] using rep_int⟩
              · have := hrun (base := some ⟨b, off * sz, none⟩) (len := len) (c' := c') (w' := w') h1 h2 (n2 w rfl) q2
                refine ⟨_, _, _, this, h, [], R, .nil, by simpa [Out.upd] using q3, by simpa [Out.upd] using rep_int⟩
            · exact h.elim
        | box v =>
          simp only [] at h
          cases hg : getP v p with
          | none => rw [hg] at h; exact h.elim
          | some g =>
            rw [hg] at h
            cases g with
            | agg vs =>
              simp only [] at h
              split at h
              · rename_i hc
                obtain ⟨d1, d2⟩ := hc
                cases hset : setP v p (.agg (spliceA vs off (ys.take len))) with
                | none => rw [hset] at h; exact h.elim
                | some v' =>
                  rw [hset] at h
                  simp only [] at h
                  cases r with
                  | virt n => exact (hw.ents _ _ hen).elim
                  | blk b =>
                    obtain ⟨a', c', rfl, hcase⟩ := box_write hw hv hu hen hg d1 d2 n1 (by simp; omega) hset
                    rcases hcase with ⟨q2, q3⟩ | ⟨w', o, rfl, q2, q3⟩
                    · have := hrun (base := a') (len := len) (c' := c') (w' := w) h1 h2 (n2 w rfl) (by cases a' <;> simp [q2, store_nothing])
                      refine ⟨_, _, _, this, h, [], R, .nil, by simpa [Out.upd] using q3, by simpa [Out.upd] using rep_int⟩
                    · have := hrun (base := some ⟨b, o, none⟩) (len := len) (c' := c') (w' := w') h1 h2 (n2 w rfl) q2
                      refine ⟨_, _, _, this, h, [], R, .nil, by simpa [Out.upd] using q3, by simpa [Out.upd] using rep_int⟩
              · exact h.elim
            | _ => exact h.elim
        | _ => exact h.elim
    · exact h.elim
  | _ => exact h.elim
theorem rep_tup0 : RepV R w (.tup []) (.tuple #[]) := .inr (.inr ⟨[], #[], rfl, rfl, by simp [RepVs]⟩)
theorem clear_ok (hb : TbOK P tb) (hw : WfH P R H w) (hv : VBound N H) {t : Nat} {d : AV} {u : Value} {K : Out → Prop} {ts : Array TypeId} {ty : TypeId} (hu : RepV R w d u) (hts : ts[0]? = some t)
    (h : (clearA tb t d).run H K) : Done P N R H w ((Builtin.clear_ ts ty #[u]).run P w) K := by
  unfold clearA at h
  cases ht : tb t with
  | none => rw [ht] at h; exact h.elim
  | some tyA =>
    rw [ht] at h
    simp only [] at h
    split at h
    · rename_i e hs
      have h1 := (hb t tyA ht).td
      simp only [hs, tdOK] at h1
      cases hte : tb e with
      | none => rw [hte] at h; exact h.elim
      | some te =>
        rw [hte] at h
        have hy := hb e te hte
        obtain ⟨z, z1, z2, z3, z4⟩ := hy.zrep w R
        cases d with
        | nils =>
          have := hu.nils
          subst this
          have : (Builtin.clear_ ts ty #[.slice none 0 0]).run P w = .ok (.tuple #[]) w := by
            unfold Builtin.clear_
            simp only [hts, List.getElem?_toArray, List.getElem?_cons_zero, Sem.run_bind, run_underlying h1, Result.andThen_ok, Sem.run_pure]
          rw [this]
          exact .val hw hv rep_tup0 h
        | own r p sz off len mc =>
          simp only [] at h
          split at h
          · rename_i hsz
            subst hsz
            simp only [RM.run] at h
            cases hen : hf H r with
            | none => rw [hen] at h; exact h.elim
            | some en =>
              rw [hen] at h
              cases en with
              | row e' sz' xs fz =>
                cases p with
                | cons s p => exact h.elim
                | nil =>
                  simp only [] at h
                  split at h
                  · rename_i hc
                    obtain ⟨rfl, d1, d2, d3⟩ := hc
                    have hpos : 0 < te.size := by
                      have hent := hw.ents _ _ hen
                      subst d1
                      cases r with
                      | blk b => obtain ⟨_, _, _, _, q, _⟩ := hent; exact q
                      | virt n => exact hent.2.2.1
                    have hzr := zeros_rep z2 z4 hpos len
                    obtain ⟨a', c', rfl, hcase⟩ := row_write hw hv hu hen d1 d2 d3 hzr (by simp)
                    have hzc : ((Array.range (len * te.size)).map (z.cells[· % z.cells.size]!)) = Builtin.zeroCells z.cells len := by simp only [Builtin.zeroCells, z4]
                    rw [hzc] at hcase
                    rcases hcase with ⟨q1, q2, q3⟩ | ⟨b, w', rfl, q0, q2, q3⟩
                    · have hl0 : len = 0 := by simpa using q1
                      have : (Builtin.clear_ ts ty #[.slice a' len c']).run P w = .ok (.tuple #[]) w := by
                        subst hl0
                        unfold Builtin.clear_
                        cases a' <;> simp only [hts, List.getElem?_toArray, List.getElem?_cons_zero, Sem.run_bind, run_underlying h1, Result.andThen_ok, Sem.run_pure]
                      refine ⟨_, _, _, this, h, [], R, .nil, by simpa [Out.upd] using q3, by simpa [Out.upd] using rep_tup0⟩
                    · have : (Builtin.clear_ ts ty #[.slice (some ⟨b, off * te.size, none⟩) len c']).run P w = .ok (.tuple #[]) w' := by
                        obtain ⟨l, rfl⟩ : ∃ l, len = l + 1 := ⟨len - 1, by omega⟩
                        unfold Builtin.clear_
                        simp only [hts, List.getElem?_toArray, List.getElem?_cons_zero, Sem.run_bind, run_underlying h1, Result.andThen_ok, Sem.run_pure, z1, q2]
                      refine ⟨_, _, _, this, h, [], R, .nil, by simpa [Out.upd] using q3, by simpa [Out.upd] using rep_tup0⟩
                  · exact h.elim
              | _ => exact h.elim
          · exact h.elim
        | _ => exact h.elim
    · exact h.elim
end
end Go.Am
