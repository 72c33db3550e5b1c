/- A part of the proof of the laws of layer 32: abstract values and contracts of functions; no statement of its own. -/
import Derived.Test.YtobhdinkckckhaaGreatA6
set_option linter.unusedSimpArgs false
set_option linter.unusedVariables false
set_option maxRecDepth 100000
set_option linter.unusedSimpArgs false
set_option linter.unusedVariables false
set_option pp.maxSteps 2000
set_option maxHeartbeats 4000000
namespace Go.Am.Tryz
open Go.Proofs
def decT (b : List UInt8) (vs : List Sgn) : Nat → List (List UInt8) → Int → Bool → View × Int
  | 0, ts, a, d => if (d = false ∧ a = b.length) ∧ ordW ⟨vs, ts⟩ = true then (⟨vs, ts⟩, 0) else (⟨[], []⟩, 4)
  | n+1, ts, a, d => if d = true then (⟨[], []⟩, 4) else decT b vs n (ts ++ [(curB b a d).1]) (curB b a d).2.1 (curB b a d).2.2
def decVs (b : List UInt8) : Nat → List Sgn → Int → Bool → View × Int
  | 0, vs, a, d => decT b vs (curU b a 4 d).1.toNat [] (curU b a 4 d).2.1 (curU b a 4 d).2.2
  | n+1, vs, a, d => if (decS (curF b a 393 d).1).2 = 0 then decVs b n (vs ++ [(decS (curF b a 393 d).1).1]) (curF b a 393 d).2.1 (curF b a 393 d).2.2 else (⟨[], []⟩, 4)
def decW (b : List UInt8) : View × Int := decVs b (curU b 0 4 false).1.toNat [] (curU b 0 4 false).2.1 (curU b 0 4 false).2.2
theorem curU_nat {b : List UInt8} {a : Int} {d : Bool} : (curU b a 4 d).1 = ((curU b a 4 d).1.toNat : Int) := by
  have hv := uintV4 b a
  unfold curU; split <;> simp
theorem curU_lt {b : List UInt8} {a : Int} {d : Bool} : (curU b a 4 d).1.toNat < 4294967296 := by
  have hv := uintV4 b a
  by_cases h : d = false ∧ uintOk b a 4 = true
  · simp [curU, h]; omega
  · simp only [curU, h, if_false]; decide
theorem curU_at {b : List UInt8} {a : Int} {d : Bool} (h : 0 ≤ a ∧ a ≤ b.length) : 0 ≤ (curU b a 4 d).2.1 ∧ (curU b a 4 d).2.1 ≤ b.length := by
  unfold curU; split
  · rename_i h'
    have := uintOk_iff.1 h'.2
    simp; omega
  · simp; omega
theorem curU_bad {b : List UInt8} {a : Int} {d : Bool} (h : (curU b a 4 d).2.2 = true) : (curU b a 4 d).1.toNat = 0 := by
  by_cases h2 : d = false ∧ uintOk b a 4 = true
  · simp [curU, h2] at h
  · simp only [curU, h2, if_false]; rfl
theorem curF_at {b : List UInt8} {a : Int} {d : Bool} (h : 0 ≤ a ∧ a ≤ b.length) : 0 ≤ (curF b a 393 d).2.1 ∧ (curF b a 393 d).2.1 ≤ b.length := by
  unfold curF; split
  · simp; omega
  · simp; omega
theorem decS_nil : (decS []).2 = 2 := by rfl
theorem curF_ok {b : List UInt8} {a : Int} {d : Bool} (h : (decS (curF b a 393 d).1).2 = 0) : (curF b a 393 d).2.2 = false := by
  unfold curF at *; split at h
  · simp_all
  · simp [decS_nil] at h
theorem curF_len {b : List UInt8} {a : Int} {d : Bool} (h0 : 0 ≤ a ∧ a ≤ b.length) : (curF b a 393 d).1.length ≤ 393 := by
  unfold curF; split
  · rename_i h
    show (seg b a 393).length ≤ 393
    rw [seg_len h0.1 h0.2 (by omega) h.2]; decide
  · exact Nat.zero_le _
theorem curB_at {b : List UInt8} {a : Int} {d : Bool} (h : 0 ≤ a ∧ a ≤ b.length) : 0 ≤ (curB b a d).2.1 ∧ (curB b a d).2.1 ≤ b.length := by
  unfold curB; split
  · rename_i h'
    have := bytesOk_iff.1 h'.2
    simp; omega
  · simp; omega
theorem snapDec_ok {b : List UInt8} (hb : b.length ≤ 1000000000) : FnG Tryz.prog 11 [.list (bys b)] [] (.val (.tup [viewA (decW b).1, .int .i64 (decW b).2])) := by
  refine FnG_of_W (sp := spL [(34, sp_cursor_New), (35, sp_cursor_Cursor_Uint), (36, sp_cursor_Cursor_OK), (38, sp_cursor_Cursor_Fixed), (37, sp_signed_Decode), (39, sp_cursor_Cursor_Bytes), (40, sp_cursor_Cursor_Done), (29, sp_snapshot_ordered)]) (tb := tbOf Tryz.prog) (tbOf_ok _) (by kernel_rfl) Tryz.func11 (c := _) rfl (by kernel_rfl) (by kernel_rfl) (Nat.le_of_ble_eq_true rfl) (rs := [.cell 2 25, .tmp 3]) rfl ?_
  unfold FnW
  repeat' (first | (with_reducible intro _) | (with_reducible refine wcond_not ?_) | ((with_reducible refine wcond_dec (fun _ => ?_) (fun _ => ?_)) <;> try (exfalso; omega)) | (with_reducible refine wcond_split (fun _ => ?_) (fun _ => ?_)) | (with_reducible refine draw_we [(false, []), (true, []), (false, []), (false, [10000, 1]), (false, [1]), (false, []), (false, []), (false, [])] (by kernel_rfl) (by decide +kernel) ?_) | simp +contextual -implicitDefEqProofs (disch := first | exact dsc _ | fail) only [go_sem, ↓reduceIte, Nat.reduceEqDiff, Nat.reduceAdd, Nat.reduceMul, Nat.reduceSub, Nat.reduceLT, Nat.reduceLeDiff, Nat.reduceBEq, reduceCtorEq, BEq.rfl, Int.reduceLT, Int.reduceLE, Int.reduceAdd, Int.reduceToNat, Int.reduceSub, Int.reduceMul, Int.reduceNeg, Int.reduceEq, *] | (with_reducible refine And.intro (by first | omega | assumption | rfl) ?_))
  rename_i r0 r1 h01 r2 h2
  refine wloopW (α := Option Id × List Sgn × Nat × Int × Bool) (fun p => ⟨[(2, .ptr r0 []), (3, .int .i64 0), (4, .ptr r1 []), (5, .ptr r2 []), (6, .int .i64 p.2.2.1)],
      match p.1 with
      | none => [(r1, .box (curA b p.2.2.2.1 p.2.2.2.2)), (r2, .box (.agg [.nils, .nils])), (r0, .box (.agg [.nils, .nils]))]
      | some r => [(r1, .box (curA b p.2.2.2.1 p.2.2.2.2)), (r2, .box (.agg [.own r [] 23 0 p.2.1.length p.2.1.length, .nils])), (r0, .box (.agg [.nils, .nils])), (r, .row 57 23 (p.2.1.map sgnA) 0)]⟩)
    (fun p => (0 ≤ p.2.2.2.1 ∧ p.2.2.2.1 ≤ b.length) ∧ (p.2.2.2.2 = true → p.2.2.1 = 0) ∧ p.2.2.1 < 4294967296 ∧ (393 * p.2.1.length : Int) ≤ p.2.2.2.1 ∧ decVs b p.2.2.1 p.2.1 p.2.2.2.1 p.2.2.2.2 = decW b ∧ (p.1 = none → p.2.1 = []) ∧ ∀ r, p.1 = some r → (¬ r = r0 ∧ ¬ r0 = r) ∧ (¬ r = r1 ∧ ¬ r1 = r) ∧ (¬ r = r2 ∧ ¬ r2 = r) ∧ p.2.1 ≠ [])
    (fun p => p.2.2.1) (none, [], (curU b 0 4 false).1.toNat, (curU b 0 4 false).2.1, (curU b 0 4 false).2.2) ?_ ?_ ?_
  · refine ⟨curU_at (by omega), curU_bad, curU_lt, ?_, rfl, fun _ => rfl, by simp⟩
    have := (curU_at (b := b) (a := 0) (d := false) (by omega)).1
    simpa using this
  · simp +contextual -implicitDefEqProofs (disch := first | exact dsc _ | fail) only [go_sem, push_cast, ↓reduceIte, Nat.reduceEqDiff, Nat.reduceAdd, Nat.reduceMul, Nat.reduceSub, Nat.reduceLT, Nat.reduceLeDiff, Nat.reduceBEq, reduceCtorEq, BEq.rfl, Int.reduceLT, Int.reduceLE, Int.reduceAdd, Int.reduceToNat, Int.reduceSub, Int.reduceMul, Int.reduceNeg, Int.reduceEq, *]
    all_goals exact curU_nat
  · rintro ⟨o, vs, n, a, d⟩ hC
    replace hC : (0 ≤ a ∧ a ≤ b.length) ∧ (d = true → n = 0) ∧ n < 4294967296 ∧ (393 * vs.length : Int) ≤ a ∧ decVs b n vs a d = decW b ∧ (o = none → vs = []) ∧ ∀ r, o = some r → (¬ r = r0 ∧ ¬ r0 = r) ∧ (¬ r = r1 ∧ ¬ r1 = r) ∧ (¬ r = r2 ∧ ¬ r2 = r) ∧ vs ≠ [] := hC
    obtain ⟨ha, hd, hn, hvs, hdec, ho, hr⟩ := hC
    by_cases hn0 : n = 0
    · subst hn0
      rcases o with _ | r
      · have hvs0 := ho rfl
        subst hvs0
        repeat' (first | (with_reducible intro _) | (with_reducible refine wcond_not ?_) | ((with_reducible refine wcond_dec (fun _ => ?_) (fun _ => ?_)) <;> try (exfalso; omega)) | (with_reducible refine wcond_split (fun _ => ?_) (fun _ => ?_)) | (with_reducible refine draw_we [(false, []), (true, []), (false, []), (false, [10000, 1]), (false, [1]), (false, []), (false, []), (false, [])] (by kernel_rfl) (by decide +kernel) ?_) | simp +contextual -implicitDefEqProofs (disch := first | exact dsc _ | fail) only [go_sem, ↓reduceIte, Nat.reduceEqDiff, Nat.reduceAdd, Nat.reduceMul, Nat.reduceSub, Nat.reduceLT, Nat.reduceLeDiff, Nat.reduceBEq, reduceCtorEq, BEq.rfl, Int.reduceLT, Int.reduceLE, Int.reduceAdd, Int.reduceToNat, Int.reduceSub, Int.reduceMul, Int.reduceNeg, Int.reduceEq, *] | (with_reducible refine And.intro (by first | omega | assumption | rfl) ?_))
        refine wloopW (α := Option Id × List (List UInt8) × Nat × Int × Bool) (fun p => ⟨[(2, .ptr r0 []), (3, .int .i64 0), (4, .ptr r1 []), (5, .ptr r2 []), (9, .int .i64 p.2.2.1)],
            match p.1 with
            | none => [(r1, .box (curA b p.2.2.2.1 p.2.2.2.2)), (r2, .box (.agg [.nils, .nils])), (r0, .box (.agg [.nils, .nils]))]
            | some r => [(r1, .box (curA b p.2.2.2.1 p.2.2.2.2)), (r2, .box (.agg [.nils, .own r [] 1 0 p.2.1.length p.2.1.length])), (r0, .box (.agg [.nils, .nils])), (r, .row 28 1 (p.2.1.map txtA) 0)]⟩)
          (fun p => (0 ≤ p.2.2.2.1 ∧ p.2.2.2.1 ≤ b.length) ∧ (p.2.2.2.2 = false → (2 * p.2.1.length : Int) ≤ p.2.2.2.1) ∧ p.2.2.1 < 4294967296 ∧ (2 * p.2.1.length : Int) ≤ p.2.2.2.1 + 2 ∧ decT b [] p.2.2.1 p.2.1 p.2.2.2.1 p.2.2.2.2 = decW b ∧ (p.1 = none → p.2.1 = []) ∧ ∀ r, p.1 = some r → ((¬ r = r0 ∧ ¬ r0 = r) ∧ (¬ r = r1 ∧ ¬ r1 = r) ∧ (¬ r = r2 ∧ ¬ r2 = r)) ∧ p.2.1 ≠ [])
          (fun p => p.2.2.1) (none, [], (curU b a 4 d).1.toNat, (curU b a 4 d).2.1, (curU b a 4 d).2.2) ?_ ?_ ?_
        · refine ⟨curU_at ha, ?_, curU_lt, ?_, hdec, fun _ => rfl, by simp⟩
          all_goals
            have := (curU_at (b := b) (a := a) (d := d) ha).1
            simp; omega
        · simp +contextual -implicitDefEqProofs (disch := first | exact dsc _ | fail) only [go_sem, push_cast, ↓reduceIte, Nat.reduceEqDiff, Nat.reduceAdd, Nat.reduceMul, Nat.reduceSub, Nat.reduceLT, Nat.reduceLeDiff, Nat.reduceBEq, reduceCtorEq, BEq.rfl, Int.reduceLT, Int.reduceLE, Int.reduceAdd, Int.reduceToNat, Int.reduceSub, Int.reduceMul, Int.reduceNeg, Int.reduceEq, *]
          all_goals exact curU_nat
        · rintro ⟨q, ts, m, a2, d2⟩ hC
          replace hC : (0 ≤ a2 ∧ a2 ≤ b.length) ∧ (d2 = false → (2 * ts.length : Int) ≤ a2) ∧ m < 4294967296 ∧ (2 * ts.length : Int) ≤ a2 + 2 ∧ decT b [] m ts a2 d2 = decW b ∧ (q = none → ts = []) ∧ ∀ rr, q = some rr → ((¬ rr = r0 ∧ ¬ r0 = rr) ∧ (¬ rr = r1 ∧ ¬ r1 = rr) ∧ (¬ rr = r2 ∧ ¬ r2 = rr)) ∧ ts ≠ [] := hC
          obtain ⟨ja, jd, jm, jts, jdec, jo, jr⟩ := hC
          have jB := curB_at (d := d2) ja
          have jB2 : (curB b a2 d2).2.2 = false → (2 + a2) ≤ (curB b a2 d2).2.1 := by
            unfold curB; split
            · intro _; simp; omega
            · intro h; cases h
          have jB3 : d2 = false → a2 ≤ (curB b a2 d2).2.1 := by
            unfold curB; split
            · intro _; simp; omega
            · intro h; simp
          have jl2 : (0:Int) ≤ 2 * ts.length := by omega
          rcases q with _ | rr
          · have jo2 := jo rfl
            subst jo2
            clear jo jr
            by_cases hm0 : m = 0
            · subst hm0
              repeat' (first | (with_reducible intro _) | (with_reducible refine wcond_not ?_) | ((with_reducible refine wcond_dec (fun _ => ?_) (fun _ => ?_)) <;> try (exfalso; omega)) | (with_reducible refine wcond_split (fun _ => ?_) (fun _ => ?_)) | (with_reducible refine draw_we [(false, []), (true, []), (false, []), (false, [10000, 1]), (false, [1]), (false, []), (false, []), (false, [])] (by kernel_rfl) (by decide +kernel) ?_) | simp +contextual -implicitDefEqProofs (disch := first | exact dsc _ | fail) only [go_sem, ↓reduceIte, Nat.reduceEqDiff, Nat.reduceAdd, Nat.reduceMul, Nat.reduceSub, Nat.reduceLT, Nat.reduceLeDiff, Nat.reduceBEq, reduceCtorEq, BEq.rfl, Int.reduceLT, Int.reduceLE, Int.reduceAdd, Int.reduceToNat, Int.reduceSub, Int.reduceMul, Int.reduceNeg, Int.reduceEq, *] | (with_reducible refine And.intro (by first | omega | assumption | rfl) ?_))
              all_goals first
                | (have e : decW b = (⟨[], []⟩, 0) := jdec.symm.trans (if_pos (by simp_all))
                   rw [e]
                   ((first | refine Fin_v1 (by rfl) ?_ | refine Fin_vn (by intro h; cases h) ?_ | refine Fin_f1 (by rfl) ?_ | refine Fin_fn (by intro h; cases h) (fun _ => rfl) ?_ | refine Fin_u1 (by rfl) ?_ | refine Fin_un (by intro h; cases h) ?_); try simp +contextual -implicitDefEqProofs (disch := first | exact dsc _ | fail) only [go_sem, push_cast, ↓reduceIte, Nat.reduceEqDiff, Nat.reduceAdd, Nat.reduceMul, Nat.reduceSub, Nat.reduceLT, Nat.reduceLeDiff, Nat.reduceBEq, reduceCtorEq, BEq.rfl, Int.reduceLT, Int.reduceLE, Int.reduceAdd, Int.reduceToNat, Int.reduceSub, Int.reduceMul, Int.reduceNeg, Int.reduceEq, *])
                   done)
                | (have e : decW b = (⟨[], []⟩, 4) := jdec.symm.trans (if_neg (by simp_all))
                   rw [e]
                   ((first | refine Fin_v1 (by rfl) ?_ | refine Fin_vn (by intro h; cases h) ?_ | refine Fin_f1 (by rfl) ?_ | refine Fin_fn (by intro h; cases h) (fun _ => rfl) ?_ | refine Fin_u1 (by rfl) ?_ | refine Fin_un (by intro h; cases h) ?_); try simp +contextual -implicitDefEqProofs (disch := first | exact dsc _ | fail) only [go_sem, push_cast, ↓reduceIte, Nat.reduceEqDiff, Nat.reduceAdd, Nat.reduceMul, Nat.reduceSub, Nat.reduceLT, Nat.reduceLeDiff, Nat.reduceBEq, reduceCtorEq, BEq.rfl, Int.reduceLT, Int.reduceLE, Int.reduceAdd, Int.reduceToNat, Int.reduceSub, Int.reduceMul, Int.reduceNeg, Int.reduceEq, *])
                   done)
            · have hmp : (0:Int) < (m : Int) := by omega
              have hst : decT b [] m [] a2 d2 = if d2 = true then (⟨[], []⟩, 4) else decT b [] (m - 1) ([] ++ [(curB b a2 d2).1]) (curB b a2 d2).2.1 (curB b a2 d2).2.2 := by
                obtain ⟨m', rfl⟩ : ∃ m', m = m' + 1 := ⟨m - 1, by omega⟩
                rfl
              rw [hst] at jdec
              clear hst
              cases d2 with
              | true =>
                rw [if_pos rfl] at jdec
                rw [← jdec]
                repeat' (first | (with_reducible intro _) | (with_reducible refine wcond_not ?_) | ((with_reducible refine wcond_dec (fun _ => ?_) (fun _ => ?_)) <;> try (exfalso; omega)) | (with_reducible refine wcond_split (fun _ => ?_) (fun _ => ?_)) | (with_reducible refine draw_we [(false, []), (true, []), (false, []), (false, [10000, 1]), (false, [1]), (false, []), (false, []), (false, [])] (by kernel_rfl) (by decide +kernel) ?_) | simp +contextual -implicitDefEqProofs (disch := first | exact dsc _ | fail) only [go_sem, ↓reduceIte, Nat.reduceEqDiff, Nat.reduceAdd, Nat.reduceMul, Nat.reduceSub, Nat.reduceLT, Nat.reduceLeDiff, Nat.reduceBEq, reduceCtorEq, BEq.rfl, Int.reduceLT, Int.reduceLE, Int.reduceAdd, Int.reduceToNat, Int.reduceSub, Int.reduceMul, Int.reduceNeg, Int.reduceEq, *] | (with_reducible refine And.intro (by first | omega | assumption | rfl) ?_))
                all_goals ((first | refine Fin_v1 (by rfl) ?_ | refine Fin_vn (by intro h; cases h) ?_ | refine Fin_f1 (by rfl) ?_ | refine Fin_fn (by intro h; cases h) (fun _ => rfl) ?_ | refine Fin_u1 (by rfl) ?_ | refine Fin_un (by intro h; cases h) ?_); try simp +contextual -implicitDefEqProofs (disch := first | exact dsc _ | fail) only [go_sem, push_cast, ↓reduceIte, Nat.reduceEqDiff, Nat.reduceAdd, Nat.reduceMul, Nat.reduceSub, Nat.reduceLT, Nat.reduceLeDiff, Nat.reduceBEq, reduceCtorEq, BEq.rfl, Int.reduceLT, Int.reduceLE, Int.reduceAdd, Int.reduceToNat, Int.reduceSub, Int.reduceMul, Int.reduceNeg, Int.reduceEq, *])
              | false =>
                rw [if_neg (by decide)] at jdec
                repeat' (first | (with_reducible intro _) | (with_reducible refine wcond_not ?_) | ((with_reducible refine wcond_dec (fun _ => ?_) (fun _ => ?_)) <;> try (exfalso; omega)) | (with_reducible refine wcond_split (fun _ => ?_) (fun _ => ?_)) | (with_reducible refine draw_we [(false, []), (true, []), (false, []), (false, [10000, 1]), (false, [1]), (false, []), (false, []), (false, [])] (by kernel_rfl) (by decide +kernel) ?_) | simp +contextual -implicitDefEqProofs (disch := first | exact dsc _ | fail) only [go_sem, ↓reduceIte, Nat.reduceEqDiff, Nat.reduceAdd, Nat.reduceMul, Nat.reduceSub, Nat.reduceLT, Nat.reduceLeDiff, Nat.reduceBEq, reduceCtorEq, BEq.rfl, Int.reduceLT, Int.reduceLE, Int.reduceAdd, Int.reduceToNat, Int.reduceSub, Int.reduceMul, Int.reduceNeg, Int.reduceEq, *] | (with_reducible refine And.intro (by first | omega | assumption | rfl) ?_))
                rename_i r7 h7 r8 h8
                refine round_intro (some r8, [] ++ [(curB b a2 false).1], m - 1, (curB b a2 false).2.1, (curB b a2 false).2.2) ⟨jB, ?_, by show m - 1 < 4294967296; omega, ?_, jdec, by simp, ?_⟩ (by show m - 1 < m; omega) ?_
                · intro e
                  have := jB2 e
                  have := jd rfl
                  simp at *; omega
                · have := jd rfl
                  have := jB3 rfl
                  simp at *; omega
                · simp_all
                · simp +contextual -implicitDefEqProofs (disch := first | exact dsc _ | fail) only [go_sem, push_cast, ↓reduceIte, Nat.reduceEqDiff, Nat.reduceAdd, Nat.reduceMul, Nat.reduceSub, Nat.reduceLT, Nat.reduceLeDiff, Nat.reduceBEq, reduceCtorEq, BEq.rfl, Int.reduceLT, Int.reduceLE, Int.reduceAdd, Int.reduceToNat, Int.reduceSub, Int.reduceMul, Int.reduceNeg, Int.reduceEq, *]
                  all_goals first | omega | rfl | (refine ⟨by omega, ?_⟩; rw [List.map_append]; rfl) | (rw [List.map_append]; rfl)
          · obtain ⟨⟨j1, j2, j3⟩, j5⟩ := jr rr rfl
            clear jo jr
            by_cases hm0 : m = 0
            · subst hm0
              repeat' (first | (with_reducible intro _) | (with_reducible refine wcond_not ?_) | ((with_reducible refine wcond_dec (fun _ => ?_) (fun _ => ?_)) <;> try (exfalso; omega)) | (with_reducible refine wcond_split (fun _ => ?_) (fun _ => ?_)) | (with_reducible refine draw_we [(false, []), (true, []), (false, []), (false, [10000, 1]), (false, [1]), (false, []), (false, []), (false, [])] (by kernel_rfl) (by decide +kernel) ?_) | simp +contextual -implicitDefEqProofs (disch := first | exact dsc _ | fail) only [go_sem, ↓reduceIte, Nat.reduceEqDiff, Nat.reduceAdd, Nat.reduceMul, Nat.reduceSub, Nat.reduceLT, Nat.reduceLeDiff, Nat.reduceBEq, reduceCtorEq, BEq.rfl, Int.reduceLT, Int.reduceLE, Int.reduceAdd, Int.reduceToNat, Int.reduceSub, Int.reduceMul, Int.reduceNeg, Int.reduceEq, *] | (with_reducible refine And.intro (by first | omega | assumption | rfl) ?_))
              all_goals first
                | (have e : decW b = (⟨[], ts⟩, 0) := jdec.symm.trans (if_pos (by simp_all))
                   rw [e]
                   ((first | refine Fin_v1 (by rfl) ?_ | refine Fin_vn (by intro h; cases h) ?_ | refine Fin_f1 (by rfl) ?_ | refine Fin_fn (by intro h; cases h) (fun _ => rfl) ?_ | refine Fin_u1 (by rfl) ?_ | refine Fin_un (by intro h; cases h) ?_); try simp +contextual -implicitDefEqProofs (disch := first | exact dsc _ | fail) only [go_sem, push_cast, ↓reduceIte, Nat.reduceEqDiff, Nat.reduceAdd, Nat.reduceMul, Nat.reduceSub, Nat.reduceLT, Nat.reduceLeDiff, Nat.reduceBEq, reduceCtorEq, BEq.rfl, Int.reduceLT, Int.reduceLE, Int.reduceAdd, Int.reduceToNat, Int.reduceSub, Int.reduceMul, Int.reduceNeg, Int.reduceEq, *])
                   done)
                | (have e : decW b = (⟨[], []⟩, 4) := jdec.symm.trans (if_neg (by simp_all))
                   rw [e]
                   ((first | refine Fin_v1 (by rfl) ?_ | refine Fin_vn (by intro h; cases h) ?_ | refine Fin_f1 (by rfl) ?_ | refine Fin_fn (by intro h; cases h) (fun _ => rfl) ?_ | refine Fin_u1 (by rfl) ?_ | refine Fin_un (by intro h; cases h) ?_); try simp +contextual -implicitDefEqProofs (disch := first | exact dsc _ | fail) only [go_sem, push_cast, ↓reduceIte, Nat.reduceEqDiff, Nat.reduceAdd, Nat.reduceMul, Nat.reduceSub, Nat.reduceLT, Nat.reduceLeDiff, Nat.reduceBEq, reduceCtorEq, BEq.rfl, Int.reduceLT, Int.reduceLE, Int.reduceAdd, Int.reduceToNat, Int.reduceSub, Int.reduceMul, Int.reduceNeg, Int.reduceEq, *])
                   done)
            · have hmp : (0:Int) < (m : Int) := by omega
              have hst : decT b [] m ts a2 d2 = if d2 = true then (⟨[], []⟩, 4) else decT b [] (m - 1) (ts ++ [(curB b a2 d2).1]) (curB b a2 d2).2.1 (curB b a2 d2).2.2 := by
                obtain ⟨m', rfl⟩ : ∃ m', m = m' + 1 := ⟨m - 1, by omega⟩
                rfl
              rw [hst] at jdec
              clear hst
              cases d2 with
              | true =>
                rw [if_pos rfl] at jdec
                rw [← jdec]
                repeat' (first | (with_reducible intro _) | (with_reducible refine wcond_not ?_) | ((with_reducible refine wcond_dec (fun _ => ?_) (fun _ => ?_)) <;> try (exfalso; omega)) | (with_reducible refine wcond_split (fun _ => ?_) (fun _ => ?_)) | (with_reducible refine draw_we [(false, []), (true, []), (false, []), (false, [10000, 1]), (false, [1]), (false, []), (false, []), (false, [])] (by kernel_rfl) (by decide +kernel) ?_) | simp +contextual -implicitDefEqProofs (disch := first | exact dsc _ | fail) only [go_sem, ↓reduceIte, Nat.reduceEqDiff, Nat.reduceAdd, Nat.reduceMul, Nat.reduceSub, Nat.reduceLT, Nat.reduceLeDiff, Nat.reduceBEq, reduceCtorEq, BEq.rfl, Int.reduceLT, Int.reduceLE, Int.reduceAdd, Int.reduceToNat, Int.reduceSub, Int.reduceMul, Int.reduceNeg, Int.reduceEq, *] | (with_reducible refine And.intro (by first | omega | assumption | rfl) ?_))
                all_goals ((first | refine Fin_v1 (by rfl) ?_ | refine Fin_vn (by intro h; cases h) ?_ | refine Fin_f1 (by rfl) ?_ | refine Fin_fn (by intro h; cases h) (fun _ => rfl) ?_ | refine Fin_u1 (by rfl) ?_ | refine Fin_un (by intro h; cases h) ?_); try simp +contextual -implicitDefEqProofs (disch := first | exact dsc _ | fail) only [go_sem, push_cast, ↓reduceIte, Nat.reduceEqDiff, Nat.reduceAdd, Nat.reduceMul, Nat.reduceSub, Nat.reduceLT, Nat.reduceLeDiff, Nat.reduceBEq, reduceCtorEq, BEq.rfl, Int.reduceLT, Int.reduceLE, Int.reduceAdd, Int.reduceToNat, Int.reduceSub, Int.reduceMul, Int.reduceNeg, Int.reduceEq, *])
              | false =>
                rw [if_neg (by decide)] at jdec
                repeat' (first | (with_reducible intro _) | (with_reducible refine wcond_not ?_) | ((with_reducible refine wcond_dec (fun _ => ?_) (fun _ => ?_)) <;> try (exfalso; omega)) | (with_reducible refine wcond_split (fun _ => ?_) (fun _ => ?_)) | (with_reducible refine draw_we [(false, []), (true, []), (false, []), (false, [10000, 1]), (false, [1]), (false, []), (false, []), (false, [])] (by kernel_rfl) (by decide +kernel) ?_) | simp +contextual -implicitDefEqProofs (disch := first | exact dsc _ | fail) only [go_sem, ↓reduceIte, Nat.reduceEqDiff, Nat.reduceAdd, Nat.reduceMul, Nat.reduceSub, Nat.reduceLT, Nat.reduceLeDiff, Nat.reduceBEq, reduceCtorEq, BEq.rfl, Int.reduceLT, Int.reduceLE, Int.reduceAdd, Int.reduceToNat, Int.reduceSub, Int.reduceMul, Int.reduceNeg, Int.reduceEq, *] | (with_reducible refine And.intro (by first | omega | assumption | rfl) ?_))
                rename_i r7 h7 r8 h8
                refine round_intro (some r8, ts ++ [(curB b a2 false).1], m - 1, (curB b a2 false).2.1, (curB b a2 false).2.2) ⟨jB, ?_, by show m - 1 < 4294967296; omega, ?_, jdec, by simp, ?_⟩ (by show m - 1 < m; omega) ?_
                · intro e
                  have := jB2 e
                  have := jd rfl
                  simp at *; omega
                · have := jd rfl
                  have := jB3 rfl
                  simp at *; omega
                · simp_all
                · simp +contextual -implicitDefEqProofs (disch := first | exact dsc _ | fail) only [go_sem, push_cast, ↓reduceIte, Nat.reduceEqDiff, Nat.reduceAdd, Nat.reduceMul, Nat.reduceSub, Nat.reduceLT, Nat.reduceLeDiff, Nat.reduceBEq, reduceCtorEq, BEq.rfl, Int.reduceLT, Int.reduceLE, Int.reduceAdd, Int.reduceToNat, Int.reduceSub, Int.reduceMul, Int.reduceNeg, Int.reduceEq, *]
                  all_goals first | omega | rfl | (refine ⟨by omega, ?_⟩; rw [List.map_append]; rfl) | (rw [List.map_append]; rfl)
      · obtain ⟨h3, h4, h5, h6⟩ := hr r rfl
        repeat' (first | (with_reducible intro _) | (with_reducible refine wcond_not ?_) | ((with_reducible refine wcond_dec (fun _ => ?_) (fun _ => ?_)) <;> try (exfalso; omega)) | (with_reducible refine wcond_split (fun _ => ?_) (fun _ => ?_)) | (with_reducible refine draw_we [(false, []), (true, []), (false, []), (false, [10000, 1]), (false, [1]), (false, []), (false, []), (false, [])] (by kernel_rfl) (by decide +kernel) ?_) | simp +contextual -implicitDefEqProofs (disch := first | exact dsc _ | fail) only [go_sem, ↓reduceIte, Nat.reduceEqDiff, Nat.reduceAdd, Nat.reduceMul, Nat.reduceSub, Nat.reduceLT, Nat.reduceLeDiff, Nat.reduceBEq, reduceCtorEq, BEq.rfl, Int.reduceLT, Int.reduceLE, Int.reduceAdd, Int.reduceToNat, Int.reduceSub, Int.reduceMul, Int.reduceNeg, Int.reduceEq, *] | (with_reducible refine And.intro (by first | omega | assumption | rfl) ?_))
        refine wloopW (α := Option Id × List (List UInt8) × Nat × Int × Bool) (fun p => ⟨[(2, .ptr r0 []), (3, .int .i64 0), (4, .ptr r1 []), (5, .ptr r2 []), (9, .int .i64 p.2.2.1)],
            match p.1 with
            | none => [(r1, .box (curA b p.2.2.2.1 p.2.2.2.2)), (r2, .box (.agg [.own r [] 23 0 vs.length vs.length, .nils])), (r0, .box (.agg [.nils, .nils])), (r, .row 57 23 (vs.map sgnA) 0)]
            | some rr => [(r1, .box (curA b p.2.2.2.1 p.2.2.2.2)), (r2, .box (.agg [.own r [] 23 0 vs.length vs.length, .own rr [] 1 0 p.2.1.length p.2.1.length])), (r0, .box (.agg [.nils, .nils])), (rr, .row 28 1 (p.2.1.map txtA) 0), (r, .row 57 23 (vs.map sgnA) 0)]⟩)
          (fun p => (0 ≤ p.2.2.2.1 ∧ p.2.2.2.1 ≤ b.length) ∧ (p.2.2.2.2 = false → (2 * p.2.1.length : Int) ≤ p.2.2.2.1) ∧ p.2.2.1 < 4294967296 ∧ (2 * p.2.1.length : Int) ≤ p.2.2.2.1 + 2 ∧ decT b vs p.2.2.1 p.2.1 p.2.2.2.1 p.2.2.2.2 = decW b ∧ (p.1 = none → p.2.1 = []) ∧ ∀ rr, p.1 = some rr → ((¬ rr = r0 ∧ ¬ r0 = rr) ∧ (¬ rr = r1 ∧ ¬ r1 = rr) ∧ (¬ rr = r2 ∧ ¬ r2 = rr) ∧ (¬ rr = r ∧ ¬ r = rr)) ∧ p.2.1 ≠ [])
          (fun p => p.2.2.1) (none, [], (curU b a 4 d).1.toNat, (curU b a 4 d).2.1, (curU b a 4 d).2.2) ?_ ?_ ?_
        · refine ⟨curU_at ha, ?_, curU_lt, ?_, hdec, fun _ => rfl, by simp⟩
          all_goals
            have := (curU_at (b := b) (a := a) (d := d) ha).1
            simp; omega
        · simp +contextual -implicitDefEqProofs (disch := first | exact dsc _ | fail) only [go_sem, push_cast, ↓reduceIte, Nat.reduceEqDiff, Nat.reduceAdd, Nat.reduceMul, Nat.reduceSub, Nat.reduceLT, Nat.reduceLeDiff, Nat.reduceBEq, reduceCtorEq, BEq.rfl, Int.reduceLT, Int.reduceLE, Int.reduceAdd, Int.reduceToNat, Int.reduceSub, Int.reduceMul, Int.reduceNeg, Int.reduceEq, *]
          all_goals exact curU_nat
        · rintro ⟨q, ts, m, a2, d2⟩ hC
          replace hC : (0 ≤ a2 ∧ a2 ≤ b.length) ∧ (d2 = false → (2 * ts.length : Int) ≤ a2) ∧ m < 4294967296 ∧ (2 * ts.length : Int) ≤ a2 + 2 ∧ decT b vs m ts a2 d2 = decW b ∧ (q = none → ts = []) ∧ ∀ rr, q = some rr → ((¬ rr = r0 ∧ ¬ r0 = rr) ∧ (¬ rr = r1 ∧ ¬ r1 = rr) ∧ (¬ rr = r2 ∧ ¬ r2 = rr) ∧ (¬ rr = r ∧ ¬ r = rr)) ∧ ts ≠ [] := hC
          obtain ⟨ja, jd, jm, jts, jdec, jo, jr⟩ := hC
          have jB := curB_at (d := d2) ja
          have jB2 : (curB b a2 d2).2.2 = false → (2 + a2) ≤ (curB b a2 d2).2.1 := by
            unfold curB; split
            · intro _; simp; omega
            · intro h; cases h
          have jB3 : d2 = false → a2 ≤ (curB b a2 d2).2.1 := by
            unfold curB; split
            · intro _; simp; omega
            · intro h; simp
          have jl2 : (0:Int) ≤ 2 * ts.length := by omega
          rcases q with _ | rr
          · have jo2 := jo rfl
            subst jo2
            clear jo jr
            by_cases hm0 : m = 0
            · subst hm0
              repeat' (first | (with_reducible intro _) | (with_reducible refine wcond_not ?_) | ((with_reducible refine wcond_dec (fun _ => ?_) (fun _ => ?_)) <;> try (exfalso; omega)) | (with_reducible refine wcond_split (fun _ => ?_) (fun _ => ?_)) | (with_reducible refine draw_we [(false, []), (true, []), (false, []), (false, [10000, 1]), (false, [1]), (false, []), (false, []), (false, [])] (by kernel_rfl) (by decide +kernel) ?_) | simp +contextual -implicitDefEqProofs (disch := first | exact dsc _ | fail) only [go_sem, ↓reduceIte, Nat.reduceEqDiff, Nat.reduceAdd, Nat.reduceMul, Nat.reduceSub, Nat.reduceLT, Nat.reduceLeDiff, Nat.reduceBEq, reduceCtorEq, BEq.rfl, Int.reduceLT, Int.reduceLE, Int.reduceAdd, Int.reduceToNat, Int.reduceSub, Int.reduceMul, Int.reduceNeg, Int.reduceEq, *] | (with_reducible refine And.intro (by first | omega | assumption | rfl) ?_))
              all_goals first
                | (have e : decW b = (⟨vs, []⟩, 0) := jdec.symm.trans (if_pos (by simp_all))
                   rw [e]
                   ((first | refine Fin_v1 (by rfl) ?_ | refine Fin_vn (by intro h; cases h) ?_ | refine Fin_f1 (by rfl) ?_ | refine Fin_fn (by intro h; cases h) (fun _ => rfl) ?_ | refine Fin_u1 (by rfl) ?_ | refine Fin_un (by intro h; cases h) ?_); try simp +contextual -implicitDefEqProofs (disch := first | exact dsc _ | fail) only [go_sem, push_cast, ↓reduceIte, Nat.reduceEqDiff, Nat.reduceAdd, Nat.reduceMul, Nat.reduceSub, Nat.reduceLT, Nat.reduceLeDiff, Nat.reduceBEq, reduceCtorEq, BEq.rfl, Int.reduceLT, Int.reduceLE, Int.reduceAdd, Int.reduceToNat, Int.reduceSub, Int.reduceMul, Int.reduceNeg, Int.reduceEq, *])
                   done)
                | (have e : decW b = (⟨[], []⟩, 4) := jdec.symm.trans (if_neg (by simp_all))
                   rw [e]
                   ((first | refine Fin_v1 (by rfl) ?_ | refine Fin_vn (by intro h; cases h) ?_ | refine Fin_f1 (by rfl) ?_ | refine Fin_fn (by intro h; cases h) (fun _ => rfl) ?_ | refine Fin_u1 (by rfl) ?_ | refine Fin_un (by intro h; cases h) ?_); try simp +contextual -implicitDefEqProofs (disch := first | exact dsc _ | fail) only [go_sem, push_cast, ↓reduceIte, Nat.reduceEqDiff, Nat.reduceAdd, Nat.reduceMul, Nat.reduceSub, Nat.reduceLT, Nat.reduceLeDiff, Nat.reduceBEq, reduceCtorEq, BEq.rfl, Int.reduceLT, Int.reduceLE, Int.reduceAdd, Int.reduceToNat, Int.reduceSub, Int.reduceMul, Int.reduceNeg, Int.reduceEq, *])
                   done)
            · have hmp : (0:Int) < (m : Int) := by omega
              have hst : decT b vs m [] a2 d2 = if d2 = true then (⟨[], []⟩, 4) else decT b vs (m - 1) ([] ++ [(curB b a2 d2).1]) (curB b a2 d2).2.1 (curB b a2 d2).2.2 := by
                obtain ⟨m', rfl⟩ : ∃ m', m = m' + 1 := ⟨m - 1, by omega⟩
                rfl
              rw [hst] at jdec
              clear hst
              cases d2 with
              | true =>
                rw [if_pos rfl] at jdec
                rw [← jdec]
                repeat' (first | (with_reducible intro _) | (with_reducible refine wcond_not ?_) | ((with_reducible refine wcond_dec (fun _ => ?_) (fun _ => ?_)) <;> try (exfalso; omega)) | (with_reducible refine wcond_split (fun _ => ?_) (fun _ => ?_)) | (with_reducible refine draw_we [(false, []), (true, []), (false, []), (false, [10000, 1]), (false, [1]), (false, []), (false, []), (false, [])] (by kernel_rfl) (by decide +kernel) ?_) | simp +contextual -implicitDefEqProofs (disch := first | exact dsc _ | fail) only [go_sem, ↓reduceIte, Nat.reduceEqDiff, Nat.reduceAdd, Nat.reduceMul, Nat.reduceSub, Nat.reduceLT, Nat.reduceLeDiff, Nat.reduceBEq, reduceCtorEq, BEq.rfl, Int.reduceLT, Int.reduceLE, Int.reduceAdd, Int.reduceToNat, Int.reduceSub, Int.reduceMul, Int.reduceNeg, Int.reduceEq, *] | (with_reducible refine And.intro (by first | omega | assumption | rfl) ?_))
                all_goals ((first | refine Fin_v1 (by rfl) ?_ | refine Fin_vn (by intro h; cases h) ?_ | refine Fin_f1 (by rfl) ?_ | refine Fin_fn (by intro h; cases h) (fun _ => rfl) ?_ | refine Fin_u1 (by rfl) ?_ | refine Fin_un (by intro h; cases h) ?_); try simp +contextual -implicitDefEqProofs (disch := first | exact dsc _ | fail) only [go_sem, push_cast, ↓reduceIte, Nat.reduceEqDiff, Nat.reduceAdd, Nat.reduceMul, Nat.reduceSub, Nat.reduceLT, Nat.reduceLeDiff, Nat.reduceBEq, reduceCtorEq, BEq.rfl, Int.reduceLT, Int.reduceLE, Int.reduceAdd, Int.reduceToNat, Int.reduceSub, Int.reduceMul, Int.reduceNeg, Int.reduceEq, *])
              | false =>
                rw [if_neg (by decide)] at jdec
                repeat' (first | (with_reducible intro _) | (with_reducible refine wcond_not ?_) | ((with_reducible refine wcond_dec (fun _ => ?_) (fun _ => ?_)) <;> try (exfalso; omega)) | (with_reducible refine wcond_split (fun _ => ?_) (fun _ => ?_)) | (with_reducible refine draw_we [(false, []), (true, []), (false, []), (false, [10000, 1]), (false, [1]), (false, []), (false, []), (false, [])] (by kernel_rfl) (by decide +kernel) ?_) | simp +contextual -implicitDefEqProofs (disch := first | exact dsc _ | fail) only [go_sem, ↓reduceIte, Nat.reduceEqDiff, Nat.reduceAdd, Nat.reduceMul, Nat.reduceSub, Nat.reduceLT, Nat.reduceLeDiff, Nat.reduceBEq, reduceCtorEq, BEq.rfl, Int.reduceLT, Int.reduceLE, Int.reduceAdd, Int.reduceToNat, Int.reduceSub, Int.reduceMul, Int.reduceNeg, Int.reduceEq, *] | (with_reducible refine And.intro (by first | omega | assumption | rfl) ?_))
                rename_i r7 h7 r8 h8
                refine round_intro (some r8, [] ++ [(curB b a2 false).1], m - 1, (curB b a2 false).2.1, (curB b a2 false).2.2) ⟨jB, ?_, by show m - 1 < 4294967296; omega, ?_, jdec, by simp, ?_⟩ (by show m - 1 < m; omega) ?_
                · intro e
                  have := jB2 e
                  have := jd rfl
                  simp at *; omega
                · have := jd rfl
                  have := jB3 rfl
                  simp at *; omega
                · simp_all
                · simp +contextual -implicitDefEqProofs (disch := first | exact dsc _ | fail) only [go_sem, push_cast, ↓reduceIte, Nat.reduceEqDiff, Nat.reduceAdd, Nat.reduceMul, Nat.reduceSub, Nat.reduceLT, Nat.reduceLeDiff, Nat.reduceBEq, reduceCtorEq, BEq.rfl, Int.reduceLT, Int.reduceLE, Int.reduceAdd, Int.reduceToNat, Int.reduceSub, Int.reduceMul, Int.reduceNeg, Int.reduceEq, *]
                  all_goals first | omega | rfl | (refine ⟨by omega, ?_⟩; rw [List.map_append]; rfl) | (rw [List.map_append]; rfl)
          · obtain ⟨⟨j1, j2, j3, j4⟩, j5⟩ := jr rr rfl
            clear jo jr
            by_cases hm0 : m = 0
            · subst hm0
              repeat' (first | (with_reducible intro _) | (with_reducible refine wcond_not ?_) | ((with_reducible refine wcond_dec (fun _ => ?_) (fun _ => ?_)) <;> try (exfalso; omega)) | (with_reducible refine wcond_split (fun _ => ?_) (fun _ => ?_)) | (with_reducible refine draw_we [(false, []), (true, []), (false, []), (false, [10000, 1]), (false, [1]), (false, []), (false, []), (false, [])] (by kernel_rfl) (by decide +kernel) ?_) | simp +contextual -implicitDefEqProofs (disch := first | exact dsc _ | fail) only [go_sem, ↓reduceIte, Nat.reduceEqDiff, Nat.reduceAdd, Nat.reduceMul, Nat.reduceSub, Nat.reduceLT, Nat.reduceLeDiff, Nat.reduceBEq, reduceCtorEq, BEq.rfl, Int.reduceLT, Int.reduceLE, Int.reduceAdd, Int.reduceToNat, Int.reduceSub, Int.reduceMul, Int.reduceNeg, Int.reduceEq, *] | (with_reducible refine And.intro (by first | omega | assumption | rfl) ?_))
              all_goals first
                | (have e : decW b = (⟨vs, ts⟩, 0) := jdec.symm.trans (if_pos (by simp_all))
                   rw [e]
                   ((first | refine Fin_v1 (by rfl) ?_ | refine Fin_vn (by intro h; cases h) ?_ | refine Fin_f1 (by rfl) ?_ | refine Fin_fn (by intro h; cases h) (fun _ => rfl) ?_ | refine Fin_u1 (by rfl) ?_ | refine Fin_un (by intro h; cases h) ?_); try simp +contextual -implicitDefEqProofs (disch := first | exact dsc _ | fail) only [go_sem, push_cast, ↓reduceIte, Nat.reduceEqDiff, Nat.reduceAdd, Nat.reduceMul, Nat.reduceSub, Nat.reduceLT, Nat.reduceLeDiff, Nat.reduceBEq, reduceCtorEq, BEq.rfl, Int.reduceLT, Int.reduceLE, Int.reduceAdd, Int.reduceToNat, Int.reduceSub, Int.reduceMul, Int.reduceNeg, Int.reduceEq, *])
                   done)
                | (have e : decW b = (⟨[], []⟩, 4) := jdec.symm.trans (if_neg (by simp_all))
                   rw [e]
                   ((first | refine Fin_v1 (by rfl) ?_ | refine Fin_vn (by intro h; cases h) ?_ | refine Fin_f1 (by rfl) ?_ | refine Fin_fn (by intro h; cases h) (fun _ => rfl) ?_ | refine Fin_u1 (by rfl) ?_ | refine Fin_un (by intro h; cases h) ?_); try simp +contextual -implicitDefEqProofs (disch := first | exact dsc _ | fail) only [go_sem, push_cast, ↓reduceIte, Nat.reduceEqDiff, Nat.reduceAdd, Nat.reduceMul, Nat.reduceSub, Nat.reduceLT, Nat.reduceLeDiff, Nat.reduceBEq, reduceCtorEq, BEq.rfl, Int.reduceLT, Int.reduceLE, Int.reduceAdd, Int.reduceToNat, Int.reduceSub, Int.reduceMul, Int.reduceNeg, Int.reduceEq, *])
                   done)
            · have hmp : (0:Int) < (m : Int) := by omega
              have hst : decT b vs m ts a2 d2 = if d2 = true then (⟨[], []⟩, 4) else decT b vs (m - 1) (ts ++ [(curB b a2 d2).1]) (curB b a2 d2).2.1 (curB b a2 d2).2.2 := by
                obtain ⟨m', rfl⟩ : ∃ m', m = m' + 1 := ⟨m - 1, by omega⟩
                rfl
              rw [hst] at jdec
              clear hst
              cases d2 with
              | true =>
                rw [if_pos rfl] at jdec
                rw [← jdec]
                repeat' (first | (with_reducible intro _) | (with_reducible refine wcond_not ?_) | ((with_reducible refine wcond_dec (fun _ => ?_) (fun _ => ?_)) <;> try (exfalso; omega)) | (with_reducible refine wcond_split (fun _ => ?_) (fun _ => ?_)) | (with_reducible refine draw_we [(false, []), (true, []), (false, []), (false, [10000, 1]), (false, [1]), (false, []), (false, []), (false, [])] (by kernel_rfl) (by decide +kernel) ?_) | simp +contextual -implicitDefEqProofs (disch := first | exact dsc _ | fail) only [go_sem, ↓reduceIte, Nat.reduceEqDiff, Nat.reduceAdd, Nat.reduceMul, Nat.reduceSub, Nat.reduceLT, Nat.reduceLeDiff, Nat.reduceBEq, reduceCtorEq, BEq.rfl, Int.reduceLT, Int.reduceLE, Int.reduceAdd, Int.reduceToNat, Int.reduceSub, Int.reduceMul, Int.reduceNeg, Int.reduceEq, *] | (with_reducible refine And.intro (by first | omega | assumption | rfl) ?_))
                all_goals ((first | refine Fin_v1 (by rfl) ?_ | refine Fin_vn (by intro h; cases h) ?_ | refine Fin_f1 (by rfl) ?_ | refine Fin_fn (by intro h; cases h) (fun _ => rfl) ?_ | refine Fin_u1 (by rfl) ?_ | refine Fin_un (by intro h; cases h) ?_); try simp +contextual -implicitDefEqProofs (disch := first | exact dsc _ | fail) only [go_sem, push_cast, ↓reduceIte, Nat.reduceEqDiff, Nat.reduceAdd, Nat.reduceMul, Nat.reduceSub, Nat.reduceLT, Nat.reduceLeDiff, Nat.reduceBEq, reduceCtorEq, BEq.rfl, Int.reduceLT, Int.reduceLE, Int.reduceAdd, Int.reduceToNat, Int.reduceSub, Int.reduceMul, Int.reduceNeg, Int.reduceEq, *])
              | false =>
                rw [if_neg (by decide)] at jdec
                repeat' (first | (with_reducible intro _) | (with_reducible refine wcond_not ?_) | ((with_reducible refine wcond_dec (fun _ => ?_) (fun _ => ?_)) <;> try (exfalso; omega)) | (with_reducible refine wcond_split (fun _ => ?_) (fun _ => ?_)) | (with_reducible refine draw_we [(false, []), (true, []), (false, []), (false, [10000, 1]), (false, [1]), (false, []), (false, []), (false, [])] (by kernel_rfl) (by decide +kernel) ?_) | simp +contextual -implicitDefEqProofs (disch := first | exact dsc _ | fail) only [go_sem, ↓reduceIte, Nat.reduceEqDiff, Nat.reduceAdd, Nat.reduceMul, Nat.reduceSub, Nat.reduceLT, Nat.reduceLeDiff, Nat.reduceBEq, reduceCtorEq, BEq.rfl, Int.reduceLT, Int.reduceLE, Int.reduceAdd, Int.reduceToNat, Int.reduceSub, Int.reduceMul, Int.reduceNeg, Int.reduceEq, *] | (with_reducible refine And.intro (by first | omega | assumption | rfl) ?_))
                rename_i r7 h7 r8 h8
                refine round_intro (some r8, ts ++ [(curB b a2 false).1], m - 1, (curB b a2 false).2.1, (curB b a2 false).2.2) ⟨jB, ?_, by show m - 1 < 4294967296; omega, ?_, jdec, by simp, ?_⟩ (by show m - 1 < m; omega) ?_
                · intro e
                  have := jB2 e
                  have := jd rfl
                  simp at *; omega
                · have := jd rfl
                  have := jB3 rfl
                  simp at *; omega
                · simp_all
                · simp +contextual -implicitDefEqProofs (disch := first | exact dsc _ | fail) only [go_sem, push_cast, ↓reduceIte, Nat.reduceEqDiff, Nat.reduceAdd, Nat.reduceMul, Nat.reduceSub, Nat.reduceLT, Nat.reduceLeDiff, Nat.reduceBEq, reduceCtorEq, BEq.rfl, Int.reduceLT, Int.reduceLE, Int.reduceAdd, Int.reduceToNat, Int.reduceSub, Int.reduceMul, Int.reduceNeg, Int.reduceEq, *]
                  all_goals first | omega | rfl | (refine ⟨by omega, ?_⟩; rw [List.map_append]; rfl) | (rw [List.map_append]; rfl)
    · have hd : d = false := by cases d with
        | false => rfl
        | true => exact absurd (hd rfl) hn0
      subst hd
      have hpos : (0 : Int) < (n : Int) := by omega
      have hF := curF_len (d := false) ha
      have hFa := curF_at (d := false) ha
      have hFo := curF_ok (b := b) (a := a) (d := false)
      have hstep : decVs b n vs a false = if (decS (curF b a 393 false).1).2 = 0 then decVs b (n - 1) (vs ++ [(decS (curF b a 393 false).1).1]) (curF b a 393 false).2.1 (curF b a 393 false).2.2 else (⟨[], []⟩, 4) := by
        obtain ⟨m, rfl⟩ : ∃ m, n = m + 1 := ⟨n - 1, by omega⟩
        rfl
      rw [hstep] at hdec
      clear hstep
      rcases o with _ | r
      · have hvs0 := ho rfl
        subst hvs0
        repeat' (first | (with_reducible intro _) | (with_reducible refine wcond_not ?_) | ((with_reducible refine wcond_dec (fun _ => ?_) (fun _ => ?_)) <;> try (exfalso; omega)) | (with_reducible refine wcond_split (fun _ => ?_) (fun _ => ?_)) | (with_reducible refine draw_we [(false, []), (true, []), (false, []), (false, [10000, 1]), (false, [1]), (false, []), (false, []), (false, [])] (by kernel_rfl) (by decide +kernel) ?_) | simp +contextual -implicitDefEqProofs (disch := first | exact dsc _ | fail) only [go_sem, ↓reduceIte, Nat.reduceEqDiff, Nat.reduceAdd, Nat.reduceMul, Nat.reduceSub, Nat.reduceLT, Nat.reduceLeDiff, Nat.reduceBEq, reduceCtorEq, BEq.rfl, Int.reduceLT, Int.reduceLE, Int.reduceAdd, Int.reduceToNat, Int.reduceSub, Int.reduceMul, Int.reduceNeg, Int.reduceEq, *] | (with_reducible refine And.intro (by first | omega | assumption | rfl) ?_))
        · rename_i r4 h4 h0 r5 h5 r6 h6
          have hfo := hFo h0
          rw [if_pos h0, hfo] at hdec
          rw [hfo]
          have hF3 : (393 : Int) + a = (curF b a 393 false).2.1 := by
            unfold curF at *; split at hfo
            · simp_all; omega
            · cases hfo
          refine round_intro (some r6, [] ++ [(decS (curF b a 393 false).1).1], n - 1, (curF b a 393 false).2.1, false) ⟨hFa, by simp, by show n - 1 < 4294967296; omega, by simp; omega, hdec, by simp, by simp_all⟩ (by show n - 1 < n; omega) ?_
          simp +contextual -implicitDefEqProofs (disch := first | exact dsc _ | fail) only [go_sem, push_cast, ↓reduceIte, Nat.reduceEqDiff, Nat.reduceAdd, Nat.reduceMul, Nat.reduceSub, Nat.reduceLT, Nat.reduceLeDiff, Nat.reduceBEq, reduceCtorEq, BEq.rfl, Int.reduceLT, Int.reduceLE, Int.reduceAdd, Int.reduceToNat, Int.reduceSub, Int.reduceMul, Int.reduceNeg, Int.reduceEq, *]
          all_goals first | omega | rfl | (refine ⟨by omega, ?_⟩; rw [List.map_append]; rfl) | (rw [List.map_append]; rfl)
        · have h0 : ¬ (decS (curF b a 393 false).1).2 = 0 := by assumption
          rw [if_neg h0] at hdec
          rw [← hdec]
          ((first | refine Fin_v1 (by rfl) ?_ | refine Fin_vn (by intro h; cases h) ?_ | refine Fin_f1 (by rfl) ?_ | refine Fin_fn (by intro h; cases h) (fun _ => rfl) ?_ | refine Fin_u1 (by rfl) ?_ | refine Fin_un (by intro h; cases h) ?_); try simp +contextual -implicitDefEqProofs (disch := first | exact dsc _ | fail) only [go_sem, push_cast, ↓reduceIte, Nat.reduceEqDiff, Nat.reduceAdd, Nat.reduceMul, Nat.reduceSub, Nat.reduceLT, Nat.reduceLeDiff, Nat.reduceBEq, reduceCtorEq, BEq.rfl, Int.reduceLT, Int.reduceLE, Int.reduceAdd, Int.reduceToNat, Int.reduceSub, Int.reduceMul, Int.reduceNeg, Int.reduceEq, *])
      · obtain ⟨h3, h4, h5, h6⟩ := hr r rfl
        repeat' (first | (with_reducible intro _) | (with_reducible refine wcond_not ?_) | ((with_reducible refine wcond_dec (fun _ => ?_) (fun _ => ?_)) <;> try (exfalso; omega)) | (with_reducible refine wcond_split (fun _ => ?_) (fun _ => ?_)) | (with_reducible refine draw_we [(false, []), (true, []), (false, []), (false, [10000, 1]), (false, [1]), (false, []), (false, []), (false, [])] (by kernel_rfl) (by decide +kernel) ?_) | simp +contextual -implicitDefEqProofs (disch := first | exact dsc _ | fail) only [go_sem, ↓reduceIte, Nat.reduceEqDiff, Nat.reduceAdd, Nat.reduceMul, Nat.reduceSub, Nat.reduceLT, Nat.reduceLeDiff, Nat.reduceBEq, reduceCtorEq, BEq.rfl, Int.reduceLT, Int.reduceLE, Int.reduceAdd, Int.reduceToNat, Int.reduceSub, Int.reduceMul, Int.reduceNeg, Int.reduceEq, *] | (with_reducible refine And.intro (by first | omega | assumption | rfl) ?_))
        · rename_i r4 h4 h0 r5 h5 r6 h6
          have hfo := hFo h0
          rw [if_pos h0, hfo] at hdec
          rw [hfo]
          have hF3 : (393 : Int) + a = (curF b a 393 false).2.1 := by
            unfold curF at *; split at hfo
            · simp_all; omega
            · cases hfo
          refine round_intro (some r6, vs ++ [(decS (curF b a 393 false).1).1], n - 1, (curF b a 393 false).2.1, false) ⟨hFa, by simp, by show n - 1 < 4294967296; omega, by simp; omega, hdec, by simp, by simp_all⟩ (by show n - 1 < n; omega) ?_
          simp +contextual -implicitDefEqProofs (disch := first | exact dsc _ | fail) only [go_sem, push_cast, ↓reduceIte, Nat.reduceEqDiff, Nat.reduceAdd, Nat.reduceMul, Nat.reduceSub, Nat.reduceLT, Nat.reduceLeDiff, Nat.reduceBEq, reduceCtorEq, BEq.rfl, Int.reduceLT, Int.reduceLE, Int.reduceAdd, Int.reduceToNat, Int.reduceSub, Int.reduceMul, Int.reduceNeg, Int.reduceEq, *]
          all_goals first | omega | rfl | (refine ⟨by omega, ?_⟩; rw [List.map_append]; rfl) | (rw [List.map_append]; rfl)
        · have h0 : ¬ (decS (curF b a 393 false).1).2 = 0 := by assumption
          rw [if_neg h0] at hdec
          rw [← hdec]
          ((first | refine Fin_v1 (by rfl) ?_ | refine Fin_vn (by intro h; cases h) ?_ | refine Fin_f1 (by rfl) ?_ | refine Fin_fn (by intro h; cases h) (fun _ => rfl) ?_ | refine Fin_u1 (by rfl) ?_ | refine Fin_un (by intro h; cases h) ?_); try simp +contextual -implicitDefEqProofs (disch := first | exact dsc _ | fail) only [go_sem, push_cast, ↓reduceIte, Nat.reduceEqDiff, Nat.reduceAdd, Nat.reduceMul, Nat.reduceSub, Nat.reduceLT, Nat.reduceLeDiff, Nat.reduceBEq, reduceCtorEq, BEq.rfl, Int.reduceLT, Int.reduceLE, Int.reduceAdd, Int.reduceToNat, Int.reduceSub, Int.reduceMul, Int.reduceNeg, Int.reduceEq, *])
def sp_snapshot_Decode (args : List AV) : RM CallSpec := match args with
  | [b] => (bysM b).bind fun l => mkS [.list (bys l)] [] (.val (.tup [viewA (decW l).1, .int .i64 (decW l).2])) false
  | _ => .fail
attribute [go_sem] sp_snapshot_Decode
theorem t_snapshot_Decode {b : List UInt8} (hb : b.length ≤ 1000000000) : FnG Tryz.prog 11 [.list (bys b)] [] (.val (.tup [viewA (decW b).1, .int .i64 (decW b).2])) = True := eq_true (snapDec_ok hb)
attribute [go_sem ↓] t_snapshot_Decode
end Go.Am.Tryz
set_option maxRecDepth 100000
set_option linter.unusedSimpArgs false
set_option linter.unusedVariables false
set_option pp.maxSteps 2000
set_option maxHeartbeats 4000000
namespace Go.Am.Tryz
open Go.Proofs
def sp_forkledgerref30_SameSigned (args : List AV) : RM CallSpec := match args with
  | [x0, x1] => (opt (sgnD x0)).bind fun a => (opt (sgnD x1)).bind fun b => pureS [sgnA a, sgnA b] (.bool (decide (a.vote = b.vote) && decide (a.sig = b.sig)))
  | _ => .fail
attribute [go_sem] sp_forkledgerref30_SameSigned
theorem t_forkledgerref30_SameSigned (a : Sgn) (b : Sgn)  : FnG Tryz.prog 41 [sgnA a, sgnA b] [] (.val (.bool (decide (a.vote = b.vote) && decide (a.sig = b.sig)))) = True := by
  refine eq_true ?_
  refine FnG_of_W (sp := spL []) (tb := tbOf Tryz.prog) (tbOf_ok _) (by kernel_rfl) Tryz.func41 (c := _) rfl (by kernel_rfl) (by kernel_rfl) (Nat.le_of_ble_eq_true rfl) (rs := [.tmp 4]) rfl ?_
  unfold FnW
  repeat' (first | (with_reducible intro _) | (with_reducible refine wcond_not ?_) | ((with_reducible refine wcond_dec (fun _ => ?_) (fun _ => ?_)) <;> try (exfalso; omega)) | (with_reducible refine wcond_split (fun _ => ?_) (fun _ => ?_)) | (with_reducible refine draw_ro (by kernel_rfl) ?_) | simp +contextual -implicitDefEqProofs (disch := first | exact dsc _ | fail) only [go_sem, ↓reduceIte, Nat.reduceEqDiff, Nat.reduceAdd, Nat.reduceMul, Nat.reduceSub, Nat.reduceLT, Nat.reduceLeDiff, Nat.reduceBEq, reduceCtorEq, BEq.rfl, Int.reduceLT, Int.reduceLE, Int.reduceAdd, Int.reduceToNat, Int.reduceSub, Int.reduceMul, Int.reduceNeg, Int.reduceEq, *] | (with_reducible refine And.intro (by first | omega | assumption | rfl) ?_))
  all_goals ((first | refine Fin_v1 (by rfl) ?_ | refine Fin_vn (by intro h; cases h) ?_ | refine Fin_f1 (by rfl) ?_ | refine Fin_fn (by intro h; cases h) (fun _ => rfl) ?_ | refine Fin_u1 (by rfl) ?_ | refine Fin_un (by intro h; cases h) ?_); try simp +contextual -implicitDefEqProofs (disch := first | exact dsc _ | fail) only [go_sem, push_cast, ↓reduceIte, Nat.reduceEqDiff, Nat.reduceAdd, Nat.reduceMul, Nat.reduceSub, Nat.reduceLT, Nat.reduceLeDiff, Nat.reduceBEq, reduceCtorEq, BEq.rfl, Int.reduceLT, Int.reduceLE, Int.reduceAdd, Int.reduceToNat, Int.reduceSub, Int.reduceMul, Int.reduceNeg, Int.reduceEq, *])
attribute [go_sem ↓] t_forkledgerref30_SameSigned
theorem take_snoc {α} {l : List α} {i : Nat} {x : α} (h : l[i]? = some x) : l.take (i + 1) = l.take i ++ [x] := by
  rw [List.take_add_one, h]; rfl
theorem take_ne {α} {l m : List α} {i : Nat} {x y : α} (h : l[i]? = some x) (h' : m[i]? = some y) (hn : x ≠ y) : l ≠ m := by
  rintro rfl; rw [h] at h'; exact hn (by simpa using h')
def sp_forkledgerref25_SameTexts (args : List AV) : RM CallSpec := match args with
  | [x0, x1] => (txtsM x0).bind fun a => (txtsM x1).bind fun b => pureS [.list (a.map txtA), .list (b.map txtA)] (.bool (decide (a = b)))
  | _ => .fail
attribute [go_sem] sp_forkledgerref25_SameTexts
theorem t_forkledgerref25_SameTexts (a : List (List UInt8)) (b : List (List UInt8)) (h1 : a.length ≤ 1000000000) (h2 : b.length ≤ 1000000000) : FnG Tryz.prog 42 [.list (a.map txtA), .list (b.map txtA)] [] (.val (.bool (decide (a = b)))) = True := by
  refine eq_true ?_
  refine FnG_of_W (sp := spL []) (tb := tbOf Tryz.prog) (tbOf_ok _) (by kernel_rfl) Tryz.func42 (c := _) rfl (by kernel_rfl) (by kernel_rfl) (Nat.le_of_ble_eq_true rfl) (rs := [.tmp 4]) rfl ?_
  unfold FnW
  by_cases hl : a.length = b.length
  · repeat' (first | (with_reducible intro _) | (with_reducible refine wcond_not ?_) | ((with_reducible refine wcond_dec (fun _ => ?_) (fun _ => ?_)) <;> try (exfalso; omega)) | (with_reducible refine wcond_split (fun _ => ?_) (fun _ => ?_)) | (with_reducible refine draw_ro (by kernel_rfl) ?_) | simp +contextual -implicitDefEqProofs (disch := first | exact dsc _ | fail) only [go_sem, ↓reduceIte, Nat.reduceEqDiff, Nat.reduceAdd, Nat.reduceMul, Nat.reduceSub, Nat.reduceLT, Nat.reduceLeDiff, Nat.reduceBEq, reduceCtorEq, BEq.rfl, Int.reduceLT, Int.reduceLE, Int.reduceAdd, Int.reduceToNat, Int.reduceSub, Int.reduceMul, Int.reduceNeg, Int.reduceEq, *] | (with_reducible refine And.intro (by first | omega | assumption | rfl) ?_))
    refine wloopW (α := Nat) (fun i => ⟨[(0, .list (a.map txtA)), (1, .list (b.map txtA)), (4, .bool false), (5, .int .i64 i)], []⟩) (fun i => i ≤ a.length ∧ a.take i = b.take i) (fun i => a.length - i) 0 ?_ ?_ ?_
    · simp
    · simp +contextual -implicitDefEqProofs (disch := first | exact dsc _ | fail) only [go_sem, push_cast, ↓reduceIte, Nat.reduceEqDiff, Nat.reduceAdd, Nat.reduceMul, Nat.reduceSub, Nat.reduceLT, Nat.reduceLeDiff, Nat.reduceBEq, reduceCtorEq, BEq.rfl, Int.reduceLT, Int.reduceLE, Int.reduceAdd, Int.reduceToNat, Int.reduceSub, Int.reduceMul, Int.reduceNeg, Int.reduceEq, *]
      all_goals rfl
    · rintro i ⟨hi, he⟩
      have hi : i ≤ a.length := hi
      have he : a.take i = b.take i := he
      by_cases hlt : i < a.length
      · obtain ⟨x, hx⟩ := get_lt hlt
        obtain ⟨y, hy⟩ := get_lt (l := b) (n := i) (by omega)
        repeat' (first | (with_reducible intro _) | (with_reducible refine wcond_not ?_) | ((with_reducible refine wcond_dec (fun _ => ?_) (fun _ => ?_)) <;> try (exfalso; omega)) | (with_reducible refine wcond_split (fun _ => ?_) (fun _ => ?_)) | (with_reducible refine draw_ro (by kernel_rfl) ?_) | simp +contextual -implicitDefEqProofs (disch := first | exact dsc _ | fail) only [go_sem, ↓reduceIte, Nat.reduceEqDiff, Nat.reduceAdd, Nat.reduceMul, Nat.reduceSub, Nat.reduceLT, Nat.reduceLeDiff, Nat.reduceBEq, reduceCtorEq, BEq.rfl, Int.reduceLT, Int.reduceLE, Int.reduceAdd, Int.reduceToNat, Int.reduceSub, Int.reduceMul, Int.reduceNeg, Int.reduceEq, *] | (with_reducible refine And.intro (by first | omega | assumption | rfl) ?_))
        · have hxy : x = y := by assumption
          refine round_intro (i + 1) ⟨by omega, by rw [take_snoc hx, take_snoc hy, he, hxy]⟩ (by show _ - (i + 1) < _ - i; omega) ?_
          simp +contextual -implicitDefEqProofs (disch := first | exact dsc _ | fail) only [go_sem, push_cast, ↓reduceIte, Nat.reduceEqDiff, Nat.reduceAdd, Nat.reduceMul, Nat.reduceSub, Nat.reduceLT, Nat.reduceLeDiff, Nat.reduceBEq, reduceCtorEq, BEq.rfl, Int.reduceLT, Int.reduceLE, Int.reduceAdd, Int.reduceToNat, Int.reduceSub, Int.reduceMul, Int.reduceNeg, Int.reduceEq, *]
          try omega
        · have hxy : ¬ x = y := by assumption
          have : ¬ a = b := take_ne hx hy hxy
          ((first | refine Fin_v1 (by rfl) ?_ | refine Fin_vn (by intro h; cases h) ?_ | refine Fin_f1 (by rfl) ?_ | refine Fin_fn (by intro h; cases h) (fun _ => rfl) ?_ | refine Fin_u1 (by rfl) ?_ | refine Fin_un (by intro h; cases h) ?_); try simp +contextual -implicitDefEqProofs (disch := first | exact dsc _ | fail) only [go_sem, push_cast, ↓reduceIte, Nat.reduceEqDiff, Nat.reduceAdd, Nat.reduceMul, Nat.reduceSub, Nat.reduceLT, Nat.reduceLeDiff, Nat.reduceBEq, reduceCtorEq, BEq.rfl, Int.reduceLT, Int.reduceLE, Int.reduceAdd, Int.reduceToNat, Int.reduceSub, Int.reduceMul, Int.reduceNeg, Int.reduceEq, *, this])
      · repeat' (first | (with_reducible intro _) | (with_reducible refine wcond_not ?_) | ((with_reducible refine wcond_dec (fun _ => ?_) (fun _ => ?_)) <;> try (exfalso; omega)) | (with_reducible refine wcond_split (fun _ => ?_) (fun _ => ?_)) | (with_reducible refine draw_ro (by kernel_rfl) ?_) | simp +contextual -implicitDefEqProofs (disch := first | exact dsc _ | fail) only [go_sem, ↓reduceIte, Nat.reduceEqDiff, Nat.reduceAdd, Nat.reduceMul, Nat.reduceSub, Nat.reduceLT, Nat.reduceLeDiff, Nat.reduceBEq, reduceCtorEq, BEq.rfl, Int.reduceLT, Int.reduceLE, Int.reduceAdd, Int.reduceToNat, Int.reduceSub, Int.reduceMul, Int.reduceNeg, Int.reduceEq, *] | (with_reducible refine And.intro (by first | omega | assumption | rfl) ?_))
        have : a = b := by
          rw [List.take_of_length_le (by omega), List.take_of_length_le (by omega)] at he; exact he
        ((first | refine Fin_v1 (by rfl) ?_ | refine Fin_vn (by intro h; cases h) ?_ | refine Fin_f1 (by rfl) ?_ | refine Fin_fn (by intro h; cases h) (fun _ => rfl) ?_ | refine Fin_u1 (by rfl) ?_ | refine Fin_un (by intro h; cases h) ?_); try simp +contextual -implicitDefEqProofs (disch := first | exact dsc _ | fail) only [go_sem, push_cast, ↓reduceIte, Nat.reduceEqDiff, Nat.reduceAdd, Nat.reduceMul, Nat.reduceSub, Nat.reduceLT, Nat.reduceLeDiff, Nat.reduceBEq, reduceCtorEq, BEq.rfl, Int.reduceLT, Int.reduceLE, Int.reduceAdd, Int.reduceToNat, Int.reduceSub, Int.reduceMul, Int.reduceNeg, Int.reduceEq, *, this])
  · repeat' (first | (with_reducible intro _) | (with_reducible refine wcond_not ?_) | ((with_reducible refine wcond_dec (fun _ => ?_) (fun _ => ?_)) <;> try (exfalso; omega)) | (with_reducible refine wcond_split (fun _ => ?_) (fun _ => ?_)) | (with_reducible refine draw_ro (by kernel_rfl) ?_) | simp +contextual -implicitDefEqProofs (disch := first | exact dsc _ | fail) only [go_sem, ↓reduceIte, Nat.reduceEqDiff, Nat.reduceAdd, Nat.reduceMul, Nat.reduceSub, Nat.reduceLT, Nat.reduceLeDiff, Nat.reduceBEq, reduceCtorEq, BEq.rfl, Int.reduceLT, Int.reduceLE, Int.reduceAdd, Int.reduceToNat, Int.reduceSub, Int.reduceMul, Int.reduceNeg, Int.reduceEq, *] | (with_reducible refine And.intro (by first | omega | assumption | rfl) ?_))
    ((first | refine Fin_v1 (by rfl) ?_ | refine Fin_vn (by intro h; cases h) ?_ | refine Fin_f1 (by rfl) ?_ | refine Fin_fn (by intro h; cases h) (fun _ => rfl) ?_ | refine Fin_u1 (by rfl) ?_ | refine Fin_un (by intro h; cases h) ?_); try simp +contextual -implicitDefEqProofs (disch := first | exact dsc _ | fail) only [go_sem, push_cast, ↓reduceIte, Nat.reduceEqDiff, Nat.reduceAdd, Nat.reduceMul, Nat.reduceSub, Nat.reduceLT, Nat.reduceLeDiff, Nat.reduceBEq, reduceCtorEq, BEq.rfl, Int.reduceLT, Int.reduceLE, Int.reduceAdd, Int.reduceToNat, Int.reduceSub, Int.reduceMul, Int.reduceNeg, Int.reduceEq, *])
    all_goals simp; rintro rfl; exact hl rfl
attribute [go_sem ↓] t_forkledgerref25_SameTexts
def sp_forkledgerref30_SameView (args : List AV) : RM CallSpec := match args with
  | [x0, x1] => (viewM x0).bind fun v => (viewM x1).bind fun w => pureS [viewA v, viewA w] (.bool (decide (v = w)))
  | _ => .fail
attribute [go_sem] sp_forkledgerref30_SameView
theorem t_forkledgerref30_SameView (v : View) (w : View) (h1 : v.votes.length ≤ 1000000000) (h2 : w.votes.length ≤ 1000000000) (h3 : v.texts.length ≤ 1000000000) (h4 : w.texts.length ≤ 1000000000) : FnG Tryz.prog 12 [viewA v, viewA w] [] (.val (.bool (decide (v = w)))) = True := by
  refine eq_true ?_
  refine FnG_of_W (sp := spL [(41, sp_forkledgerref30_SameSigned), (42, sp_forkledgerref25_SameTexts)]) (tb := tbOf Tryz.prog) (tbOf_ok _) (by kernel_rfl) Tryz.func12 (c := _) rfl (by kernel_rfl) (by kernel_rfl) (Nat.le_of_ble_eq_true rfl) (rs := [.tmp 4]) rfl ?_
  unfold FnW
  by_cases hl : v.votes.length = w.votes.length
  · repeat' (first | (with_reducible intro _) | (with_reducible refine wcond_not ?_) | ((with_reducible refine wcond_dec (fun _ => ?_) (fun _ => ?_)) <;> try (exfalso; omega)) | (with_reducible refine wcond_split (fun _ => ?_) (fun _ => ?_)) | (with_reducible refine draw_ro (by kernel_rfl) ?_) | simp +contextual -implicitDefEqProofs (disch := first | exact dsc _ | fail) only [go_sem, ↓reduceIte, Nat.reduceEqDiff, Nat.reduceAdd, Nat.reduceMul, Nat.reduceSub, Nat.reduceLT, Nat.reduceLeDiff, Nat.reduceBEq, reduceCtorEq, BEq.rfl, Int.reduceLT, Int.reduceLE, Int.reduceAdd, Int.reduceToNat, Int.reduceSub, Int.reduceMul, Int.reduceNeg, Int.reduceEq, *] | (with_reducible refine And.intro (by first | omega | assumption | rfl) ?_))
    rename_i r0 r1 h01
    refine wloopW (α := Nat) (fun i => ⟨[(2, .ptr r0 []), (3, .ptr r1 []), (4, .bool false), (5, .int .i64 i)], [(r0, .box (viewA v)), (r1, .box (viewA w))]⟩) (fun i => i ≤ v.votes.length ∧ v.votes.take i = w.votes.take i) (fun i => v.votes.length - i) 0 ?_ ?_ ?_
    · simp
    · simp +contextual -implicitDefEqProofs (disch := first | exact dsc _ | fail) only [go_sem, push_cast, ↓reduceIte, Nat.reduceEqDiff, Nat.reduceAdd, Nat.reduceMul, Nat.reduceSub, Nat.reduceLT, Nat.reduceLeDiff, Nat.reduceBEq, reduceCtorEq, BEq.rfl, Int.reduceLT, Int.reduceLE, Int.reduceAdd, Int.reduceToNat, Int.reduceSub, Int.reduceMul, Int.reduceNeg, Int.reduceEq, *]
      all_goals rfl
    · rintro i ⟨hi, he⟩
      have hi : i ≤ v.votes.length := hi
      have he : v.votes.take i = w.votes.take i := he
      by_cases hlt : i < v.votes.length
      · obtain ⟨x, hx⟩ := get_lt hlt
        obtain ⟨y, hy⟩ := get_lt (l := w.votes) (n := i) (by omega)
        repeat' (first | (with_reducible intro _) | (with_reducible refine wcond_not ?_) | ((with_reducible refine wcond_dec (fun _ => ?_) (fun _ => ?_)) <;> try (exfalso; omega)) | (with_reducible refine wcond_split (fun _ => ?_) (fun _ => ?_)) | (with_reducible refine draw_ro (by kernel_rfl) ?_) | simp +contextual -implicitDefEqProofs (disch := first | exact dsc _ | fail) only [go_sem, ↓reduceIte, Nat.reduceEqDiff, Nat.reduceAdd, Nat.reduceMul, Nat.reduceSub, Nat.reduceLT, Nat.reduceLeDiff, Nat.reduceBEq, reduceCtorEq, BEq.rfl, Int.reduceLT, Int.reduceLE, Int.reduceAdd, Int.reduceToNat, Int.reduceSub, Int.reduceMul, Int.reduceNeg, Int.reduceEq, *] | (with_reducible refine And.intro (by first | omega | assumption | rfl) ?_))
        · have hxy : x = y := by cases x; cases y; simp_all
          refine round_intro (i + 1) ⟨by omega, by rw [take_snoc hx, take_snoc hy, he, hxy]⟩ (by show _ - (i + 1) < _ - i; omega) ?_
          simp +contextual -implicitDefEqProofs (disch := first | exact dsc _ | fail) only [go_sem, push_cast, ↓reduceIte, Nat.reduceEqDiff, Nat.reduceAdd, Nat.reduceMul, Nat.reduceSub, Nat.reduceLT, Nat.reduceLeDiff, Nat.reduceBEq, reduceCtorEq, BEq.rfl, Int.reduceLT, Int.reduceLE, Int.reduceAdd, Int.reduceToNat, Int.reduceSub, Int.reduceMul, Int.reduceNeg, Int.reduceEq, *]
          try omega
        · have hxy : ¬ x = y := by rintro rfl; simp_all
          have : ¬ v = w := by
            rintro rfl
            exact take_ne hx hy hxy rfl
          ((first | refine Fin_v1 (by rfl) ?_ | refine Fin_vn (by intro h; cases h) ?_ | refine Fin_f1 (by rfl) ?_ | refine Fin_fn (by intro h; cases h) (fun _ => rfl) ?_ | refine Fin_u1 (by rfl) ?_ | refine Fin_un (by intro h; cases h) ?_); try simp +contextual -implicitDefEqProofs (disch := first | exact dsc _ | fail) only [go_sem, push_cast, ↓reduceIte, Nat.reduceEqDiff, Nat.reduceAdd, Nat.reduceMul, Nat.reduceSub, Nat.reduceLT, Nat.reduceLeDiff, Nat.reduceBEq, reduceCtorEq, BEq.rfl, Int.reduceLT, Int.reduceLE, Int.reduceAdd, Int.reduceToNat, Int.reduceSub, Int.reduceMul, Int.reduceNeg, Int.reduceEq, *, this])
      · have hvv : v.votes = w.votes := by
          rw [List.take_of_length_le (by omega), List.take_of_length_le (by omega)] at he; exact he
        repeat' (first | (with_reducible intro _) | (with_reducible refine wcond_not ?_) | ((with_reducible refine wcond_dec (fun _ => ?_) (fun _ => ?_)) <;> try (exfalso; omega)) | (with_reducible refine wcond_split (fun _ => ?_) (fun _ => ?_)) | (with_reducible refine draw_ro (by kernel_rfl) ?_) | simp +contextual -implicitDefEqProofs (disch := first | exact dsc _ | fail) only [go_sem, ↓reduceIte, Nat.reduceEqDiff, Nat.reduceAdd, Nat.reduceMul, Nat.reduceSub, Nat.reduceLT, Nat.reduceLeDiff, Nat.reduceBEq, reduceCtorEq, BEq.rfl, Int.reduceLT, Int.reduceLE, Int.reduceAdd, Int.reduceToNat, Int.reduceSub, Int.reduceMul, Int.reduceNeg, Int.reduceEq, *] | (with_reducible refine And.intro (by first | omega | assumption | rfl) ?_))
        have : decide (v = w) = decide (v.texts = w.texts) := by
          cases v; cases w; simp_all
        rw [this]
        ((first | refine Fin_v1 (by rfl) ?_ | refine Fin_vn (by intro h; cases h) ?_ | refine Fin_f1 (by rfl) ?_ | refine Fin_fn (by intro h; cases h) (fun _ => rfl) ?_ | refine Fin_u1 (by rfl) ?_ | refine Fin_un (by intro h; cases h) ?_); try simp +contextual -implicitDefEqProofs (disch := first | exact dsc _ | fail) only [go_sem, push_cast, ↓reduceIte, Nat.reduceEqDiff, Nat.reduceAdd, Nat.reduceMul, Nat.reduceSub, Nat.reduceLT, Nat.reduceLeDiff, Nat.reduceBEq, reduceCtorEq, BEq.rfl, Int.reduceLT, Int.reduceLE, Int.reduceAdd, Int.reduceToNat, Int.reduceSub, Int.reduceMul, Int.reduceNeg, Int.reduceEq, *])
  · repeat' (first | (with_reducible intro _) | (with_reducible refine wcond_not ?_) | ((with_reducible refine wcond_dec (fun _ => ?_) (fun _ => ?_)) <;> try (exfalso; omega)) | (with_reducible refine wcond_split (fun _ => ?_) (fun _ => ?_)) | (with_reducible refine draw_ro (by kernel_rfl) ?_) | simp +contextual -implicitDefEqProofs (disch := first | exact dsc _ | fail) only [go_sem, ↓reduceIte, Nat.reduceEqDiff, Nat.reduceAdd, Nat.reduceMul, Nat.reduceSub, Nat.reduceLT, Nat.reduceLeDiff, Nat.reduceBEq, reduceCtorEq, BEq.rfl, Int.reduceLT, Int.reduceLE, Int.reduceAdd, Int.reduceToNat, Int.reduceSub, Int.reduceMul, Int.reduceNeg, Int.reduceEq, *] | (with_reducible refine And.intro (by first | omega | assumption | rfl) ?_))
    ((first | refine Fin_v1 (by rfl) ?_ | refine Fin_vn (by intro h; cases h) ?_ | refine Fin_f1 (by rfl) ?_ | refine Fin_fn (by intro h; cases h) (fun _ => rfl) ?_ | refine Fin_u1 (by rfl) ?_ | refine Fin_un (by intro h; cases h) ?_); try simp +contextual -implicitDefEqProofs (disch := first | exact dsc _ | fail) only [go_sem, push_cast, ↓reduceIte, Nat.reduceEqDiff, Nat.reduceAdd, Nat.reduceMul, Nat.reduceSub, Nat.reduceLT, Nat.reduceLeDiff, Nat.reduceBEq, reduceCtorEq, BEq.rfl, Int.reduceLT, Int.reduceLE, Int.reduceAdd, Int.reduceToNat, Int.reduceSub, Int.reduceMul, Int.reduceNeg, Int.reduceEq, *])
    all_goals simp; rintro rfl; exact hl rfl
attribute [go_sem ↓] t_forkledgerref30_SameView
def heavyG {α : Type} (f : α → Nat) : List α → Nat → Nat
  | [], n => n
  | x :: xs, n => if n ≤ 200 then heavyG f xs (n + f x) else n
def hvS (s : Sgn) : Nat := min s.sig.length 100000 / 400
def hvT (t : List UInt8) : Nat := min t.length 1000000 / 1000
def heavyN (v : View) : Nat := heavyG hvT v.texts (heavyG hvS v.votes (v.votes.length + v.texts.length))
theorem heavyG_end {α : Type} {f : α → Nat} {l : List α} {i n : Nat} (h : ¬ (i < l.length ∧ n ≤ 200)) : heavyG f (l.drop i) n = n := by
  by_cases h1 : i < l.length
  · have h2 : ¬ n ≤ 200 := fun e => h ⟨h1, e⟩
    rw [List.drop_eq_getElem_cons h1]
    show (if n ≤ 200 then _ else n) = n
    rw [if_neg h2]
  · rw [List.drop_of_length_le (by omega)]; rfl
theorem heavyG_step {α : Type} {f : α → Nat} {l : List α} {i n : Nat} {x : α} (h : l[i]? = some x) (hn : n ≤ 200) : heavyG f (l.drop i) n = heavyG f (l.drop (i + 1)) (n + f x) := by
  obtain ⟨h1, rfl⟩ := List.getElem?_eq_some_iff.1 h
  rw [List.drop_eq_getElem_cons h1]
  show (if n ≤ 200 then _ else n) = _
  rw [if_pos hn]
theorem heavyG_ge {α : Type} {f : α → Nat} : ∀ {l : List α} {n : Nat}, n ≤ heavyG f l n
  | [], n => Nat.le_refl _
  | x :: xs, n => by
    show n ≤ if n ≤ 200 then heavyG f xs (n + f x) else n
    split
    · exact Nat.le_trans (Nat.le_add_right _ _) heavyG_ge
    · exact Nat.le_refl _
theorem heavyG_mem {α : Type} {f : α → Nat} : ∀ {l : List α} {n : Nat}, heavyG f l n ≤ 200 → ∀ x, x ∈ l → f x ≤ 200
  | [], n => fun _ x hx => by cases hx
  | y :: xs, n => fun h x hx => by
    have h' : (if n ≤ 200 then heavyG f xs (n + f y) else n) ≤ 200 := h
    split at h'
    · cases hx with
      | head => exact Nat.le_trans (Nat.le_trans (Nat.le_add_left _ _) heavyG_ge) h'
      | tail _ hm => exact heavyG_mem h' x hm
    · contradiction
theorem heavy_small {v : View} (h : heavyN v ≤ 200) : v.votes.length ≤ 200 ∧ v.texts.length ≤ 200 ∧ (∀ s, s ∈ v.votes → s.sig.length ≤ 100000) ∧ ∀ t, t ∈ v.texts → t.length ≤ 300000 := by
  have h1 : heavyG hvS v.votes (v.votes.length + v.texts.length) ≤ 200 := Nat.le_trans heavyG_ge h
  have h2 : v.votes.length + v.texts.length ≤ 200 := Nat.le_trans heavyG_ge h1
  refine ⟨by omega, by omega, fun s hs => ?_, fun t ht => ?_⟩
  · have := heavyG_mem h1 s hs
    unfold hvS at this; omega
  · have := heavyG_mem h t ht
    unfold hvT at this; omega
theorem hv_quo (a m k : Nat) : (if (m : Int) < (a : Int) then (m : Int) else (a : Int)).tdiv (k : Int) = ((min a m / k : Nat) : Int) := by
  rw [Int.tdiv_eq_ediv_of_nonneg (by split <;> omega), Int.natCast_ediv]
  congr 1
  split <;> omega
def sp_forkledgerlaw32_heavy (args : List AV) : RM CallSpec := match args with
  | [x0] => (viewM x0).bind fun v => pureS [viewA v] (.bool (decide (200 < heavyN v)))
  | _ => .fail
attribute [go_sem] sp_forkledgerlaw32_heavy
theorem t_forkledgerlaw32_heavy (v : View) (h1 : v.votes.length ≤ 281474976710656) (h3 : v.texts.length ≤ 281474976710656) : FnG Tryz.prog 7 [viewA v] [] (.val (.bool (decide (200 < heavyN v)))) = True := by
  refine eq_true ?_
  refine FnG_of_W (sp := spL []) (tb := tbOf Tryz.prog) (tbOf_ok _) (by kernel_rfl) Tryz.func7 (c := _) rfl (by kernel_rfl) (by kernel_rfl) (Nat.le_of_ble_eq_true rfl) (rs := [.tmp 2]) rfl ?_
  unfold FnW
  repeat' (first | (with_reducible intro _) | (with_reducible refine wcond_not ?_) | ((with_reducible refine wcond_dec (fun _ => ?_) (fun _ => ?_)) <;> try (exfalso; omega)) | (with_reducible refine wcond_split (fun _ => ?_) (fun _ => ?_)) | (with_reducible refine draw_ro (by kernel_rfl) ?_) | simp +contextual -implicitDefEqProofs (disch := first | exact dsc _ | fail) only [go_sem, ↓reduceIte, Nat.reduceEqDiff, Nat.reduceAdd, Nat.reduceMul, Nat.reduceSub, Nat.reduceLT, Nat.reduceLeDiff, Nat.reduceBEq, reduceCtorEq, BEq.rfl, Int.reduceLT, Int.reduceLE, Int.reduceAdd, Int.reduceToNat, Int.reduceSub, Int.reduceMul, Int.reduceNeg, Int.reduceEq, *] | (with_reducible refine And.intro (by first | omega | assumption | rfl) ?_))
  rename_i r0
  refine wloopW (α := Nat × Nat) (fun p => ⟨[(1, .ptr r0 []), (2, .bool false), (3, .int .i64 p.2), (4, .int .i64 p.1)], [(r0, .box (viewA v))]⟩) (fun p => p.1 ≤ v.votes.length ∧ p.2 ≤ 1000000000000000 ∧ heavyG hvT v.texts (heavyG hvS (v.votes.drop p.1) p.2) = heavyN v) (fun p => v.votes.length - p.1) (0, v.votes.length + v.texts.length) ?_ ?_ ?_
  · refine ⟨Nat.zero_le _, by show v.votes.length + v.texts.length ≤ _; omega, rfl⟩
  · simp +contextual -implicitDefEqProofs (disch := first | exact dsc _ | fail) only [go_sem, push_cast, ↓reduceIte, Nat.reduceEqDiff, Nat.reduceAdd, Nat.reduceMul, Nat.reduceSub, Nat.reduceLT, Nat.reduceLeDiff, Nat.reduceBEq, reduceCtorEq, BEq.rfl, Int.reduceLT, Int.reduceLE, Int.reduceAdd, Int.reduceToNat, Int.reduceSub, Int.reduceMul, Int.reduceNeg, Int.reduceEq, *]
    all_goals simp
  · rintro ⟨i, n⟩ hC
    replace hC : i ≤ v.votes.length ∧ n ≤ 1000000000000000 ∧ heavyG hvT v.texts (heavyG hvS (v.votes.drop i) n) = heavyN v := hC
    obtain ⟨hi, hn, he⟩ := hC
    by_cases hlt : i < v.votes.length ∧ n ≤ 200
    · obtain ⟨hl1, hl2⟩ := hlt
      obtain ⟨x, hx⟩ := get_lt hl1
      rw [heavyG_step hx hl2] at he
      have hb : (if (100000 : Int) < (x.sig.length : Int) then (100000 : Int) else (x.sig.length : Int)).tdiv 400 = (hvS x : Int) := hv_quo x.sig.length 100000 400
      have hb2 : hvS x ≤ 250 := by unfold hvS; omega
      have hl2' : (n : Int) ≤ 200 := by omega
      have hl1' : (i : Int) < (v.votes.length : Int) := by omega
      repeat' (first | (with_reducible intro _) | (with_reducible refine wcond_not ?_) | ((with_reducible refine wcond_dec (fun _ => ?_) (fun _ => ?_)) <;> try (exfalso; omega)) | (with_reducible refine wcond_split (fun _ => ?_) (fun _ => ?_)) | (with_reducible refine draw_ro (by kernel_rfl) ?_) | simp +contextual -implicitDefEqProofs (disch := first | exact dsc _ | fail) only [go_sem, ↓reduceIte, Nat.reduceEqDiff, Nat.reduceAdd, Nat.reduceMul, Nat.reduceSub, Nat.reduceLT, Nat.reduceLeDiff, Nat.reduceBEq, reduceCtorEq, BEq.rfl, Int.reduceLT, Int.reduceLE, Int.reduceAdd, Int.reduceToNat, Int.reduceSub, Int.reduceMul, Int.reduceNeg, Int.reduceEq, *] | (with_reducible refine And.intro (by first | omega | assumption | rfl) ?_))
      all_goals
        refine round_intro (i + 1, n + hvS x) ⟨by omega, by show n + hvS x ≤ 1000000000000000; omega, he⟩ (by show v.votes.length - (i + 1) < v.votes.length - i; omega) ?_
        simp +contextual -implicitDefEqProofs (disch := first | exact dsc _ | fail) only [go_sem, push_cast, ↓reduceIte, Nat.reduceEqDiff, Nat.reduceAdd, Nat.reduceMul, Nat.reduceSub, Nat.reduceLT, Nat.reduceLeDiff, Nat.reduceBEq, reduceCtorEq, BEq.rfl, Int.reduceLT, Int.reduceLE, Int.reduceAdd, Int.reduceToNat, Int.reduceSub, Int.reduceMul, Int.reduceNeg, Int.reduceEq, *]
        all_goals omega
    · rw [heavyG_end hlt] at he
      have hlt : ((i : Int) < (v.votes.length : Int) ∧ ¬ (n : Int) ≤ 200) ∨ ¬ (i : Int) < (v.votes.length : Int) := by omega
      clear hi
      rcases hlt with ⟨hl1, hl2⟩ | hl1
      all_goals repeat' (first | (with_reducible intro _) | (with_reducible refine wcond_not ?_) | ((with_reducible refine wcond_dec (fun _ => ?_) (fun _ => ?_)) <;> try (exfalso; omega)) | (with_reducible refine wcond_split (fun _ => ?_) (fun _ => ?_)) | (with_reducible refine draw_ro (by kernel_rfl) ?_) | simp +contextual -implicitDefEqProofs (disch := first | exact dsc _ | fail) only [go_sem, ↓reduceIte, Nat.reduceEqDiff, Nat.reduceAdd, Nat.reduceMul, Nat.reduceSub, Nat.reduceLT, Nat.reduceLeDiff, Nat.reduceBEq, reduceCtorEq, BEq.rfl, Int.reduceLT, Int.reduceLE, Int.reduceAdd, Int.reduceToNat, Int.reduceSub, Int.reduceMul, Int.reduceNeg, Int.reduceEq, *] | (with_reducible refine And.intro (by first | omega | assumption | rfl) ?_))
      all_goals refine wloopW (α := Nat × Nat) (fun p => ⟨[(1, .ptr r0 []), (2, .bool false), (3, .int .i64 p.2), (5, .int .i64 p.1)], [(r0, .box (viewA v))]⟩) (fun p => p.1 ≤ v.texts.length ∧ p.2 ≤ 2000000000000000 ∧ heavyG hvT (v.texts.drop p.1) p.2 = heavyN v) (fun p => v.texts.length - p.1) (0, n) ?_ ?_ ?_
      all_goals first
        | exact ⟨Nat.zero_le _, by show n ≤ _; omega, he⟩
        | (simp +contextual -implicitDefEqProofs (disch := first | exact dsc _ | fail) only [go_sem, push_cast, ↓reduceIte, Nat.reduceEqDiff, Nat.reduceAdd, Nat.reduceMul, Nat.reduceSub, Nat.reduceLT, Nat.reduceLeDiff, Nat.reduceBEq, reduceCtorEq, BEq.rfl, Int.reduceLT, Int.reduceLE, Int.reduceAdd, Int.reduceToNat, Int.reduceSub, Int.reduceMul, Int.reduceNeg, Int.reduceEq, *]; all_goals simp; done)
        | skip
      all_goals
        rintro ⟨j, m⟩ hC
        replace hC : j ≤ v.texts.length ∧ m ≤ 2000000000000000 ∧ heavyG hvT (v.texts.drop j) m = heavyN v := hC
        obtain ⟨hj, hm, he2⟩ := hC
        by_cases hlt2 : j < v.texts.length ∧ m ≤ 200
        · obtain ⟨hl3, hl4⟩ := hlt2
          obtain ⟨x, hx⟩ := get_lt hl3
          rw [heavyG_step hx hl4] at he2
          have hb : (if (1000000 : Int) < (x.length : Int) then (1000000 : Int) else (x.length : Int)).tdiv 1000 = (hvT x : Int) := hv_quo x.length 1000000 1000
          have hb2 : hvT x ≤ 1000 := by unfold hvT; omega
          have hl4' : (m : Int) ≤ 200 := by omega
          have hl3' : (j : Int) < (v.texts.length : Int) := by omega
          repeat' (first | (with_reducible intro _) | (with_reducible refine wcond_not ?_) | ((with_reducible refine wcond_dec (fun _ => ?_) (fun _ => ?_)) <;> try (exfalso; omega)) | (with_reducible refine wcond_split (fun _ => ?_) (fun _ => ?_)) | (with_reducible refine draw_ro (by kernel_rfl) ?_) | simp +contextual -implicitDefEqProofs (disch := first | exact dsc _ | fail) only [go_sem, ↓reduceIte, Nat.reduceEqDiff, Nat.reduceAdd, Nat.reduceMul, Nat.reduceSub, Nat.reduceLT, Nat.reduceLeDiff, Nat.reduceBEq, reduceCtorEq, BEq.rfl, Int.reduceLT, Int.reduceLE, Int.reduceAdd, Int.reduceToNat, Int.reduceSub, Int.reduceMul, Int.reduceNeg, Int.reduceEq, *] | (with_reducible refine And.intro (by first | omega | assumption | rfl) ?_))
          all_goals
            refine round_intro (j + 1, m + hvT x) ⟨by omega, by show m + hvT x ≤ 2000000000000000; omega, he2⟩ (by show v.texts.length - (j + 1) < v.texts.length - j; omega) ?_
            simp +contextual -implicitDefEqProofs (disch := first | exact dsc _ | fail) only [go_sem, push_cast, ↓reduceIte, Nat.reduceEqDiff, Nat.reduceAdd, Nat.reduceMul, Nat.reduceSub, Nat.reduceLT, Nat.reduceLeDiff, Nat.reduceBEq, reduceCtorEq, BEq.rfl, Int.reduceLT, Int.reduceLE, Int.reduceAdd, Int.reduceToNat, Int.reduceSub, Int.reduceMul, Int.reduceNeg, Int.reduceEq, *]
            all_goals omega
        · rw [heavyG_end hlt2] at he2
          have hlt2 : ((j : Int) < (v.texts.length : Int) ∧ ¬ (m : Int) ≤ 200) ∨ ¬ (j : Int) < (v.texts.length : Int) := by omega
          rcases hlt2 with ⟨hl3, hl4⟩ | hl3
          all_goals repeat' (first | (with_reducible intro _) | (with_reducible refine wcond_not ?_) | ((with_reducible refine wcond_dec (fun _ => ?_) (fun _ => ?_)) <;> try (exfalso; omega)) | (with_reducible refine wcond_split (fun _ => ?_) (fun _ => ?_)) | (with_reducible refine draw_ro (by kernel_rfl) ?_) | simp +contextual -implicitDefEqProofs (disch := first | exact dsc _ | fail) only [go_sem, ↓reduceIte, Nat.reduceEqDiff, Nat.reduceAdd, Nat.reduceMul, Nat.reduceSub, Nat.reduceLT, Nat.reduceLeDiff, Nat.reduceBEq, reduceCtorEq, BEq.rfl, Int.reduceLT, Int.reduceLE, Int.reduceAdd, Int.reduceToNat, Int.reduceSub, Int.reduceMul, Int.reduceNeg, Int.reduceEq, *] | (with_reducible refine And.intro (by first | omega | assumption | rfl) ?_))
          all_goals
            have hee : decide (200 < heavyN v) = decide ((200:Int) < (m:Int)) := by rw [← he2]; apply decide_eq_decide.2; omega
            rw [hee]
            ((first | refine Fin_v1 (by rfl) ?_ | refine Fin_vn (by intro h; cases h) ?_ | refine Fin_f1 (by rfl) ?_ | refine Fin_fn (by intro h; cases h) (fun _ => rfl) ?_ | refine Fin_u1 (by rfl) ?_ | refine Fin_un (by intro h; cases h) ?_); try simp +contextual -implicitDefEqProofs (disch := first | exact dsc _ | fail) only [go_sem, push_cast, ↓reduceIte, Nat.reduceEqDiff, Nat.reduceAdd, Nat.reduceMul, Nat.reduceSub, Nat.reduceLT, Nat.reduceLeDiff, Nat.reduceBEq, reduceCtorEq, BEq.rfl, Int.reduceLT, Int.reduceLE, Int.reduceAdd, Int.reduceToNat, Int.reduceSub, Int.reduceMul, Int.reduceNeg, Int.reduceEq, *])
attribute [go_sem ↓] t_forkledgerlaw32_heavy
end Go.Am.Tryz
set_option maxRecDepth 100000
set_option linter.unusedSimpArgs false
set_option linter.unusedVariables false
set_option pp.maxSteps 2000
set_option maxHeartbeats 4000000
namespace Go.Am.Tryz
open Go.Proofs
theorem decT_bad {b : List UInt8} {vs : List Sgn} {m : Nat} {ts : List (List UInt8)} {a : Int} : decT b vs m ts a true = (⟨[], []⟩, 4) := by
  cases m with
  | zero => exact if_neg (by simp)
  | succ m => exact if_pos rfl
theorem decT_long {b : List UInt8} {vs : List Sgn} : ∀ {m : Nat} {ts : List (List UInt8)} {a : Int} {d : Bool}, a ≤ b.length → (b.length : Int) - a < 2 * m → decT b vs m ts a d = (⟨[], []⟩, 4)
  | 0, ts, a, d, h1, h2 => by omega
  | m + 1, ts, a, true, h1, h2 => decT_bad
  | m + 1, ts, a, false, h1, h2 => by
    show decT b vs m (ts ++ [(curB b a false).1]) (curB b a false).2.1 (curB b a false).2.2 = _
    by_cases h : bytesOk b a = true
    · have e : curB b a false = (bytesV b a, a + 2 + uintV b a 2, false) := by simp [curB, h]
      have hb := bytesOk_iff.1 h
      rw [e]
      exact decT_long (by show a + 2 + (uintV b a 2 : Int) ≤ _; omega) (by show (b.length : Int) - (a + 2 + uintV b a 2) < _; omega)
    · have e : curB b a false = ([], a, true) := by simp [curB, h]
      rw [e]
      exact decT_bad
theorem curF_of_ok {b : List UInt8} {a : Int} (h : (decS (curF b a 393 false).1).2 = 0) : curF b a 393 false = (seg b a 393, a + 393, false) ∧ a + 393 ≤ b.length := by
  unfold curF at *; split at h
  · rename_i h'
    rw [if_pos h']; exact ⟨rfl, by omega⟩
  · simp [decS_nil] at h
theorem decVs_long {b : List UInt8} : ∀ {n : Nat} {vs : List Sgn} {a : Int}, a ≤ b.length → (b.length : Int) - a < 393 * n → decVs b n vs a false = (⟨[], []⟩, 4)
  | 0, vs, a, h1, h2 => by omega
  | n + 1, vs, a, h1, h2 => by
    show (if (decS (curF b a 393 false).1).2 = 0 then decVs b n (vs ++ [(decS (curF b a 393 false).1).1]) (curF b a 393 false).2.1 (curF b a 393 false).2.2 else (⟨[], []⟩, 4)) = _
    by_cases h : (decS (curF b a 393 false).1).2 = 0
    · rw [if_pos h]
      obtain ⟨e, h3⟩ := curF_of_ok h
      rw [e]
      exact decVs_long h3 (by show (b.length : Int) - (a + 393) < _; omega)
    · rw [if_neg h]
theorem decV_ok {l : List UInt8} (h : (decV l).2 = 0) : validV (decV l).1 = true := by
  unfold decV at *
  split at h
  · cases h
  · split at h
    · cases h
    · split at h
      · rename_i h1 h2 h3
        simp [h1, h2, h3]
      · cases h
theorem decS_okS {l : List UInt8} (h : (decS l).2 = 0) : okS (decS l).1 = true ∧ (decS l).1.sig.length = 370 := by
  have e : decS l = (⟨(decV (l.take 23)).1, l.drop 23⟩, 0) ∧ l.length = 393 ∧ (decV (l.take 23)).2 = 0 := by
    unfold decS at *
    split at h
    · cases h
    · split at h
      · cases h
      · split at h
        · rename_i h1 h2 h3
          exact ⟨by simp [h1, h2, h3], by omega, h3⟩
        · contradiction
  obtain ⟨e, h1, h2⟩ := e
  rw [e]
  have h3 := decV_ok h2
  simp [okS, h3, h1]
theorem decW_start {b : List UInt8} (h : uintOk b 0 4 = true) : decW b = decVs b (uintV b 0 4) [] 4 false := by
  have e : curU b 0 4 false = ((uintV b 0 4 : Int), 4, false) := by simp [curU, h]
  rw [decW, e]; rfl
theorem decW_nostart {b : List UInt8} (h : uintOk b 0 4 = false) : decW b = (⟨[], []⟩, 4) := by
  have e : curU b 0 4 false = (0, 0, true) := by simp [curU, h]
  have e' : curU b 0 4 true = (0, 0, true) := by simp [curU]
  rw [decW, e]
  show decT b [] (curU b 0 4 true).1.toNat [] (curU b 0 4 true).2.1 (curU b 0 4 true).2.2 = _
  rw [e']; exact decT_bad
theorem decVs_start {b : List UInt8} {vs : List Sgn} {a : Int} (h : uintOk b a 4 = true) : decVs b 0 vs a false = decT b vs (uintV b a 4) [] (a + 4) false := by
  have e : curU b a 4 false = ((uintV b a 4 : Int), a + 4, false) := by simp [curU, h]
  show decT b vs (curU b a 4 false).1.toNat [] (curU b a 4 false).2.1 (curU b a 4 false).2.2 = _
  rw [e]; rfl
theorem decVs_nostart {b : List UInt8} {vs : List Sgn} {a : Int} (h : uintOk b a 4 = false) : decVs b 0 vs a false = (⟨[], []⟩, 4) := by
  have e : curU b a 4 false = (0, a, true) := by simp [curU, h]
  show decT b vs (curU b a 4 false).1.toNat [] (curU b a 4 false).2.1 (curU b a 4 false).2.2 = _
  rw [e]; exact decT_bad
theorem decView_ok {b : List UInt8} (hb : b.length ≤ 1000000) : FnG Tryz.prog 13 [.list (bys b)] [] (.val (.tup [viewA (decW b).1, .int .i64 (decW b).2])) := by
  refine FnG_of_W (sp := spL [(43, sp_forkledgerref1_Uint), (44, sp_forkledgerref6_DecodeSigned), (45, sp_forkledgerref1_Bytes), (10, sp_forkledgerref30_EncodeView)]) (tb := tbOf Tryz.prog) (tbOf_ok _) (by kernel_rfl) Tryz.func13 (c := _) rfl (by kernel_rfl) (by kernel_rfl) (Nat.le_of_ble_eq_true rfl) (rs := [.cell 2 25, .tmp 3]) rfl ?_
  unfold FnW
  have hv := uintV4 b 0
  cases hu : uintOk b 0 4 with
  | false =>
    have hde := decW_nostart hu
    rw [hde]
    repeat' (first | (with_reducible intro _) | (with_reducible refine wcond_not ?_) | ((with_reducible refine wcond_dec (fun _ => ?_) (fun _ => ?_)) <;> try (exfalso; omega)) | (with_reducible refine wcond_split (fun _ => ?_) (fun _ => ?_)) | (with_reducible refine draw_ro (by kernel_rfl) ?_) | simp +contextual -implicitDefEqProofs (disch := first | exact dsc _ | fail) only [go_sem, ↓reduceIte, Nat.reduceEqDiff, Nat.reduceAdd, Nat.reduceMul, Nat.reduceSub, Nat.reduceLT, Nat.reduceLeDiff, Nat.reduceBEq, reduceCtorEq, BEq.rfl, Int.reduceLT, Int.reduceLE, Int.reduceAdd, Int.reduceToNat, Int.reduceSub, Int.reduceMul, Int.reduceNeg, Int.reduceEq, *] | (with_reducible refine And.intro (by first | omega | assumption | rfl) ?_))
    all_goals ((first | refine Fin_v1 (by rfl) ?_ | refine Fin_vn (by intro h; cases h) ?_ | refine Fin_f1 (by rfl) ?_ | refine Fin_fn (by intro h; cases h) (fun _ => rfl) ?_ | refine Fin_u1 (by rfl) ?_ | refine Fin_un (by intro h; cases h) ?_); try simp +contextual -implicitDefEqProofs (disch := first | exact dsc _ | fail) only [go_sem, push_cast, ↓reduceIte, Nat.reduceEqDiff, Nat.reduceAdd, Nat.reduceMul, Nat.reduceSub, Nat.reduceLT, Nat.reduceLeDiff, Nat.reduceBEq, reduceCtorEq, BEq.rfl, Int.reduceLT, Int.reduceLE, Int.reduceAdd, Int.reduceToNat, Int.reduceSub, Int.reduceMul, Int.reduceNeg, Int.reduceEq, *])
  | true =>
    have hs := decW_start hu
    have hu' := uintOk_iff.1 hu
    have hq : ((b.length : Int) - 4).tdiv 393 = ((b.length - 4) / 393 : Nat) := by
      rw [Int.tdiv_eq_ediv_of_nonneg (by omega)]; omega
    by_cases hlong : b.length - 4 < 393 * uintV b 0 4
    · have hde := decVs_long (b := b) (n := uintV b 0 4) (vs := []) (a := 4) (by omega) (by omega)
      rw [hs, hde]
      have hgt : (((b.length - 4) / 393 : Nat) : Int) < (uintV b 0 4 : Int) := by omega
      clear hs hde
      repeat' (first | (with_reducible intro _) | (with_reducible refine wcond_not ?_) | ((with_reducible refine wcond_dec (fun _ => ?_) (fun _ => ?_)) <;> try (exfalso; omega)) | (with_reducible refine wcond_split (fun _ => ?_) (fun _ => ?_)) | (with_reducible refine draw_ro (by kernel_rfl) ?_) | simp +contextual -implicitDefEqProofs (disch := first | exact dsc _ | fail) only [go_sem, ↓reduceIte, Nat.reduceEqDiff, Nat.reduceAdd, Nat.reduceMul, Nat.reduceSub, Nat.reduceLT, Nat.reduceLeDiff, Nat.reduceBEq, reduceCtorEq, BEq.rfl, Int.reduceLT, Int.reduceLE, Int.reduceAdd, Int.reduceToNat, Int.reduceSub, Int.reduceMul, Int.reduceNeg, Int.reduceEq, *] | (with_reducible refine And.intro (by first | omega | assumption | rfl) ?_))
      all_goals ((first | refine Fin_v1 (by rfl) ?_ | refine Fin_vn (by intro h; cases h) ?_ | refine Fin_f1 (by rfl) ?_ | refine Fin_fn (by intro h; cases h) (fun _ => rfl) ?_ | refine Fin_u1 (by rfl) ?_ | refine Fin_un (by intro h; cases h) ?_); try simp +contextual -implicitDefEqProofs (disch := first | exact dsc _ | fail) only [go_sem, push_cast, ↓reduceIte, Nat.reduceEqDiff, Nat.reduceAdd, Nat.reduceMul, Nat.reduceSub, Nat.reduceLT, Nat.reduceLeDiff, Nat.reduceBEq, reduceCtorEq, BEq.rfl, Int.reduceLT, Int.reduceLE, Int.reduceAdd, Int.reduceToNat, Int.reduceSub, Int.reduceMul, Int.reduceNeg, Int.reduceEq, *])
    · have hgt : ¬ (((b.length - 4) / 393 : Nat) : Int) < (uintV b 0 4 : Int) := by omega
      replace hs := hs.symm
      generalize hN : uintV b 0 4 = N at *
      repeat' (first | (with_reducible intro _) | (with_reducible refine wcond_not ?_) | ((with_reducible refine wcond_dec (fun _ => ?_) (fun _ => ?_)) <;> try (exfalso; omega)) | (with_reducible refine wcond_split (fun _ => ?_) (fun _ => ?_)) | (with_reducible refine draw_ro (by kernel_rfl) ?_) | simp +contextual -implicitDefEqProofs (disch := first | exact dsc _ | fail) only [go_sem, ↓reduceIte, Nat.reduceEqDiff, Nat.reduceAdd, Nat.reduceMul, Nat.reduceSub, Nat.reduceLT, Nat.reduceLeDiff, Nat.reduceBEq, reduceCtorEq, BEq.rfl, Int.reduceLT, Int.reduceLE, Int.reduceAdd, Int.reduceToNat, Int.reduceSub, Int.reduceMul, Int.reduceNeg, Int.reduceEq, *] | (with_reducible refine And.intro (by first | omega | assumption | rfl) ?_))
      rename_i r0 r1 h01
      refine wloopW (α := Option Id × List Sgn × Nat) (fun p => ⟨[(0, .list (bys b)), (2, .ptr r0 []), (3, .int .i64 0), (4, .ptr r1 []), (5, .int .u64 N), (7, .int .i64 (4 + 393 * p.2.2)), (8, .int .i64 p.2.2)],
          match p.1 with
          | none => [(r1, .box (.agg [.nils, .nils])), (r0, .box (.agg [.nils, .nils]))]
          | some r => [(r1, .box (.agg [.own r [] 23 0 p.2.1.length p.2.1.length, .nils])), (r0, .box (.agg [.nils, .nils])), (r, .row 57 23 (p.2.1.map sgnA) 0)]⟩)
        (fun p => p.2.2 ≤ N ∧ p.2.1.length = p.2.2 ∧ decVs b (N - p.2.2) p.2.1 (4 + 393 * p.2.2) false = decW b ∧ (∀ s, s ∈ p.2.1 → okS s = true ∧ s.sig.length = 370) ∧ (p.1 = none → p.2.1 = []) ∧ ∀ r, p.1 = some r → (¬ r = r0 ∧ ¬ r0 = r) ∧ (¬ r = r1 ∧ ¬ r1 = r) ∧ p.2.1 ≠ [])
        (fun p => N - p.2.2) (none, [], 0) ?_ ?_ ?_
      · exact ⟨Nat.zero_le _, rfl, hs, by simp, fun _ => rfl, by simp⟩
      · simp +contextual -implicitDefEqProofs (disch := first | exact dsc _ | fail) only [go_sem, push_cast, ↓reduceIte, Nat.reduceEqDiff, Nat.reduceAdd, Nat.reduceMul, Nat.reduceSub, Nat.reduceLT, Nat.reduceLeDiff, Nat.reduceBEq, reduceCtorEq, BEq.rfl, Int.reduceLT, Int.reduceLE, Int.reduceAdd, Int.reduceToNat, Int.reduceSub, Int.reduceMul, Int.reduceNeg, Int.reduceEq, *]
        all_goals first | rfl | simp
      · rintro ⟨o, vs, i⟩ hC
        replace hC : i ≤ N ∧ vs.length = i ∧ decVs b (N - i) vs (4 + 393 * i) false = decW b ∧ (∀ s, s ∈ vs → okS s = true ∧ s.sig.length = 370) ∧ (o = none → vs = []) ∧ ∀ r, o = some r → (¬ r = r0 ∧ ¬ r0 = r) ∧ (¬ r = r1 ∧ ¬ r1 = r) ∧ vs ≠ [] := hC
        obtain ⟨hi, hvl, hdec, hok, ho, hr⟩ := hC
        by_cases hlt : i < N
        · have hst : decVs b (N - i) vs (4 + 393 * i) false = if (decS (seg b (4 + 393 * i) 393)).2 = 0 then decVs b (N - (i + 1)) (vs ++ [(decS (seg b (4 + 393 * i) 393)).1]) (4 + 393 * i + 393) false else (⟨[], []⟩, 4) := by
            have e : curF b (4 + 393 * i) 393 false = (seg b (4 + 393 * (i : Int)) 393, 4 + 393 * (i : Int) + 393, false) := if_pos ⟨rfl, by omega⟩
            obtain ⟨m, hm⟩ : ∃ m, N - i = m + 1 := ⟨N - i - 1, by omega⟩
            have hm' : N - (i + 1) = m := by omega
            rw [hm, hm']
            show (if (decS (curF b (4 + 393 * i) 393 false).1).2 = 0 then decVs b m (vs ++ [(decS (curF b (4 + 393 * i) 393 false).1).1]) (curF b (4 + 393 * i) 393 false).2.1 (curF b (4 + 393 * i) 393 false).2.2 else (⟨[], []⟩, 4)) = _
            rw [e]
          rw [hst] at hdec
          clear hst
          have hsl : List.take ((4 + 393 * (i : Int) + 393).toNat - (4 + 393 * (i : Int)).toNat) (List.drop (4 + 393 * (i : Int)).toNat b) = seg b (4 + 393 * i) 393 := by
            rw [seg]; congr 1; omega
          have hsn : (seg b (4 + 393 * i) 393).length = 393 := by rw [seg_len (by omega) (by omega) (by omega) (by omega)]; rfl
          have hlt' : (i : Int) < (N : Int) := by omega
          rcases o with _ | r
          · have hvs0 := ho rfl
            subst hvs0
            repeat' (first | (with_reducible intro _) | (with_reducible refine wcond_not ?_) | ((with_reducible refine wcond_dec (fun _ => ?_) (fun _ => ?_)) <;> try (exfalso; omega)) | (with_reducible refine wcond_split (fun _ => ?_) (fun _ => ?_)) | (with_reducible refine draw_ro (by kernel_rfl) ?_) | simp +contextual -implicitDefEqProofs (disch := first | exact dsc _ | fail) only [go_sem, ↓reduceIte, Nat.reduceEqDiff, Nat.reduceAdd, Nat.reduceMul, Nat.reduceSub, Nat.reduceLT, Nat.reduceLeDiff, Nat.reduceBEq, reduceCtorEq, BEq.rfl, Int.reduceLT, Int.reduceLE, Int.reduceAdd, Int.reduceToNat, Int.reduceSub, Int.reduceMul, Int.reduceNeg, Int.reduceEq, *, hsl, sp_signed_Decode] | (with_reducible refine And.intro (by first | omega | assumption | rfl) ?_))
            · rename_i r4 h4 r5 h5 r6 h6
              have h0 : (decS (seg b (4 + 393 * (i : Int)) 393)).2 = 0 := by assumption
              rw [if_pos h0] at hdec
              have hok2 := decS_okS h0
              refine round_intro (some r6, [] ++ [(decS (seg b (4 + 393 * i) 393)).1], i + 1) ⟨hlt, by rw [List.length_append, hvl]; rfl, ?_, ?_, by simp, by simp_all⟩ (by show N - (i + 1) < N - i; omega) ?_
              · rw [← hdec]
                congr 1 <;> omega
              · intro s hs
                rcases List.mem_append.1 hs with h | h
                · exact hok s h
                · simp at h; rw [h]; exact hok2
              · simp +contextual -implicitDefEqProofs (disch := first | exact dsc _ | fail) only [go_sem, push_cast, ↓reduceIte, Nat.reduceEqDiff, Nat.reduceAdd, Nat.reduceMul, Nat.reduceSub, Nat.reduceLT, Nat.reduceLeDiff, Nat.reduceBEq, reduceCtorEq, BEq.rfl, Int.reduceLT, Int.reduceLE, Int.reduceAdd, Int.reduceToNat, Int.reduceSub, Int.reduceMul, Int.reduceNeg, Int.reduceEq, *]
                repeat' (first | (apply And.intro) | rfl | omega | exact hvl.symm | (rw [List.map_append]; rfl))
            · have h0 : ¬ (decS (seg b (4 + 393 * (i : Int)) 393)).2 = 0 := by assumption
              rw [if_neg h0] at hdec
              rw [← hdec]
              ((first | refine Fin_v1 (by rfl) ?_ | refine Fin_vn (by intro h; cases h) ?_ | refine Fin_f1 (by rfl) ?_ | refine Fin_fn (by intro h; cases h) (fun _ => rfl) ?_ | refine Fin_u1 (by rfl) ?_ | refine Fin_un (by intro h; cases h) ?_); try simp +contextual -implicitDefEqProofs (disch := first | exact dsc _ | fail) only [go_sem, push_cast, ↓reduceIte, Nat.reduceEqDiff, Nat.reduceAdd, Nat.reduceMul, Nat.reduceSub, Nat.reduceLT, Nat.reduceLeDiff, Nat.reduceBEq, reduceCtorEq, BEq.rfl, Int.reduceLT, Int.reduceLE, Int.reduceAdd, Int.reduceToNat, Int.reduceSub, Int.reduceMul, Int.reduceNeg, Int.reduceEq, *])
          · obtain ⟨h3, h4, h5⟩ := hr r rfl
            repeat' (first | (with_reducible intro _) | (with_reducible refine wcond_not ?_) | ((with_reducible refine wcond_dec (fun _ => ?_) (fun _ => ?_)) <;> try (exfalso; omega)) | (with_reducible refine wcond_split (fun _ => ?_) (fun _ => ?_)) | (with_reducible refine draw_ro (by kernel_rfl) ?_) | simp +contextual -implicitDefEqProofs (disch := first | exact dsc _ | fail) only [go_sem, ↓reduceIte, Nat.reduceEqDiff, Nat.reduceAdd, Nat.reduceMul, Nat.reduceSub, Nat.reduceLT, Nat.reduceLeDiff, Nat.reduceBEq, reduceCtorEq, BEq.rfl, Int.reduceLT, Int.reduceLE, Int.reduceAdd, Int.reduceToNat, Int.reduceSub, Int.reduceMul, Int.reduceNeg, Int.reduceEq, *, hsl, sp_signed_Decode] | (with_reducible refine And.intro (by first | omega | assumption | rfl) ?_))
            · rename_i r4 h4 r5 h5 r6 h6
              have h0 : (decS (seg b (4 + 393 * (i : Int)) 393)).2 = 0 := by assumption
              rw [if_pos h0] at hdec
              have hok2 := decS_okS h0
              refine round_intro (some r6, vs ++ [(decS (seg b (4 + 393 * i) 393)).1], i + 1) ⟨hlt, by rw [List.length_append, hvl]; rfl, ?_, ?_, by simp, by simp_all⟩ (by show N - (i + 1) < N - i; omega) ?_
              · rw [← hdec]
                congr 1 <;> omega
              · intro s hs
                rcases List.mem_append.1 hs with h | h
                · exact hok s h
                · simp at h; rw [h]; exact hok2
              · simp +contextual -implicitDefEqProofs (disch := first | exact dsc _ | fail) only [go_sem, push_cast, ↓reduceIte, Nat.reduceEqDiff, Nat.reduceAdd, Nat.reduceMul, Nat.reduceSub, Nat.reduceLT, Nat.reduceLeDiff, Nat.reduceBEq, reduceCtorEq, BEq.rfl, Int.reduceLT, Int.reduceLE, Int.reduceAdd, Int.reduceToNat, Int.reduceSub, Int.reduceMul, Int.reduceNeg, Int.reduceEq, *]
                repeat' (first | (apply And.intro) | rfl | omega | exact hvl.symm | (rw [List.map_append]; rfl))
            · have h0 : ¬ (decS (seg b (4 + 393 * (i : Int)) 393)).2 = 0 := by assumption
              rw [if_neg h0] at hdec
              rw [← hdec]
              ((first | refine Fin_v1 (by rfl) ?_ | refine Fin_vn (by intro h; cases h) ?_ | refine Fin_f1 (by rfl) ?_ | refine Fin_fn (by intro h; cases h) (fun _ => rfl) ?_ | refine Fin_u1 (by rfl) ?_ | refine Fin_un (by intro h; cases h) ?_); try simp +contextual -implicitDefEqProofs (disch := first | exact dsc _ | fail) only [go_sem, push_cast, ↓reduceIte, Nat.reduceEqDiff, Nat.reduceAdd, Nat.reduceMul, Nat.reduceSub, Nat.reduceLT, Nat.reduceLeDiff, Nat.reduceBEq, reduceCtorEq, BEq.rfl, Int.reduceLT, Int.reduceLE, Int.reduceAdd, Int.reduceToNat, Int.reduceSub, Int.reduceMul, Int.reduceNeg, Int.reduceEq, *])
        · have hin : i = N := by omega
          subst hin
          rw [Nat.sub_self] at hdec
          have hv2 := uintV4 b (4 + 393 * i)
          cases hu2 : uintOk b (4 + 393 * i) 4 with
          | false =>
            rw [decVs_nostart hu2] at hdec
            rw [← hdec]
            rcases o with _ | r
            · repeat' (first | (with_reducible intro _) | (with_reducible refine wcond_not ?_) | ((with_reducible refine wcond_dec (fun _ => ?_) (fun _ => ?_)) <;> try (exfalso; omega)) | (with_reducible refine wcond_split (fun _ => ?_) (fun _ => ?_)) | (with_reducible refine draw_ro (by kernel_rfl) ?_) | simp +contextual -implicitDefEqProofs (disch := first | exact dsc _ | fail) only [go_sem, ↓reduceIte, Nat.reduceEqDiff, Nat.reduceAdd, Nat.reduceMul, Nat.reduceSub, Nat.reduceLT, Nat.reduceLeDiff, Nat.reduceBEq, reduceCtorEq, BEq.rfl, Int.reduceLT, Int.reduceLE, Int.reduceAdd, Int.reduceToNat, Int.reduceSub, Int.reduceMul, Int.reduceNeg, Int.reduceEq, *] | (with_reducible refine And.intro (by first | omega | assumption | rfl) ?_))
              all_goals ((first | refine Fin_v1 (by rfl) ?_ | refine Fin_vn (by intro h; cases h) ?_ | refine Fin_f1 (by rfl) ?_ | refine Fin_fn (by intro h; cases h) (fun _ => rfl) ?_ | refine Fin_u1 (by rfl) ?_ | refine Fin_un (by intro h; cases h) ?_); try simp +contextual -implicitDefEqProofs (disch := first | exact dsc _ | fail) only [go_sem, push_cast, ↓reduceIte, Nat.reduceEqDiff, Nat.reduceAdd, Nat.reduceMul, Nat.reduceSub, Nat.reduceLT, Nat.reduceLeDiff, Nat.reduceBEq, reduceCtorEq, BEq.rfl, Int.reduceLT, Int.reduceLE, Int.reduceAdd, Int.reduceToNat, Int.reduceSub, Int.reduceMul, Int.reduceNeg, Int.reduceEq, *])
            · obtain ⟨h3, h4, h5⟩ := hr r rfl
              repeat' (first | (with_reducible intro _) | (with_reducible refine wcond_not ?_) | ((with_reducible refine wcond_dec (fun _ => ?_) (fun _ => ?_)) <;> try (exfalso; omega)) | (with_reducible refine wcond_split (fun _ => ?_) (fun _ => ?_)) | (with_reducible refine draw_ro (by kernel_rfl) ?_) | simp +contextual -implicitDefEqProofs (disch := first | exact dsc _ | fail) only [go_sem, ↓reduceIte, Nat.reduceEqDiff, Nat.reduceAdd, Nat.reduceMul, Nat.reduceSub, Nat.reduceLT, Nat.reduceLeDiff, Nat.reduceBEq, reduceCtorEq, BEq.rfl, Int.reduceLT, Int.reduceLE, Int.reduceAdd, Int.reduceToNat, Int.reduceSub, Int.reduceMul, Int.reduceNeg, Int.reduceEq, *] | (with_reducible refine And.intro (by first | omega | assumption | rfl) ?_))
              all_goals ((first | refine Fin_v1 (by rfl) ?_ | refine Fin_vn (by intro h; cases h) ?_ | refine Fin_f1 (by rfl) ?_ | refine Fin_fn (by intro h; cases h) (fun _ => rfl) ?_ | refine Fin_u1 (by rfl) ?_ | refine Fin_un (by intro h; cases h) ?_); try simp +contextual -implicitDefEqProofs (disch := first | exact dsc _ | fail) only [go_sem, push_cast, ↓reduceIte, Nat.reduceEqDiff, Nat.reduceAdd, Nat.reduceMul, Nat.reduceSub, Nat.reduceLT, Nat.reduceLeDiff, Nat.reduceBEq, reduceCtorEq, BEq.rfl, Int.reduceLT, Int.reduceLE, Int.reduceAdd, Int.reduceToNat, Int.reduceSub, Int.reduceMul, Int.reduceNeg, Int.reduceEq, *])
          | true =>
            rw [decVs_start hu2] at hdec
            have hu2' := uintOk_iff.1 hu2
            have hq2 : ((b.length : Int) - (4 + 393 * i) - 4).tdiv 2 = ((b.length - (4 + 393 * i) - 4) / 2 : Nat) := by
              rw [Int.tdiv_eq_ediv_of_nonneg (by omega)]; omega
            by_cases hlong : b.length - (4 + 393 * i) - 4 < 2 * uintV b (4 + 393 * i) 4
            · have hde := decT_long (b := b) (m := uintV b (4 + 393 * i) 4) (vs := vs) (ts := []) (a := 4 + 393 * i + 4) (d := false) (by omega) (by omega)
              rw [hde] at hdec
              rw [← hdec]
              have hgt2 : (((b.length - (4 + 393 * i) - 4) / 2 : Nat) : Int) < (uintV b (4 + 393 * i) 4 : Int) := by omega
              clear hde
              rcases o with _ | r
              · repeat' (first | (with_reducible intro _) | (with_reducible refine wcond_not ?_) | ((with_reducible refine wcond_dec (fun _ => ?_) (fun _ => ?_)) <;> try (exfalso; omega)) | (with_reducible refine wcond_split (fun _ => ?_) (fun _ => ?_)) | (with_reducible refine draw_ro (by kernel_rfl) ?_) | simp +contextual -implicitDefEqProofs (disch := first | exact dsc _ | fail) only [go_sem, ↓reduceIte, Nat.reduceEqDiff, Nat.reduceAdd, Nat.reduceMul, Nat.reduceSub, Nat.reduceLT, Nat.reduceLeDiff, Nat.reduceBEq, reduceCtorEq, BEq.rfl, Int.reduceLT, Int.reduceLE, Int.reduceAdd, Int.reduceToNat, Int.reduceSub, Int.reduceMul, Int.reduceNeg, Int.reduceEq, *] | (with_reducible refine And.intro (by first | omega | assumption | rfl) ?_))
                all_goals ((first | refine Fin_v1 (by rfl) ?_ | refine Fin_vn (by intro h; cases h) ?_ | refine Fin_f1 (by rfl) ?_ | refine Fin_fn (by intro h; cases h) (fun _ => rfl) ?_ | refine Fin_u1 (by rfl) ?_ | refine Fin_un (by intro h; cases h) ?_); try simp +contextual -implicitDefEqProofs (disch := first | exact dsc _ | fail) only [go_sem, push_cast, ↓reduceIte, Nat.reduceEqDiff, Nat.reduceAdd, Nat.reduceMul, Nat.reduceSub, Nat.reduceLT, Nat.reduceLeDiff, Nat.reduceBEq, reduceCtorEq, BEq.rfl, Int.reduceLT, Int.reduceLE, Int.reduceAdd, Int.reduceToNat, Int.reduceSub, Int.reduceMul, Int.reduceNeg, Int.reduceEq, *])
              · obtain ⟨h3, h4, h5⟩ := hr r rfl
                repeat' (first | (with_reducible intro _) | (with_reducible refine wcond_not ?_) | ((with_reducible refine wcond_dec (fun _ => ?_) (fun _ => ?_)) <;> try (exfalso; omega)) | (with_reducible refine wcond_split (fun _ => ?_) (fun _ => ?_)) | (with_reducible refine draw_ro (by kernel_rfl) ?_) | simp +contextual -implicitDefEqProofs (disch := first | exact dsc _ | fail) only [go_sem, ↓reduceIte, Nat.reduceEqDiff, Nat.reduceAdd, Nat.reduceMul, Nat.reduceSub, Nat.reduceLT, Nat.reduceLeDiff, Nat.reduceBEq, reduceCtorEq, BEq.rfl, Int.reduceLT, Int.reduceLE, Int.reduceAdd, Int.reduceToNat, Int.reduceSub, Int.reduceMul, Int.reduceNeg, Int.reduceEq, *] | (with_reducible refine And.intro (by first | omega | assumption | rfl) ?_))
                all_goals ((first | refine Fin_v1 (by rfl) ?_ | refine Fin_vn (by intro h; cases h) ?_ | refine Fin_f1 (by rfl) ?_ | refine Fin_fn (by intro h; cases h) (fun _ => rfl) ?_ | refine Fin_u1 (by rfl) ?_ | refine Fin_un (by intro h; cases h) ?_); try simp +contextual -implicitDefEqProofs (disch := first | exact dsc _ | fail) only [go_sem, push_cast, ↓reduceIte, Nat.reduceEqDiff, Nat.reduceAdd, Nat.reduceMul, Nat.reduceSub, Nat.reduceLT, Nat.reduceLeDiff, Nat.reduceBEq, reduceCtorEq, BEq.rfl, Int.reduceLT, Int.reduceLE, Int.reduceAdd, Int.reduceToNat, Int.reduceSub, Int.reduceMul, Int.reduceNeg, Int.reduceEq, *])
            · have hgt2 : ¬ (((b.length - (4 + 393 * i) - 4) / 2 : Nat) : Int) < (uintV b (4 + 393 * i) 4 : Int) := by omega
              generalize hM : uintV b (4 + 393 * i) 4 = M at *
              rcases o with _ | r
              · have hvs0 := ho rfl
                subst hvs0
                repeat' (first | (with_reducible intro _) | (with_reducible refine wcond_not ?_) | ((with_reducible refine wcond_dec (fun _ => ?_) (fun _ => ?_)) <;> try (exfalso; omega)) | (with_reducible refine wcond_split (fun _ => ?_) (fun _ => ?_)) | (with_reducible refine draw_ro (by kernel_rfl) ?_) | simp +contextual -implicitDefEqProofs (disch := first | exact dsc _ | fail) only [go_sem, ↓reduceIte, Nat.reduceEqDiff, Nat.reduceAdd, Nat.reduceMul, Nat.reduceSub, Nat.reduceLT, Nat.reduceLeDiff, Nat.reduceBEq, reduceCtorEq, BEq.rfl, Int.reduceLT, Int.reduceLE, Int.reduceAdd, Int.reduceToNat, Int.reduceSub, Int.reduceMul, Int.reduceNeg, Int.reduceEq, *] | (with_reducible refine And.intro (by first | omega | assumption | rfl) ?_))
                refine wloopW (α := Option Id × List (List UInt8) × Int × Nat) (fun p => ⟨[(0, .list (bys b)), (2, .ptr r0 []), (3, .int .i64 0), (4, .ptr r1 []), (11, .int .u64 M), (7, .int .i64 p.2.2.1), (12, .int .i64 p.2.2.2)],
                    match p.1 with
                    | none => [(r1, .box (.agg [.nils, .nils])), (r0, .box (.agg [.nils, .nils]))]
                    | some rr => [(r1, .box (.agg [.nils, .own rr [] 1 0 p.2.1.length p.2.1.length])), (r0, .box (.agg [.nils, .nils])), (rr, .row 28 1 (p.2.1.map txtA) 0)]⟩)
                  (fun p => p.2.2.2 ≤ M ∧ p.2.1.length = p.2.2.2 ∧ (0 ≤ p.2.2.1 ∧ p.2.2.1 ≤ b.length ∧ (2 * p.2.2.2 : Int) ≤ p.2.2.1) ∧ decT b [] (M - p.2.2.2) p.2.1 p.2.2.1 false = decW b ∧ (∀ t, t ∈ p.2.1 → okT t = true) ∧ (p.1 = none → p.2.1 = []) ∧ ∀ rr, p.1 = some rr → ((¬ rr = r0 ∧ ¬ r0 = rr) ∧ (¬ rr = r1 ∧ ¬ r1 = rr)) ∧ p.2.1 ≠ [])
                  (fun p => M - p.2.2.2) (none, [], 4 + 393 * i + 4, 0) ?_ ?_ ?_
                · exact ⟨Nat.zero_le _, rfl, ⟨by show (0:Int) ≤ 4 + 393 * i + 4; omega, by show (4:Int) + 393 * i + 4 ≤ _; omega, by show (2 * (0:Nat) : Int) ≤ 4 + 393 * i + 4; omega⟩, hdec, by simp, fun _ => rfl, by simp⟩
                · simp +contextual -implicitDefEqProofs (disch := first | exact dsc _ | fail) only [go_sem, push_cast, ↓reduceIte, Nat.reduceEqDiff, Nat.reduceAdd, Nat.reduceMul, Nat.reduceSub, Nat.reduceLT, Nat.reduceLeDiff, Nat.reduceBEq, reduceCtorEq, BEq.rfl, Int.reduceLT, Int.reduceLE, Int.reduceAdd, Int.reduceToNat, Int.reduceSub, Int.reduceMul, Int.reduceNeg, Int.reduceEq, *]
                  all_goals first | rfl | simp
                · clear hdec
                  rintro ⟨q, ts, a, j⟩ hC
                  replace hC : j ≤ M ∧ ts.length = j ∧ (0 ≤ a ∧ a ≤ b.length ∧ (2 * j : Int) ≤ a) ∧ decT b [] (M - j) ts a false = decW b ∧ (∀ t, t ∈ ts → okT t = true) ∧ (q = none → ts = []) ∧ ∀ rr, q = some rr → ((¬ rr = r0 ∧ ¬ r0 = rr) ∧ (¬ rr = r1 ∧ ¬ r1 = rr)) ∧ ts ≠ [] := hC
                  obtain ⟨hj, htl, ha, hdec, hokt, hq0, hqr⟩ := hC
                  by_cases hjt : j < M
                  · have hjt' : (j : Int) < (M : Int) := by omega
                    have hst : decT b [] (M - j) ts a false = decT b [] (M - (j + 1)) (ts ++ [(curB b a false).1]) (curB b a false).2.1 (curB b a false).2.2 := by
                      obtain ⟨m, hm⟩ : ∃ m, M - j = m + 1 := ⟨M - j - 1, by omega⟩
                      have hm' : M - (j + 1) = m := by omega
                      rw [hm, hm']
                      rfl
                    rw [hst] at hdec
                    clear hst
                    by_cases hB : bytesOk b a = true
                    · have eR : refB b a = (bytesV b a, a + 2 + uintV b a 2, true) := if_pos hB
                      have eC : curB b a false = (bytesV b a, a + 2 + uintV b a 2, false) := if_pos ⟨rfl, hB⟩
                      rw [eC] at hdec
                      have hB' := bytesOk_iff.1 hB
                      have hBl := bytesV_len hB
                      have hv3 := uintV2 b a
                      clear eC
                      rcases q with _ | rr
                      · have hts0 := hq0 rfl
                        subst hts0
                        repeat' (first | (with_reducible intro _) | (with_reducible refine wcond_not ?_) | ((with_reducible refine wcond_dec (fun _ => ?_) (fun _ => ?_)) <;> try (exfalso; omega)) | (with_reducible refine wcond_split (fun _ => ?_) (fun _ => ?_)) | (with_reducible refine draw_ro (by kernel_rfl) ?_) | simp +contextual -implicitDefEqProofs (disch := first | exact dsc _ | fail) only [go_sem, ↓reduceIte, Nat.reduceEqDiff, Nat.reduceAdd, Nat.reduceMul, Nat.reduceSub, Nat.reduceLT, Nat.reduceLeDiff, Nat.reduceBEq, reduceCtorEq, BEq.rfl, Int.reduceLT, Int.reduceLE, Int.reduceAdd, Int.reduceToNat, Int.reduceSub, Int.reduceMul, Int.reduceNeg, Int.reduceEq, *] | (with_reducible refine And.intro (by first | omega | assumption | rfl) ?_))
                        rename_i r7 h7 r8 h8
                        refine round_intro (some r8, [] ++ [bytesV b a], a + 2 + uintV b a 2, j + 1) ⟨hjt, by rw [List.length_append, htl]; rfl, ⟨by show (0:Int) ≤ a + 2 + uintV b a 2; omega, hB'.2, by show (2 * ((j + 1 : Nat) : Int)) ≤ a + 2 + uintV b a 2; omega⟩, hdec, ?_, by simp, by simp_all⟩ (by show M - (j + 1) < M - j; omega) ?_
                        · intro t ht
                          simp at ht
                          rw [ht, okT, hBl]; simp; omega
                        · simp +contextual -implicitDefEqProofs (disch := first | exact dsc _ | fail) only [go_sem, push_cast, ↓reduceIte, Nat.reduceEqDiff, Nat.reduceAdd, Nat.reduceMul, Nat.reduceSub, Nat.reduceLT, Nat.reduceLeDiff, Nat.reduceBEq, reduceCtorEq, BEq.rfl, Int.reduceLT, Int.reduceLE, Int.reduceAdd, Int.reduceToNat, Int.reduceSub, Int.reduceMul, Int.reduceNeg, Int.reduceEq, *]
                          have htl' : j = 0 := htl.symm
                          first | omega | (refine ⟨by omega, ?_⟩; omega) | (refine ⟨by omega, ?_⟩; rw [List.map_append]; rfl)
                      · obtain ⟨⟨j1, j2⟩, j5⟩ := hqr rr rfl
                        repeat' (first | (with_reducible intro _) | (with_reducible refine wcond_not ?_) | ((with_reducible refine wcond_dec (fun _ => ?_) (fun _ => ?_)) <;> try (exfalso; omega)) | (with_reducible refine wcond_split (fun _ => ?_) (fun _ => ?_)) | (with_reducible refine draw_ro (by kernel_rfl) ?_) | simp +contextual -implicitDefEqProofs (disch := first | exact dsc _ | fail) only [go_sem, ↓reduceIte, Nat.reduceEqDiff, Nat.reduceAdd, Nat.reduceMul, Nat.reduceSub, Nat.reduceLT, Nat.reduceLeDiff, Nat.reduceBEq, reduceCtorEq, BEq.rfl, Int.reduceLT, Int.reduceLE, Int.reduceAdd, Int.reduceToNat, Int.reduceSub, Int.reduceMul, Int.reduceNeg, Int.reduceEq, *] | (with_reducible refine And.intro (by first | omega | assumption | rfl) ?_))
                        rename_i r7 h7 r8 h8
                        refine round_intro (some r8, ts ++ [bytesV b a], a + 2 + uintV b a 2, j + 1) ⟨hjt, by rw [List.length_append, htl]; rfl, ⟨by show (0:Int) ≤ a + 2 + uintV b a 2; omega, hB'.2, by show (2 * ((j + 1 : Nat) : Int)) ≤ a + 2 + uintV b a 2; omega⟩, hdec, ?_, by simp, by simp_all⟩ (by show M - (j + 1) < M - j; omega) ?_
                        · intro t ht
                          rcases List.mem_append.1 ht with h | h
                          · exact hokt t h
                          · simp at h
                            rw [h, okT, hBl]; simp; omega
                        · simp +contextual -implicitDefEqProofs (disch := first | exact dsc _ | fail) only [go_sem, push_cast, ↓reduceIte, Nat.reduceEqDiff, Nat.reduceAdd, Nat.reduceMul, Nat.reduceSub, Nat.reduceLT, Nat.reduceLeDiff, Nat.reduceBEq, reduceCtorEq, BEq.rfl, Int.reduceLT, Int.reduceLE, Int.reduceAdd, Int.reduceToNat, Int.reduceSub, Int.reduceMul, Int.reduceNeg, Int.reduceEq, *]
                          repeat' (first | (apply And.intro) | rfl | omega | (rw [List.map_append]; rfl))
                    · have eR : refB b a = ([], 0, false) := if_neg hB
                      have eC : curB b a false = ([], a, true) := if_neg (fun h => hB h.2)
                      rw [eC] at hdec
                      rw [decT_bad] at hdec
                      rw [← hdec]
                      clear eC hB
                      rcases q with _ | rr
                      · repeat' (first | (with_reducible intro _) | (with_reducible refine wcond_not ?_) | ((with_reducible refine wcond_dec (fun _ => ?_) (fun _ => ?_)) <;> try (exfalso; omega)) | (with_reducible refine wcond_split (fun _ => ?_) (fun _ => ?_)) | (with_reducible refine draw_ro (by kernel_rfl) ?_) | simp +contextual -implicitDefEqProofs (disch := first | exact dsc _ | fail) only [go_sem, ↓reduceIte, Nat.reduceEqDiff, Nat.reduceAdd, Nat.reduceMul, Nat.reduceSub, Nat.reduceLT, Nat.reduceLeDiff, Nat.reduceBEq, reduceCtorEq, BEq.rfl, Int.reduceLT, Int.reduceLE, Int.reduceAdd, Int.reduceToNat, Int.reduceSub, Int.reduceMul, Int.reduceNeg, Int.reduceEq, *] | (with_reducible refine And.intro (by first | omega | assumption | rfl) ?_))
                        all_goals ((first | refine Fin_v1 (by rfl) ?_ | refine Fin_vn (by intro h; cases h) ?_ | refine Fin_f1 (by rfl) ?_ | refine Fin_fn (by intro h; cases h) (fun _ => rfl) ?_ | refine Fin_u1 (by rfl) ?_ | refine Fin_un (by intro h; cases h) ?_); try simp +contextual -implicitDefEqProofs (disch := first | exact dsc _ | fail) only [go_sem, push_cast, ↓reduceIte, Nat.reduceEqDiff, Nat.reduceAdd, Nat.reduceMul, Nat.reduceSub, Nat.reduceLT, Nat.reduceLeDiff, Nat.reduceBEq, reduceCtorEq, BEq.rfl, Int.reduceLT, Int.reduceLE, Int.reduceAdd, Int.reduceToNat, Int.reduceSub, Int.reduceMul, Int.reduceNeg, Int.reduceEq, *])
                      · obtain ⟨⟨j1, j2⟩, j5⟩ := hqr rr rfl
                        repeat' (first | (with_reducible intro _) | (with_reducible refine wcond_not ?_) | ((with_reducible refine wcond_dec (fun _ => ?_) (fun _ => ?_)) <;> try (exfalso; omega)) | (with_reducible refine wcond_split (fun _ => ?_) (fun _ => ?_)) | (with_reducible refine draw_ro (by kernel_rfl) ?_) | simp +contextual -implicitDefEqProofs (disch := first | exact dsc _ | fail) only [go_sem, ↓reduceIte, Nat.reduceEqDiff, Nat.reduceAdd, Nat.reduceMul, Nat.reduceSub, Nat.reduceLT, Nat.reduceLeDiff, Nat.reduceBEq, reduceCtorEq, BEq.rfl, Int.reduceLT, Int.reduceLE, Int.reduceAdd, Int.reduceToNat, Int.reduceSub, Int.reduceMul, Int.reduceNeg, Int.reduceEq, *] | (with_reducible refine And.intro (by first | omega | assumption | rfl) ?_))
                        all_goals ((first | refine Fin_v1 (by rfl) ?_ | refine Fin_vn (by intro h; cases h) ?_ | refine Fin_f1 (by rfl) ?_ | refine Fin_fn (by intro h; cases h) (fun _ => rfl) ?_ | refine Fin_u1 (by rfl) ?_ | refine Fin_un (by intro h; cases h) ?_); try simp +contextual -implicitDefEqProofs (disch := first | exact dsc _ | fail) only [go_sem, push_cast, ↓reduceIte, Nat.reduceEqDiff, Nat.reduceAdd, Nat.reduceMul, Nat.reduceSub, Nat.reduceLT, Nat.reduceLeDiff, Nat.reduceBEq, reduceCtorEq, BEq.rfl, Int.reduceLT, Int.reduceLE, Int.reduceAdd, Int.reduceToNat, Int.reduceSub, Int.reduceMul, Int.reduceNeg, Int.reduceEq, *])
                  · have hjM : j = M := by omega
                    subst hjM
                    rw [Nat.sub_self] at hdec
                    have hS : List.all [] okS = true := List.all_eq_true.2 fun s hs => (hok s hs).1
                    have hT : ts.all okT = true := List.all_eq_true.2 hokt
                    have hsm : smallW ⟨[], ts⟩ := ⟨by show List.length [] ≤ _; omega, by show ts.length ≤ _; omega, fun s hs => by rw [(hok s hs).2]; decide, fun t ht => by have := hokt t ht; simp [okT] at this; omega⟩
                    have hE : errW ⟨[], ts⟩ = if ordW ⟨[], ts⟩ = true then 0 else 10 := by
                      unfold errW; rw [if_pos ⟨hS, hT⟩]
                    by_cases hO : ordW ⟨[], ts⟩ = true
                    · rw [if_pos hO] at hE
                      by_cases haL : a = b.length
                      · have e : decW b = (⟨[], ts⟩, 0) := hdec.symm.trans (if_pos ⟨⟨rfl, haL⟩, hO⟩)
                        rw [e]
                        clear e hdec hS hT
                        rcases q with _ | rr
                        · have hts0 := hq0 rfl
                          subst hts0
                          repeat' (first | (with_reducible intro _) | (with_reducible refine wcond_not ?_) | ((with_reducible refine wcond_dec (fun _ => ?_) (fun _ => ?_)) <;> try (exfalso; omega)) | (with_reducible refine wcond_split (fun _ => ?_) (fun _ => ?_)) | (with_reducible refine draw_ro (by kernel_rfl) ?_) | simp +contextual -implicitDefEqProofs (disch := first | exact dsc _ | fail) only [go_sem, ↓reduceIte, Nat.reduceEqDiff, Nat.reduceAdd, Nat.reduceMul, Nat.reduceSub, Nat.reduceLT, Nat.reduceLeDiff, Nat.reduceBEq, reduceCtorEq, BEq.rfl, Int.reduceLT, Int.reduceLE, Int.reduceAdd, Int.reduceToNat, Int.reduceSub, Int.reduceMul, Int.reduceNeg, Int.reduceEq, *, sp_snapshot_Encode] | (with_reducible refine And.intro (by first | omega | assumption | rfl) ?_))
                          all_goals ((first | refine Fin_v1 (by rfl) ?_ | refine Fin_vn (by intro h; cases h) ?_ | refine Fin_f1 (by rfl) ?_ | refine Fin_fn (by intro h; cases h) (fun _ => rfl) ?_ | refine Fin_u1 (by rfl) ?_ | refine Fin_un (by intro h; cases h) ?_); try simp +contextual -implicitDefEqProofs (disch := first | exact dsc _ | fail) only [go_sem, push_cast, ↓reduceIte, Nat.reduceEqDiff, Nat.reduceAdd, Nat.reduceMul, Nat.reduceSub, Nat.reduceLT, Nat.reduceLeDiff, Nat.reduceBEq, reduceCtorEq, BEq.rfl, Int.reduceLT, Int.reduceLE, Int.reduceAdd, Int.reduceToNat, Int.reduceSub, Int.reduceMul, Int.reduceNeg, Int.reduceEq, *])
                        · obtain ⟨⟨j1, j2⟩, j5⟩ := hqr rr rfl
                          repeat' (first | (with_reducible intro _) | (with_reducible refine wcond_not ?_) | ((with_reducible refine wcond_dec (fun _ => ?_) (fun _ => ?_)) <;> try (exfalso; omega)) | (with_reducible refine wcond_split (fun _ => ?_) (fun _ => ?_)) | (with_reducible refine draw_ro (by kernel_rfl) ?_) | simp +contextual -implicitDefEqProofs (disch := first | exact dsc _ | fail) only [go_sem, ↓reduceIte, Nat.reduceEqDiff, Nat.reduceAdd, Nat.reduceMul, Nat.reduceSub, Nat.reduceLT, Nat.reduceLeDiff, Nat.reduceBEq, reduceCtorEq, BEq.rfl, Int.reduceLT, Int.reduceLE, Int.reduceAdd, Int.reduceToNat, Int.reduceSub, Int.reduceMul, Int.reduceNeg, Int.reduceEq, *, sp_snapshot_Encode] | (with_reducible refine And.intro (by first | omega | assumption | rfl) ?_))
                          all_goals ((first | refine Fin_v1 (by rfl) ?_ | refine Fin_vn (by intro h; cases h) ?_ | refine Fin_f1 (by rfl) ?_ | refine Fin_fn (by intro h; cases h) (fun _ => rfl) ?_ | refine Fin_u1 (by rfl) ?_ | refine Fin_un (by intro h; cases h) ?_); try simp +contextual -implicitDefEqProofs (disch := first | exact dsc _ | fail) only [go_sem, push_cast, ↓reduceIte, Nat.reduceEqDiff, Nat.reduceAdd, Nat.reduceMul, Nat.reduceSub, Nat.reduceLT, Nat.reduceLeDiff, Nat.reduceBEq, reduceCtorEq, BEq.rfl, Int.reduceLT, Int.reduceLE, Int.reduceAdd, Int.reduceToNat, Int.reduceSub, Int.reduceMul, Int.reduceNeg, Int.reduceEq, *])
                      · have e : decW b = (⟨[], []⟩, 4) := hdec.symm.trans (if_neg (fun h => haL h.1.2))
                        rw [e]
                        clear e hdec hS hT
                        rcases q with _ | rr
                        · have hts0 := hq0 rfl
                          subst hts0
                          repeat' (first | (with_reducible intro _) | (with_reducible refine wcond_not ?_) | ((with_reducible refine wcond_dec (fun _ => ?_) (fun _ => ?_)) <;> try (exfalso; omega)) | (with_reducible refine wcond_split (fun _ => ?_) (fun _ => ?_)) | (with_reducible refine draw_ro (by kernel_rfl) ?_) | simp +contextual -implicitDefEqProofs (disch := first | exact dsc _ | fail) only [go_sem, ↓reduceIte, Nat.reduceEqDiff, Nat.reduceAdd, Nat.reduceMul, Nat.reduceSub, Nat.reduceLT, Nat.reduceLeDiff, Nat.reduceBEq, reduceCtorEq, BEq.rfl, Int.reduceLT, Int.reduceLE, Int.reduceAdd, Int.reduceToNat, Int.reduceSub, Int.reduceMul, Int.reduceNeg, Int.reduceEq, *, sp_snapshot_Encode] | (with_reducible refine And.intro (by first | omega | assumption | rfl) ?_))
                          all_goals ((first | refine Fin_v1 (by rfl) ?_ | refine Fin_vn (by intro h; cases h) ?_ | refine Fin_f1 (by rfl) ?_ | refine Fin_fn (by intro h; cases h) (fun _ => rfl) ?_ | refine Fin_u1 (by rfl) ?_ | refine Fin_un (by intro h; cases h) ?_); try simp +contextual -implicitDefEqProofs (disch := first | exact dsc _ | fail) only [go_sem, push_cast, ↓reduceIte, Nat.reduceEqDiff, Nat.reduceAdd, Nat.reduceMul, Nat.reduceSub, Nat.reduceLT, Nat.reduceLeDiff, Nat.reduceBEq, reduceCtorEq, BEq.rfl, Int.reduceLT, Int.reduceLE, Int.reduceAdd, Int.reduceToNat, Int.reduceSub, Int.reduceMul, Int.reduceNeg, Int.reduceEq, *])
                        · obtain ⟨⟨j1, j2⟩, j5⟩ := hqr rr rfl
                          repeat' (first | (with_reducible intro _) | (with_reducible refine wcond_not ?_) | ((with_reducible refine wcond_dec (fun _ => ?_) (fun _ => ?_)) <;> try (exfalso; omega)) | (with_reducible refine wcond_split (fun _ => ?_) (fun _ => ?_)) | (with_reducible refine draw_ro (by kernel_rfl) ?_) | simp +contextual -implicitDefEqProofs (disch := first | exact dsc _ | fail) only [go_sem, ↓reduceIte, Nat.reduceEqDiff, Nat.reduceAdd, Nat.reduceMul, Nat.reduceSub, Nat.reduceLT, Nat.reduceLeDiff, Nat.reduceBEq, reduceCtorEq, BEq.rfl, Int.reduceLT, Int.reduceLE, Int.reduceAdd, Int.reduceToNat, Int.reduceSub, Int.reduceMul, Int.reduceNeg, Int.reduceEq, *, sp_snapshot_Encode] | (with_reducible refine And.intro (by first | omega | assumption | rfl) ?_))
                          all_goals ((first | refine Fin_v1 (by rfl) ?_ | refine Fin_vn (by intro h; cases h) ?_ | refine Fin_f1 (by rfl) ?_ | refine Fin_fn (by intro h; cases h) (fun _ => rfl) ?_ | refine Fin_u1 (by rfl) ?_ | refine Fin_un (by intro h; cases h) ?_); try simp +contextual -implicitDefEqProofs (disch := first | exact dsc _ | fail) only [go_sem, push_cast, ↓reduceIte, Nat.reduceEqDiff, Nat.reduceAdd, Nat.reduceMul, Nat.reduceSub, Nat.reduceLT, Nat.reduceLeDiff, Nat.reduceBEq, reduceCtorEq, BEq.rfl, Int.reduceLT, Int.reduceLE, Int.reduceAdd, Int.reduceToNat, Int.reduceSub, Int.reduceMul, Int.reduceNeg, Int.reduceEq, *])
                    · rw [if_neg hO] at hE
                      have e : decW b = (⟨[], []⟩, 4) := hdec.symm.trans (if_neg (fun h => hO h.2))
                      rw [e]
                      clear e hdec hS hT
                      rcases q with _ | rr
                      · have hts0 := hq0 rfl
                        subst hts0
                        repeat' (first | (with_reducible intro _) | (with_reducible refine wcond_not ?_) | ((with_reducible refine wcond_dec (fun _ => ?_) (fun _ => ?_)) <;> try (exfalso; omega)) | (with_reducible refine wcond_split (fun _ => ?_) (fun _ => ?_)) | (with_reducible refine draw_ro (by kernel_rfl) ?_) | simp +contextual -implicitDefEqProofs (disch := first | exact dsc _ | fail) only [go_sem, ↓reduceIte, Nat.reduceEqDiff, Nat.reduceAdd, Nat.reduceMul, Nat.reduceSub, Nat.reduceLT, Nat.reduceLeDiff, Nat.reduceBEq, reduceCtorEq, BEq.rfl, Int.reduceLT, Int.reduceLE, Int.reduceAdd, Int.reduceToNat, Int.reduceSub, Int.reduceMul, Int.reduceNeg, Int.reduceEq, *, sp_snapshot_Encode] | (with_reducible refine And.intro (by first | omega | assumption | rfl) ?_))
                        all_goals ((first | refine Fin_v1 (by rfl) ?_ | refine Fin_vn (by intro h; cases h) ?_ | refine Fin_f1 (by rfl) ?_ | refine Fin_fn (by intro h; cases h) (fun _ => rfl) ?_ | refine Fin_u1 (by rfl) ?_ | refine Fin_un (by intro h; cases h) ?_); try simp +contextual -implicitDefEqProofs (disch := first | exact dsc _ | fail) only [go_sem, push_cast, ↓reduceIte, Nat.reduceEqDiff, Nat.reduceAdd, Nat.reduceMul, Nat.reduceSub, Nat.reduceLT, Nat.reduceLeDiff, Nat.reduceBEq, reduceCtorEq, BEq.rfl, Int.reduceLT, Int.reduceLE, Int.reduceAdd, Int.reduceToNat, Int.reduceSub, Int.reduceMul, Int.reduceNeg, Int.reduceEq, *])
                      · obtain ⟨⟨j1, j2⟩, j5⟩ := hqr rr rfl
                        repeat' (first | (with_reducible intro _) | (with_reducible refine wcond_not ?_) | ((with_reducible refine wcond_dec (fun _ => ?_) (fun _ => ?_)) <;> try (exfalso; omega)) | (with_reducible refine wcond_split (fun _ => ?_) (fun _ => ?_)) | (with_reducible refine draw_ro (by kernel_rfl) ?_) | simp +contextual -implicitDefEqProofs (disch := first | exact dsc _ | fail) only [go_sem, ↓reduceIte, Nat.reduceEqDiff, Nat.reduceAdd, Nat.reduceMul, Nat.reduceSub, Nat.reduceLT, Nat.reduceLeDiff, Nat.reduceBEq, reduceCtorEq, BEq.rfl, Int.reduceLT, Int.reduceLE, Int.reduceAdd, Int.reduceToNat, Int.reduceSub, Int.reduceMul, Int.reduceNeg, Int.reduceEq, *, sp_snapshot_Encode] | (with_reducible refine And.intro (by first | omega | assumption | rfl) ?_))
                        all_goals ((first | refine Fin_v1 (by rfl) ?_ | refine Fin_vn (by intro h; cases h) ?_ | refine Fin_f1 (by rfl) ?_ | refine Fin_fn (by intro h; cases h) (fun _ => rfl) ?_ | refine Fin_u1 (by rfl) ?_ | refine Fin_un (by intro h; cases h) ?_); try simp +contextual -implicitDefEqProofs (disch := first | exact dsc _ | fail) only [go_sem, push_cast, ↓reduceIte, Nat.reduceEqDiff, Nat.reduceAdd, Nat.reduceMul, Nat.reduceSub, Nat.reduceLT, Nat.reduceLeDiff, Nat.reduceBEq, reduceCtorEq, BEq.rfl, Int.reduceLT, Int.reduceLE, Int.reduceAdd, Int.reduceToNat, Int.reduceSub, Int.reduceMul, Int.reduceNeg, Int.reduceEq, *])
              · obtain ⟨h3, h4, h5⟩ := hr r rfl
                repeat' (first | (with_reducible intro _) | (with_reducible refine wcond_not ?_) | ((with_reducible refine wcond_dec (fun _ => ?_) (fun _ => ?_)) <;> try (exfalso; omega)) | (with_reducible refine wcond_split (fun _ => ?_) (fun _ => ?_)) | (with_reducible refine draw_ro (by kernel_rfl) ?_) | simp +contextual -implicitDefEqProofs (disch := first | exact dsc _ | fail) only [go_sem, ↓reduceIte, Nat.reduceEqDiff, Nat.reduceAdd, Nat.reduceMul, Nat.reduceSub, Nat.reduceLT, Nat.reduceLeDiff, Nat.reduceBEq, reduceCtorEq, BEq.rfl, Int.reduceLT, Int.reduceLE, Int.reduceAdd, Int.reduceToNat, Int.reduceSub, Int.reduceMul, Int.reduceNeg, Int.reduceEq, *] | (with_reducible refine And.intro (by first | omega | assumption | rfl) ?_))
                refine wloopW (α := Option Id × List (List UInt8) × Int × Nat) (fun p => ⟨[(0, .list (bys b)), (2, .ptr r0 []), (3, .int .i64 0), (4, .ptr r1 []), (11, .int .u64 M), (7, .int .i64 p.2.2.1), (12, .int .i64 p.2.2.2)],
                    match p.1 with
                    | none => [(r1, .box (.agg [.own r [] 23 0 vs.length vs.length, .nils])), (r0, .box (.agg [.nils, .nils])), (r, .row 57 23 (vs.map sgnA) 0)]
                    | some rr => [(r1, .box (.agg [.own r [] 23 0 vs.length vs.length, .own rr [] 1 0 p.2.1.length p.2.1.length])), (r0, .box (.agg [.nils, .nils])), (rr, .row 28 1 (p.2.1.map txtA) 0), (r, .row 57 23 (vs.map sgnA) 0)]⟩)
                  (fun p => p.2.2.2 ≤ M ∧ p.2.1.length = p.2.2.2 ∧ (0 ≤ p.2.2.1 ∧ p.2.2.1 ≤ b.length ∧ (2 * p.2.2.2 : Int) ≤ p.2.2.1) ∧ decT b vs (M - p.2.2.2) p.2.1 p.2.2.1 false = decW b ∧ (∀ t, t ∈ p.2.1 → okT t = true) ∧ (p.1 = none → p.2.1 = []) ∧ ∀ rr, p.1 = some rr → ((¬ rr = r0 ∧ ¬ r0 = rr) ∧ (¬ rr = r1 ∧ ¬ r1 = rr) ∧ (¬ rr = r ∧ ¬ r = rr)) ∧ p.2.1 ≠ [])
                  (fun p => M - p.2.2.2) (none, [], 4 + 393 * i + 4, 0) ?_ ?_ ?_
                · exact ⟨Nat.zero_le _, rfl, ⟨by show (0:Int) ≤ 4 + 393 * i + 4; omega, by show (4:Int) + 393 * i + 4 ≤ _; omega, by show (2 * (0:Nat) : Int) ≤ 4 + 393 * i + 4; omega⟩, hdec, by simp, fun _ => rfl, by simp⟩
                · simp +contextual -implicitDefEqProofs (disch := first | exact dsc _ | fail) only [go_sem, push_cast, ↓reduceIte, Nat.reduceEqDiff, Nat.reduceAdd, Nat.reduceMul, Nat.reduceSub, Nat.reduceLT, Nat.reduceLeDiff, Nat.reduceBEq, reduceCtorEq, BEq.rfl, Int.reduceLT, Int.reduceLE, Int.reduceAdd, Int.reduceToNat, Int.reduceSub, Int.reduceMul, Int.reduceNeg, Int.reduceEq, *]
                  all_goals first | rfl | simp
                · clear hdec
                  rintro ⟨q, ts, a, j⟩ hC
                  replace hC : j ≤ M ∧ ts.length = j ∧ (0 ≤ a ∧ a ≤ b.length ∧ (2 * j : Int) ≤ a) ∧ decT b vs (M - j) ts a false = decW b ∧ (∀ t, t ∈ ts → okT t = true) ∧ (q = none → ts = []) ∧ ∀ rr, q = some rr → ((¬ rr = r0 ∧ ¬ r0 = rr) ∧ (¬ rr = r1 ∧ ¬ r1 = rr) ∧ (¬ rr = r ∧ ¬ r = rr)) ∧ ts ≠ [] := hC
                  obtain ⟨hj, htl, ha, hdec, hokt, hq0, hqr⟩ := hC
                  by_cases hjt : j < M
                  · have hjt' : (j : Int) < (M : Int) := by omega
                    have hst : decT b vs (M - j) ts a false = decT b vs (M - (j + 1)) (ts ++ [(curB b a false).1]) (curB b a false).2.1 (curB b a false).2.2 := by
                      obtain ⟨m, hm⟩ : ∃ m, M - j = m + 1 := ⟨M - j - 1, by omega⟩
                      have hm' : M - (j + 1) = m := by omega
                      rw [hm, hm']
                      rfl
                    rw [hst] at hdec
                    clear hst
                    by_cases hB : bytesOk b a = true
                    · have eR : refB b a = (bytesV b a, a + 2 + uintV b a 2, true) := if_pos hB
                      have eC : curB b a false = (bytesV b a, a + 2 + uintV b a 2, false) := if_pos ⟨rfl, hB⟩
                      rw [eC] at hdec
                      have hB' := bytesOk_iff.1 hB
                      have hBl := bytesV_len hB
                      have hv3 := uintV2 b a
                      clear eC
                      rcases q with _ | rr
                      · have hts0 := hq0 rfl
                        subst hts0
                        repeat' (first | (with_reducible intro _) | (with_reducible refine wcond_not ?_) | ((with_reducible refine wcond_dec (fun _ => ?_) (fun _ => ?_)) <;> try (exfalso; omega)) | (with_reducible refine wcond_split (fun _ => ?_) (fun _ => ?_)) | (with_reducible refine draw_ro (by kernel_rfl) ?_) | simp +contextual -implicitDefEqProofs (disch := first | exact dsc _ | fail) only [go_sem, ↓reduceIte, Nat.reduceEqDiff, Nat.reduceAdd, Nat.reduceMul, Nat.reduceSub, Nat.reduceLT, Nat.reduceLeDiff, Nat.reduceBEq, reduceCtorEq, BEq.rfl, Int.reduceLT, Int.reduceLE, Int.reduceAdd, Int.reduceToNat, Int.reduceSub, Int.reduceMul, Int.reduceNeg, Int.reduceEq, *] | (with_reducible refine And.intro (by first | omega | assumption | rfl) ?_))
                        rename_i r7 h7 r8 h8
                        refine round_intro (some r8, [] ++ [bytesV b a], a + 2 + uintV b a 2, j + 1) ⟨hjt, by rw [List.length_append, htl]; rfl, ⟨by show (0:Int) ≤ a + 2 + uintV b a 2; omega, hB'.2, by show (2 * ((j + 1 : Nat) : Int)) ≤ a + 2 + uintV b a 2; omega⟩, hdec, ?_, by simp, by simp_all⟩ (by show M - (j + 1) < M - j; omega) ?_
                        · intro t ht
                          simp at ht
                          rw [ht, okT, hBl]; simp; omega
                        · simp +contextual -implicitDefEqProofs (disch := first | exact dsc _ | fail) only [go_sem, push_cast, ↓reduceIte, Nat.reduceEqDiff, Nat.reduceAdd, Nat.reduceMul, Nat.reduceSub, Nat.reduceLT, Nat.reduceLeDiff, Nat.reduceBEq, reduceCtorEq, BEq.rfl, Int.reduceLT, Int.reduceLE, Int.reduceAdd, Int.reduceToNat, Int.reduceSub, Int.reduceMul, Int.reduceNeg, Int.reduceEq, *]
                          have htl' : j = 0 := htl.symm
                          first | omega | (refine ⟨by omega, ?_⟩; omega) | (refine ⟨by omega, ?_⟩; rw [List.map_append]; rfl)
                      · obtain ⟨⟨j1, j2, j3⟩, j5⟩ := hqr rr rfl
                        repeat' (first | (with_reducible intro _) | (with_reducible refine wcond_not ?_) | ((with_reducible refine wcond_dec (fun _ => ?_) (fun _ => ?_)) <;> try (exfalso; omega)) | (with_reducible refine wcond_split (fun _ => ?_) (fun _ => ?_)) | (with_reducible refine draw_ro (by kernel_rfl) ?_) | simp +contextual -implicitDefEqProofs (disch := first | exact dsc _ | fail) only [go_sem, ↓reduceIte, Nat.reduceEqDiff, Nat.reduceAdd, Nat.reduceMul, Nat.reduceSub, Nat.reduceLT, Nat.reduceLeDiff, Nat.reduceBEq, reduceCtorEq, BEq.rfl, Int.reduceLT, Int.reduceLE, Int.reduceAdd, Int.reduceToNat, Int.reduceSub, Int.reduceMul, Int.reduceNeg, Int.reduceEq, *] | (with_reducible refine And.intro (by first | omega | assumption | rfl) ?_))
                        rename_i r7 h7 r8 h8
                        refine round_intro (some r8, ts ++ [bytesV b a], a + 2 + uintV b a 2, j + 1) ⟨hjt, by rw [List.length_append, htl]; rfl, ⟨by show (0:Int) ≤ a + 2 + uintV b a 2; omega, hB'.2, by show (2 * ((j + 1 : Nat) : Int)) ≤ a + 2 + uintV b a 2; omega⟩, hdec, ?_, by simp, by simp_all⟩ (by show M - (j + 1) < M - j; omega) ?_
                        · intro t ht
                          rcases List.mem_append.1 ht with h | h
                          · exact hokt t h
                          · simp at h
                            rw [h, okT, hBl]; simp; omega
                        · simp +contextual -implicitDefEqProofs (disch := first | exact dsc _ | fail) only [go_sem, push_cast, ↓reduceIte, Nat.reduceEqDiff, Nat.reduceAdd, Nat.reduceMul, Nat.reduceSub, Nat.reduceLT, Nat.reduceLeDiff, Nat.reduceBEq, reduceCtorEq, BEq.rfl, Int.reduceLT, Int.reduceLE, Int.reduceAdd, Int.reduceToNat, Int.reduceSub, Int.reduceMul, Int.reduceNeg, Int.reduceEq, *]
                          repeat' (first | (apply And.intro) | rfl | omega | (rw [List.map_append]; rfl))
                    · have eR : refB b a = ([], 0, false) := if_neg hB
                      have eC : curB b a false = ([], a, true) := if_neg (fun h => hB h.2)
                      rw [eC] at hdec
                      rw [decT_bad] at hdec
                      rw [← hdec]
                      clear eC hB
                      rcases q with _ | rr
                      · repeat' (first | (with_reducible intro _) | (with_reducible refine wcond_not ?_) | ((with_reducible refine wcond_dec (fun _ => ?_) (fun _ => ?_)) <;> try (exfalso; omega)) | (with_reducible refine wcond_split (fun _ => ?_) (fun _ => ?_)) | (with_reducible refine draw_ro (by kernel_rfl) ?_) | simp +contextual -implicitDefEqProofs (disch := first | exact dsc _ | fail) only [go_sem, ↓reduceIte, Nat.reduceEqDiff, Nat.reduceAdd, Nat.reduceMul, Nat.reduceSub, Nat.reduceLT, Nat.reduceLeDiff, Nat.reduceBEq, reduceCtorEq, BEq.rfl, Int.reduceLT, Int.reduceLE, Int.reduceAdd, Int.reduceToNat, Int.reduceSub, Int.reduceMul, Int.reduceNeg, Int.reduceEq, *] | (with_reducible refine And.intro (by first | omega | assumption | rfl) ?_))
                        all_goals ((first | refine Fin_v1 (by rfl) ?_ | refine Fin_vn (by intro h; cases h) ?_ | refine Fin_f1 (by rfl) ?_ | refine Fin_fn (by intro h; cases h) (fun _ => rfl) ?_ | refine Fin_u1 (by rfl) ?_ | refine Fin_un (by intro h; cases h) ?_); try simp +contextual -implicitDefEqProofs (disch := first | exact dsc _ | fail) only [go_sem, push_cast, ↓reduceIte, Nat.reduceEqDiff, Nat.reduceAdd, Nat.reduceMul, Nat.reduceSub, Nat.reduceLT, Nat.reduceLeDiff, Nat.reduceBEq, reduceCtorEq, BEq.rfl, Int.reduceLT, Int.reduceLE, Int.reduceAdd, Int.reduceToNat, Int.reduceSub, Int.reduceMul, Int.reduceNeg, Int.reduceEq, *])
                      · obtain ⟨⟨j1, j2, j3⟩, j5⟩ := hqr rr rfl
                        repeat' (first | (with_reducible intro _) | (with_reducible refine wcond_not ?_) | ((with_reducible refine wcond_dec (fun _ => ?_) (fun _ => ?_)) <;> try (exfalso; omega)) | (with_reducible refine wcond_split (fun _ => ?_) (fun _ => ?_)) | (with_reducible refine draw_ro (by kernel_rfl) ?_) | simp +contextual -implicitDefEqProofs (disch := first | exact dsc _ | fail) only [go_sem, ↓reduceIte, Nat.reduceEqDiff, Nat.reduceAdd, Nat.reduceMul, Nat.reduceSub, Nat.reduceLT, Nat.reduceLeDiff, Nat.reduceBEq, reduceCtorEq, BEq.rfl, Int.reduceLT, Int.reduceLE, Int.reduceAdd, Int.reduceToNat, Int.reduceSub, Int.reduceMul, Int.reduceNeg, Int.reduceEq, *] | (with_reducible refine And.intro (by first | omega | assumption | rfl) ?_))
                        all_goals ((first | refine Fin_v1 (by rfl) ?_ | refine Fin_vn (by intro h; cases h) ?_ | refine Fin_f1 (by rfl) ?_ | refine Fin_fn (by intro h; cases h) (fun _ => rfl) ?_ | refine Fin_u1 (by rfl) ?_ | refine Fin_un (by intro h; cases h) ?_); try simp +contextual -implicitDefEqProofs (disch := first | exact dsc _ | fail) only [go_sem, push_cast, ↓reduceIte, Nat.reduceEqDiff, Nat.reduceAdd, Nat.reduceMul, Nat.reduceSub, Nat.reduceLT, Nat.reduceLeDiff, Nat.reduceBEq, reduceCtorEq, BEq.rfl, Int.reduceLT, Int.reduceLE, Int.reduceAdd, Int.reduceToNat, Int.reduceSub, Int.reduceMul, Int.reduceNeg, Int.reduceEq, *])
                  · have hjM : j = M := by omega
                    subst hjM
                    rw [Nat.sub_self] at hdec
                    have hS : List.all vs okS = true := List.all_eq_true.2 fun s hs => (hok s hs).1
                    have hT : ts.all okT = true := List.all_eq_true.2 hokt
                    have hsm : smallW ⟨vs, ts⟩ := ⟨by show List.length vs ≤ _; omega, by show ts.length ≤ _; omega, fun s hs => by rw [(hok s hs).2]; decide, fun t ht => by have := hokt t ht; simp [okT] at this; omega⟩
                    have hE : errW ⟨vs, ts⟩ = if ordW ⟨vs, ts⟩ = true then 0 else 10 := by
                      unfold errW; rw [if_pos ⟨hS, hT⟩]
                    by_cases hO : ordW ⟨vs, ts⟩ = true
                    · rw [if_pos hO] at hE
                      by_cases haL : a = b.length
                      · have e : decW b = (⟨vs, ts⟩, 0) := hdec.symm.trans (if_pos ⟨⟨rfl, haL⟩, hO⟩)
                        rw [e]
                        clear e hdec hS hT
                        rcases q with _ | rr
                        · have hts0 := hq0 rfl
                          subst hts0
                          repeat' (first | (with_reducible intro _) | (with_reducible refine wcond_not ?_) | ((with_reducible refine wcond_dec (fun _ => ?_) (fun _ => ?_)) <;> try (exfalso; omega)) | (with_reducible refine wcond_split (fun _ => ?_) (fun _ => ?_)) | (with_reducible refine draw_ro (by kernel_rfl) ?_) | simp +contextual -implicitDefEqProofs (disch := first | exact dsc _ | fail) only [go_sem, ↓reduceIte, Nat.reduceEqDiff, Nat.reduceAdd, Nat.reduceMul, Nat.reduceSub, Nat.reduceLT, Nat.reduceLeDiff, Nat.reduceBEq, reduceCtorEq, BEq.rfl, Int.reduceLT, Int.reduceLE, Int.reduceAdd, Int.reduceToNat, Int.reduceSub, Int.reduceMul, Int.reduceNeg, Int.reduceEq, *, sp_snapshot_Encode] | (with_reducible refine And.intro (by first | omega | assumption | rfl) ?_))
                          all_goals ((first | refine Fin_v1 (by rfl) ?_ | refine Fin_vn (by intro h; cases h) ?_ | refine Fin_f1 (by rfl) ?_ | refine Fin_fn (by intro h; cases h) (fun _ => rfl) ?_ | refine Fin_u1 (by rfl) ?_ | refine Fin_un (by intro h; cases h) ?_); try simp +contextual -implicitDefEqProofs (disch := first | exact dsc _ | fail) only [go_sem, push_cast, ↓reduceIte, Nat.reduceEqDiff, Nat.reduceAdd, Nat.reduceMul, Nat.reduceSub, Nat.reduceLT, Nat.reduceLeDiff, Nat.reduceBEq, reduceCtorEq, BEq.rfl, Int.reduceLT, Int.reduceLE, Int.reduceAdd, Int.reduceToNat, Int.reduceSub, Int.reduceMul, Int.reduceNeg, Int.reduceEq, *])
                        · obtain ⟨⟨j1, j2, j3⟩, j5⟩ := hqr rr rfl
                          repeat' (first | (with_reducible intro _) | (with_reducible refine wcond_not ?_) | ((with_reducible refine wcond_dec (fun _ => ?_) (fun _ => ?_)) <;> try (exfalso; omega)) | (with_reducible refine wcond_split (fun _ => ?_) (fun _ => ?_)) | (with_reducible refine draw_ro (by kernel_rfl) ?_) | simp +contextual -implicitDefEqProofs (disch := first | exact dsc _ | fail) only [go_sem, ↓reduceIte, Nat.reduceEqDiff, Nat.reduceAdd, Nat.reduceMul, Nat.reduceSub, Nat.reduceLT, Nat.reduceLeDiff, Nat.reduceBEq, reduceCtorEq, BEq.rfl, Int.reduceLT, Int.reduceLE, Int.reduceAdd, Int.reduceToNat, Int.reduceSub, Int.reduceMul, Int.reduceNeg, Int.reduceEq, *, sp_snapshot_Encode] | (with_reducible refine And.intro (by first | omega | assumption | rfl) ?_))
                          all_goals ((first | refine Fin_v1 (by rfl) ?_ | refine Fin_vn (by intro h; cases h) ?_ | refine Fin_f1 (by rfl) ?_ | refine Fin_fn (by intro h; cases h) (fun _ => rfl) ?_ | refine Fin_u1 (by rfl) ?_ | refine Fin_un (by intro h; cases h) ?_); try simp +contextual -implicitDefEqProofs (disch := first | exact dsc _ | fail) only [go_sem, push_cast, ↓reduceIte, Nat.reduceEqDiff, Nat.reduceAdd, Nat.reduceMul, Nat.reduceSub, Nat.reduceLT, Nat.reduceLeDiff, Nat.reduceBEq, reduceCtorEq, BEq.rfl, Int.reduceLT, Int.reduceLE, Int.reduceAdd, Int.reduceToNat, Int.reduceSub, Int.reduceMul, Int.reduceNeg, Int.reduceEq, *])
                      · have e : decW b = (⟨[], []⟩, 4) := hdec.symm.trans (if_neg (fun h => haL h.1.2))
                        rw [e]
                        clear e hdec hS hT
                        rcases q with _ | rr
                        · have hts0 := hq0 rfl
                          subst hts0
                          repeat' (first | (with_reducible intro _) | (with_reducible refine wcond_not ?_) | ((with_reducible refine wcond_dec (fun _ => ?_) (fun _ => ?_)) <;> try (exfalso; omega)) | (with_reducible refine wcond_split (fun _ => ?_) (fun _ => ?_)) | (with_reducible refine draw_ro (by kernel_rfl) ?_) | simp +contextual -implicitDefEqProofs (disch := first | exact dsc _ | fail) only [go_sem, ↓reduceIte, Nat.reduceEqDiff, Nat.reduceAdd, Nat.reduceMul, Nat.reduceSub, Nat.reduceLT, Nat.reduceLeDiff, Nat.reduceBEq, reduceCtorEq, BEq.rfl, Int.reduceLT, Int.reduceLE, Int.reduceAdd, Int.reduceToNat, Int.reduceSub, Int.reduceMul, Int.reduceNeg, Int.reduceEq, *, sp_snapshot_Encode] | (with_reducible refine And.intro (by first | omega | assumption | rfl) ?_))
                          all_goals ((first | refine Fin_v1 (by rfl) ?_ | refine Fin_vn (by intro h; cases h) ?_ | refine Fin_f1 (by rfl) ?_ | refine Fin_fn (by intro h; cases h) (fun _ => rfl) ?_ | refine Fin_u1 (by rfl) ?_ | refine Fin_un (by intro h; cases h) ?_); try simp +contextual -implicitDefEqProofs (disch := first | exact dsc _ | fail) only [go_sem, push_cast, ↓reduceIte, Nat.reduceEqDiff, Nat.reduceAdd, Nat.reduceMul, Nat.reduceSub, Nat.reduceLT, Nat.reduceLeDiff, Nat.reduceBEq, reduceCtorEq, BEq.rfl, Int.reduceLT, Int.reduceLE, Int.reduceAdd, Int.reduceToNat, Int.reduceSub, Int.reduceMul, Int.reduceNeg, Int.reduceEq, *])
                        · obtain ⟨⟨j1, j2, j3⟩, j5⟩ := hqr rr rfl
                          repeat' (first | (with_reducible intro _) | (with_reducible refine wcond_not ?_) | ((with_reducible refine wcond_dec (fun _ => ?_) (fun _ => ?_)) <;> try (exfalso; omega)) | (with_reducible refine wcond_split (fun _ => ?_) (fun _ => ?_)) | (with_reducible refine draw_ro (by kernel_rfl) ?_) | simp +contextual -implicitDefEqProofs (disch := first | exact dsc _ | fail) only [go_sem, ↓reduceIte, Nat.reduceEqDiff, Nat.reduceAdd, Nat.reduceMul, Nat.reduceSub, Nat.reduceLT, Nat.reduceLeDiff, Nat.reduceBEq, reduceCtorEq, BEq.rfl, Int.reduceLT, Int.reduceLE, Int.reduceAdd, Int.reduceToNat, Int.reduceSub, Int.reduceMul, Int.reduceNeg, Int.reduceEq, *, sp_snapshot_Encode] | (with_reducible refine And.intro (by first | omega | assumption | rfl) ?_))
                          all_goals ((first | refine Fin_v1 (by rfl) ?_ | refine Fin_vn (by intro h; cases h) ?_ | refine Fin_f1 (by rfl) ?_ | refine Fin_fn (by intro h; cases h) (fun _ => rfl) ?_ | refine Fin_u1 (by rfl) ?_ | refine Fin_un (by intro h; cases h) ?_); try simp +contextual -implicitDefEqProofs (disch := first | exact dsc _ | fail) only [go_sem, push_cast, ↓reduceIte, Nat.reduceEqDiff, Nat.reduceAdd, Nat.reduceMul, Nat.reduceSub, Nat.reduceLT, Nat.reduceLeDiff, Nat.reduceBEq, reduceCtorEq, BEq.rfl, Int.reduceLT, Int.reduceLE, Int.reduceAdd, Int.reduceToNat, Int.reduceSub, Int.reduceMul, Int.reduceNeg, Int.reduceEq, *])
                    · rw [if_neg hO] at hE
                      have e : decW b = (⟨[], []⟩, 4) := hdec.symm.trans (if_neg (fun h => hO h.2))
                      rw [e]
                      clear e hdec hS hT
                      rcases q with _ | rr
                      · have hts0 := hq0 rfl
                        subst hts0
                        repeat' (first | (with_reducible intro _) | (with_reducible refine wcond_not ?_) | ((with_reducible refine wcond_dec (fun _ => ?_) (fun _ => ?_)) <;> try (exfalso; omega)) | (with_reducible refine wcond_split (fun _ => ?_) (fun _ => ?_)) | (with_reducible refine draw_ro (by kernel_rfl) ?_) | simp +contextual -implicitDefEqProofs (disch := first | exact dsc _ | fail) only [go_sem, ↓reduceIte, Nat.reduceEqDiff, Nat.reduceAdd, Nat.reduceMul, Nat.reduceSub, Nat.reduceLT, Nat.reduceLeDiff, Nat.reduceBEq, reduceCtorEq, BEq.rfl, Int.reduceLT, Int.reduceLE, Int.reduceAdd, Int.reduceToNat, Int.reduceSub, Int.reduceMul, Int.reduceNeg, Int.reduceEq, *, sp_snapshot_Encode] | (with_reducible refine And.intro (by first | omega | assumption | rfl) ?_))
                        all_goals ((first | refine Fin_v1 (by rfl) ?_ | refine Fin_vn (by intro h; cases h) ?_ | refine Fin_f1 (by rfl) ?_ | refine Fin_fn (by intro h; cases h) (fun _ => rfl) ?_ | refine Fin_u1 (by rfl) ?_ | refine Fin_un (by intro h; cases h) ?_); try simp +contextual -implicitDefEqProofs (disch := first | exact dsc _ | fail) only [go_sem, push_cast, ↓reduceIte, Nat.reduceEqDiff, Nat.reduceAdd, Nat.reduceMul, Nat.reduceSub, Nat.reduceLT, Nat.reduceLeDiff, Nat.reduceBEq, reduceCtorEq, BEq.rfl, Int.reduceLT, Int.reduceLE, Int.reduceAdd, Int.reduceToNat, Int.reduceSub, Int.reduceMul, Int.reduceNeg, Int.reduceEq, *])
                      · obtain ⟨⟨j1, j2, j3⟩, j5⟩ := hqr rr rfl
                        repeat' (first | (with_reducible intro _) | (with_reducible refine wcond_not ?_) | ((with_reducible refine wcond_dec (fun _ => ?_) (fun _ => ?_)) <;> try (exfalso; omega)) | (with_reducible refine wcond_split (fun _ => ?_) (fun _ => ?_)) | (with_reducible refine draw_ro (by kernel_rfl) ?_) | simp +contextual -implicitDefEqProofs (disch := first | exact dsc _ | fail) only [go_sem, ↓reduceIte, Nat.reduceEqDiff, Nat.reduceAdd, Nat.reduceMul, Nat.reduceSub, Nat.reduceLT, Nat.reduceLeDiff, Nat.reduceBEq, reduceCtorEq, BEq.rfl, Int.reduceLT, Int.reduceLE, Int.reduceAdd, Int.reduceToNat, Int.reduceSub, Int.reduceMul, Int.reduceNeg, Int.reduceEq, *, sp_snapshot_Encode] | (with_reducible refine And.intro (by first | omega | assumption | rfl) ?_))
                        all_goals ((first | refine Fin_v1 (by rfl) ?_ | refine Fin_vn (by intro h; cases h) ?_ | refine Fin_f1 (by rfl) ?_ | refine Fin_fn (by intro h; cases h) (fun _ => rfl) ?_ | refine Fin_u1 (by rfl) ?_ | refine Fin_un (by intro h; cases h) ?_); try simp +contextual -implicitDefEqProofs (disch := first | exact dsc _ | fail) only [go_sem, push_cast, ↓reduceIte, Nat.reduceEqDiff, Nat.reduceAdd, Nat.reduceMul, Nat.reduceSub, Nat.reduceLT, Nat.reduceLeDiff, Nat.reduceBEq, reduceCtorEq, BEq.rfl, Int.reduceLT, Int.reduceLE, Int.reduceAdd, Int.reduceToNat, Int.reduceSub, Int.reduceMul, Int.reduceNeg, Int.reduceEq, *])
def sp_forkledgerref30_DecodeView (args : List AV) : RM CallSpec := match args with
  | [b] => (bysM b).bind fun l => mkS [.list (bys l)] [] (.val (.tup [viewA (decW l).1, .int .i64 (decW l).2])) false
  | _ => .fail
attribute [go_sem] sp_forkledgerref30_DecodeView
theorem t_forkledgerref30_DecodeView {b : List UInt8} (hb : b.length ≤ 1000000) : FnG Tryz.prog 13 [.list (bys b)] [] (.val (.tup [viewA (decW b).1, .int .i64 (decW b).2])) = True := eq_true (decView_ok hb)
attribute [go_sem ↓] t_forkledgerref30_DecodeView
end Go.Am.Tryz
