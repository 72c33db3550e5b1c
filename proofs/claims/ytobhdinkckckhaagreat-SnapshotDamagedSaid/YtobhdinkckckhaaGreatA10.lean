/- A part of the proof of the laws of layer 32: abstract values and contracts of functions; no statement of its own. -/
import Derived.Test.YtobhdinkckckhaaGreatA9
import Derived.Test.YtobhdinkckckhaaGreatA7
set_option linter.unusedSimpArgs false
set_option linter.unusedVariables false
set_option maxRecDepth 100000
set_option linter.unusedSimpArgs false
set_option linter.unusedVariables false
set_option pp.maxSteps 2000
set_option maxHeartbeats 1000000
namespace Go.Am.Tryz
open Go.Proofs
def sp_slices_insertionSortCmpFunc_S (args : List AV) : RM CallSpec := match args with
  | [.nils, a, b, f] => mkS [.nils, .int .i64 0, .int .i64 0, f] [] (.val (.tup [])) false
  | _ => .fail
attribute [go_sem] sp_slices_insertionSortCmpFunc_S
theorem t_slices_insertionSortCmpFunc_S_n {f : FuncId} : FnG Tryz.prog 111 [.nils, .int .i64 0, .int .i64 0, .func f [] []] [] (.val (.tup [])) = True := by
  refine eq_true ?_
  refine FnG_of_W (sp := spL []) (tb := tbOf Tryz.prog) (tbOf_ok _) (by kernel_rfl) Tryz.func111 (c := _) rfl (by kernel_rfl) (by kernel_rfl) (Nat.le_of_ble_eq_true rfl) (rs := []) rfl ?_
  unfold FnW
  repeat' (first | (with_reducible intro _) | (with_reducible refine wcond_not ?_) | ((with_reducible refine wcond_dec (fun _ => ?_) (fun _ => ?_)) <;> try (exfalso; omega)) | (with_reducible refine wcond_split (fun _ => ?_) (fun _ => ?_)) | (first | (with_reducible refine draw_we [(false, []), (false, []), (false, []), (false, []), (false, []), (false, []), (false, []), (false, []), (false, []), (true, []), (false, []), (false, []), (false, []), (false, [9]), (false, []), (false, []), (false, []), (false, [])] (by kernel_rfl) (by decide +kernel) ?_) | (with_reducible refine draw_ro (by kernel_rfl) ?_)) | simp +contextual -implicitDefEqProofs (disch := first | exact dsc _ | fail) only [go_sem, ↓reduceIte, Nat.reduceEqDiff, Nat.reduceAdd, Nat.reduceMul, Nat.reduceSub, Nat.reduceLT, Nat.reduceLeDiff, Nat.reduceBEq, reduceCtorEq, BEq.rfl, Int.reduceLT, Int.reduceLE, Int.reduceAdd, Int.reduceToNat, Int.reduceSub, Int.reduceMul, Int.reduceNeg, Int.reduceEq, *] | (with_reducible refine And.intro (by first | omega | assumption | rfl) ?_))
  refine wloopW (α := Unit) (fun _ => ⟨[(0, .nils), (1, .int .i64 0), (2, .int .i64 0), (3, .func f [] []), (8, .int .i64 1)], []⟩) (fun _ => True) (fun _ => 0) () ?_ ?_ ?_
  · trivial
  · simp +contextual -implicitDefEqProofs (disch := first | exact dsc _ | fail) only [go_sem, push_cast, ↓reduceIte, Nat.reduceEqDiff, Nat.reduceAdd, Nat.reduceMul, Nat.reduceSub, Nat.reduceLT, Nat.reduceLeDiff, Nat.reduceBEq, reduceCtorEq, BEq.rfl, Int.reduceLT, Int.reduceLE, Int.reduceAdd, Int.reduceToNat, Int.reduceSub, Int.reduceMul, Int.reduceNeg, Int.reduceEq, *]
  · rintro ⟨⟩ _
    repeat' (first | (with_reducible intro _) | (with_reducible refine wcond_not ?_) | ((with_reducible refine wcond_dec (fun _ => ?_) (fun _ => ?_)) <;> try (exfalso; omega)) | (with_reducible refine wcond_split (fun _ => ?_) (fun _ => ?_)) | (first | (with_reducible refine draw_we [(false, []), (false, []), (false, []), (false, []), (false, []), (false, []), (false, []), (false, []), (false, []), (true, []), (false, []), (false, []), (false, []), (false, [9]), (false, []), (false, []), (false, []), (false, [])] (by kernel_rfl) (by decide +kernel) ?_) | (with_reducible refine draw_ro (by kernel_rfl) ?_)) | simp +contextual -implicitDefEqProofs (disch := first | exact dsc _ | fail) only [go_sem, ↓reduceIte, Nat.reduceEqDiff, Nat.reduceAdd, Nat.reduceMul, Nat.reduceSub, Nat.reduceLT, Nat.reduceLeDiff, Nat.reduceBEq, reduceCtorEq, BEq.rfl, Int.reduceLT, Int.reduceLE, Int.reduceAdd, Int.reduceToNat, Int.reduceSub, Int.reduceMul, Int.reduceNeg, Int.reduceEq, *] | (with_reducible refine And.intro (by first | omega | assumption | rfl) ?_))
    all_goals ((first | refine Fin_v1 (by rfl) ?_ | refine Fin_vn (by intro h; cases h) ?_ | refine Fin_f1 (by rfl) ?_ | refine Fin_fn (by intro h; cases h) (fun _ => rfl) ?_ | refine Fin_u1 (by rfl) ?_ | refine Fin_un (by intro h; cases h) ?_); try simp +contextual -implicitDefEqProofs (disch := first | exact dsc _ | fail) only [go_sem, push_cast, ↓reduceIte, Nat.reduceEqDiff, Nat.reduceAdd, Nat.reduceMul, Nat.reduceSub, Nat.reduceLT, Nat.reduceLeDiff, Nat.reduceBEq, reduceCtorEq, BEq.rfl, Int.reduceLT, Int.reduceLE, Int.reduceAdd, Int.reduceToNat, Int.reduceSub, Int.reduceMul, Int.reduceNeg, Int.reduceEq, *])
attribute [go_sem ↓] t_slices_insertionSortCmpFunc_S_n
def sp_slices_stableCmpFunc_S (args : List AV) : RM CallSpec := match args with
  | [.nils, n, f] => mkS [.nils, .int .i64 0, f] [] (.val (.tup [])) false
  | _ => .fail
attribute [go_sem] sp_slices_stableCmpFunc_S
theorem t_slices_stableCmpFunc_S_n {f : FuncId} : FnG Tryz.prog 99 [.nils, .int .i64 0, .func f [] []] [] (.val (.tup [])) = True := by
  refine eq_true ?_
  refine FnG_of_W (sp := spL [(111, sp_slices_insertionSortCmpFunc_S)]) (tb := tbOf Tryz.prog) (tbOf_ok _) (by kernel_rfl) Tryz.func99 (c := _) rfl (by kernel_rfl) (by kernel_rfl) (Nat.le_of_ble_eq_true rfl) (rs := []) rfl ?_
  unfold FnW
  repeat' (first | (with_reducible intro _) | (with_reducible refine wcond_not ?_) | ((with_reducible refine wcond_dec (fun _ => ?_) (fun _ => ?_)) <;> try (exfalso; omega)) | (with_reducible refine wcond_split (fun _ => ?_) (fun _ => ?_)) | (with_reducible refine draw_ro (by kernel_rfl) ?_) | simp +contextual -implicitDefEqProofs (disch := first | exact dsc _ | fail) only [go_sem, ↓reduceIte, Nat.reduceEqDiff, Nat.reduceAdd, Nat.reduceMul, Nat.reduceSub, Nat.reduceLT, Nat.reduceLeDiff, Nat.reduceBEq, reduceCtorEq, BEq.rfl, Int.reduceLT, Int.reduceLE, Int.reduceAdd, Int.reduceToNat, Int.reduceSub, Int.reduceMul, Int.reduceNeg, Int.reduceEq, *] | (with_reducible refine And.intro (by first | omega | assumption | rfl) ?_))
  refine wloopW (α := Unit) (fun _ => ⟨[(0, .nils), (1, .int .i64 0), (2, .func f [] []), (6, .int .i64 20), (7, .int .i64 0), (8, .int .i64 20)], []⟩) (fun _ => True) (fun _ => 0) () ?_ ?_ ?_
  · trivial
  · simp +contextual -implicitDefEqProofs (disch := first | exact dsc _ | fail) only [go_sem, push_cast, ↓reduceIte, Nat.reduceEqDiff, Nat.reduceAdd, Nat.reduceMul, Nat.reduceSub, Nat.reduceLT, Nat.reduceLeDiff, Nat.reduceBEq, reduceCtorEq, BEq.rfl, Int.reduceLT, Int.reduceLE, Int.reduceAdd, Int.reduceToNat, Int.reduceSub, Int.reduceMul, Int.reduceNeg, Int.reduceEq, *]
  · rintro ⟨⟩ _
    repeat' (first | (with_reducible intro _) | (with_reducible refine wcond_not ?_) | ((with_reducible refine wcond_dec (fun _ => ?_) (fun _ => ?_)) <;> try (exfalso; omega)) | (with_reducible refine wcond_split (fun _ => ?_) (fun _ => ?_)) | (with_reducible refine draw_ro (by kernel_rfl) ?_) | simp +contextual -implicitDefEqProofs (disch := first | exact dsc _ | fail) only [go_sem, ↓reduceIte, Nat.reduceEqDiff, Nat.reduceAdd, Nat.reduceMul, Nat.reduceSub, Nat.reduceLT, Nat.reduceLeDiff, Nat.reduceBEq, reduceCtorEq, BEq.rfl, Int.reduceLT, Int.reduceLE, Int.reduceAdd, Int.reduceToNat, Int.reduceSub, Int.reduceMul, Int.reduceNeg, Int.reduceEq, *] | (with_reducible refine And.intro (by first | omega | assumption | rfl) ?_))
    refine wloopW (α := Unit) (fun _ => ⟨[(0, .nils), (1, .int .i64 0), (2, .func f [] []), (6, .int .i64 20)], []⟩) (fun _ => True) (fun _ => 0) () ?_ ?_ ?_
    · trivial
    · simp +contextual -implicitDefEqProofs (disch := first | exact dsc _ | fail) only [go_sem, push_cast, ↓reduceIte, Nat.reduceEqDiff, Nat.reduceAdd, Nat.reduceMul, Nat.reduceSub, Nat.reduceLT, Nat.reduceLeDiff, Nat.reduceBEq, reduceCtorEq, BEq.rfl, Int.reduceLT, Int.reduceLE, Int.reduceAdd, Int.reduceToNat, Int.reduceSub, Int.reduceMul, Int.reduceNeg, Int.reduceEq, *]
    · rintro ⟨⟩ _
      repeat' (first | (with_reducible intro _) | (with_reducible refine wcond_not ?_) | ((with_reducible refine wcond_dec (fun _ => ?_) (fun _ => ?_)) <;> try (exfalso; omega)) | (with_reducible refine wcond_split (fun _ => ?_) (fun _ => ?_)) | (with_reducible refine draw_ro (by kernel_rfl) ?_) | simp +contextual -implicitDefEqProofs (disch := first | exact dsc _ | fail) only [go_sem, ↓reduceIte, Nat.reduceEqDiff, Nat.reduceAdd, Nat.reduceMul, Nat.reduceSub, Nat.reduceLT, Nat.reduceLeDiff, Nat.reduceBEq, reduceCtorEq, BEq.rfl, Int.reduceLT, Int.reduceLE, Int.reduceAdd, Int.reduceToNat, Int.reduceSub, Int.reduceMul, Int.reduceNeg, Int.reduceEq, *] | (with_reducible refine And.intro (by first | omega | assumption | rfl) ?_))
      all_goals ((first | refine Fin_v1 (by rfl) ?_ | refine Fin_vn (by intro h; cases h) ?_ | refine Fin_f1 (by rfl) ?_ | refine Fin_fn (by intro h; cases h) (fun _ => rfl) ?_ | refine Fin_u1 (by rfl) ?_ | refine Fin_un (by intro h; cases h) ?_); try simp +contextual -implicitDefEqProofs (disch := first | exact dsc _ | fail) only [go_sem, push_cast, ↓reduceIte, Nat.reduceEqDiff, Nat.reduceAdd, Nat.reduceMul, Nat.reduceSub, Nat.reduceLT, Nat.reduceLeDiff, Nat.reduceBEq, reduceCtorEq, BEq.rfl, Int.reduceLT, Int.reduceLE, Int.reduceAdd, Int.reduceToNat, Int.reduceSub, Int.reduceMul, Int.reduceNeg, Int.reduceEq, *])
attribute [go_sem ↓] t_slices_stableCmpFunc_S_n
def sp_slices_SortStableFunc_S (args : List AV) : RM CallSpec := match args with
  | [.nils, f] => mkS [.nils, f] [] (.val (.tup [])) false
  | _ => .fail
attribute [go_sem] sp_slices_SortStableFunc_S
theorem t_slices_SortStableFunc_S_n {f : FuncId} : FnG Tryz.prog 69 [.nils, .func f [] []] [] (.val (.tup [])) = True := by
  refine eq_true ?_
  refine FnG_of_W (sp := spL [(99, sp_slices_stableCmpFunc_S)]) (tb := tbOf Tryz.prog) (tbOf_ok _) (by kernel_rfl) Tryz.func69 (c := _) rfl (by kernel_rfl) (by kernel_rfl) (Nat.le_of_ble_eq_true rfl) (rs := []) rfl ?_
  unfold FnW
  repeat' (first | (with_reducible intro _) | (with_reducible refine wcond_not ?_) | ((with_reducible refine wcond_dec (fun _ => ?_) (fun _ => ?_)) <;> try (exfalso; omega)) | (with_reducible refine wcond_split (fun _ => ?_) (fun _ => ?_)) | (with_reducible refine draw_ro (by kernel_rfl) ?_) | simp +contextual -implicitDefEqProofs (disch := first | exact dsc _ | fail) only [go_sem, ↓reduceIte, Nat.reduceEqDiff, Nat.reduceAdd, Nat.reduceMul, Nat.reduceSub, Nat.reduceLT, Nat.reduceLeDiff, Nat.reduceBEq, reduceCtorEq, BEq.rfl, Int.reduceLT, Int.reduceLE, Int.reduceAdd, Int.reduceToNat, Int.reduceSub, Int.reduceMul, Int.reduceNeg, Int.reduceEq, *] | (with_reducible refine And.intro (by first | omega | assumption | rfl) ?_))
  all_goals ((first | refine Fin_v1 (by rfl) ?_ | refine Fin_vn (by intro h; cases h) ?_ | refine Fin_f1 (by rfl) ?_ | refine Fin_fn (by intro h; cases h) (fun _ => rfl) ?_ | refine Fin_u1 (by rfl) ?_ | refine Fin_un (by intro h; cases h) ?_); try simp +contextual -implicitDefEqProofs (disch := first | exact dsc _ | fail) only [go_sem, push_cast, ↓reduceIte, Nat.reduceEqDiff, Nat.reduceAdd, Nat.reduceMul, Nat.reduceSub, Nat.reduceLT, Nat.reduceLeDiff, Nat.reduceBEq, reduceCtorEq, BEq.rfl, Int.reduceLT, Int.reduceLE, Int.reduceAdd, Int.reduceToNat, Int.reduceSub, Int.reduceMul, Int.reduceNeg, Int.reduceEq, *])
attribute [go_sem ↓] t_slices_SortStableFunc_S_n
def sp_slices_CompactFunc_S (args : List AV) : RM CallSpec := match args with
  | [.nils, f] => mkS [.nils, f] [] (.val .nils) false
  | _ => .fail
attribute [go_sem] sp_slices_CompactFunc_S
theorem t_slices_CompactFunc_S_n {f : FuncId} : FnG Tryz.prog 73 [.nils, .func f [] []] [] (.val .nils) = True := by
  refine eq_true ?_
  refine FnG_of_W (sp := spL []) (tb := tbOf Tryz.prog) (tbOf_ok _) (by kernel_rfl) Tryz.func73 (c := _) rfl (by kernel_rfl) (by kernel_rfl) (Nat.le_of_ble_eq_true rfl) (rs := [.tmp 4]) rfl ?_
  unfold FnW
  repeat' (first | (with_reducible intro _) | (with_reducible refine wcond_not ?_) | ((with_reducible refine wcond_dec (fun _ => ?_) (fun _ => ?_)) <;> try (exfalso; omega)) | (with_reducible refine wcond_split (fun _ => ?_) (fun _ => ?_)) | (with_reducible refine draw_ro (by kernel_rfl) ?_) | simp +contextual -implicitDefEqProofs (disch := first | exact dsc _ | fail) only [go_sem, ↓reduceIte, Nat.reduceEqDiff, Nat.reduceAdd, Nat.reduceMul, Nat.reduceSub, Nat.reduceLT, Nat.reduceLeDiff, Nat.reduceBEq, reduceCtorEq, BEq.rfl, Int.reduceLT, Int.reduceLE, Int.reduceAdd, Int.reduceToNat, Int.reduceSub, Int.reduceMul, Int.reduceNeg, Int.reduceEq, *] | (with_reducible refine And.intro (by first | omega | assumption | rfl) ?_))
  all_goals ((first | refine Fin_v1 (by rfl) ?_ | refine Fin_vn (by intro h; cases h) ?_ | refine Fin_f1 (by rfl) ?_ | refine Fin_fn (by intro h; cases h) (fun _ => rfl) ?_ | refine Fin_u1 (by rfl) ?_ | refine Fin_un (by intro h; cases h) ?_); try simp +contextual -implicitDefEqProofs (disch := first | exact dsc _ | fail) only [go_sem, push_cast, ↓reduceIte, Nat.reduceEqDiff, Nat.reduceAdd, Nat.reduceMul, Nat.reduceSub, Nat.reduceLT, Nat.reduceLeDiff, Nat.reduceBEq, reduceCtorEq, BEq.rfl, Int.reduceLT, Int.reduceLE, Int.reduceAdd, Int.reduceToNat, Int.reduceSub, Int.reduceMul, Int.reduceNeg, Int.reduceEq, *])
attribute [go_sem ↓] t_slices_CompactFunc_S_n
end Go.Am.Tryz
set_option maxRecDepth 100000
set_option linter.unusedSimpArgs false
set_option linter.unusedVariables false
set_option pp.maxSteps 2000
set_option maxHeartbeats 1000000
namespace Go.Am.Tryz
open Go.Proofs
theorem compact4_ok {r : Id} {cap : Nat} {x y : List UInt8} (hxy : ¬ x = y) (hc : 4 ≤ cap) : FnG Tryz.prog 74 [.own r [] 1 0 4 cap, .func 65 [] []] [(r, .row 28 1 [.list (bys x), .list (bys x), .list (bys y), .list (bys y)] 0)] (.upd (.own r [] 1 0 2 cap) [(r, .row 28 1 [.list (bys x), .list (bys y), .nils, .nils] 0)]) := by
  refine FnG_of_W (sp := spL [(65, sp_bytes_Equal)]) (tb := tbOf Tryz.prog) (tbOf_ok _) (by kernel_rfl) Tryz.func74 (c := _) rfl (by kernel_rfl) (by kernel_rfl) (Nat.le_of_ble_eq_true rfl) (rs := [.tmp 4]) rfl ?_
  unfold FnW
  have hyx : ¬ y = x := fun e => hxy e.symm
  repeat' (first | (with_reducible intro _) | (with_reducible refine wcond_not ?_) | ((with_reducible refine wcond_dec (fun _ => ?_) (fun _ => ?_)) <;> try (exfalso; omega)) | (with_reducible refine wcond_split (fun _ => ?_) (fun _ => ?_)) | (with_reducible refine draw_ro (by kernel_rfl) ?_) | simp +contextual -implicitDefEqProofs (disch := first | exact dsc _ | fail) only [go_sem, ↓reduceIte, Nat.reduceEqDiff, Nat.reduceAdd, Nat.reduceMul, Nat.reduceSub, Nat.reduceLT, Nat.reduceLeDiff, Nat.reduceBEq, reduceCtorEq, BEq.rfl, Int.reduceLT, Int.reduceLE, Int.reduceAdd, Int.reduceToNat, Int.reduceSub, Int.reduceMul, Int.reduceNeg, Int.reduceEq, *] | (with_reducible refine And.intro (by first | omega | assumption | rfl) ?_))
  refine wloopW (α := Unit) (fun _ => ⟨[(0, .own r [] 1 0 4 cap), (1, .func 65 [] []), (4, .nils), (5, .int .i64 1)], [(r, .row 28 1 [.list (bys x), .list (bys x), .list (bys y), .list (bys y)] 0)]⟩) (fun _ => True) (fun _ => 0) () ?_ ?_ ?_
  · trivial
  · simp +contextual -implicitDefEqProofs (disch := first | exact dsc _ | fail) only [go_sem, push_cast, ↓reduceIte, Nat.reduceEqDiff, Nat.reduceAdd, Nat.reduceMul, Nat.reduceSub, Nat.reduceLT, Nat.reduceLeDiff, Nat.reduceBEq, reduceCtorEq, BEq.rfl, Int.reduceLT, Int.reduceLE, Int.reduceAdd, Int.reduceToNat, Int.reduceSub, Int.reduceMul, Int.reduceNeg, Int.reduceEq, *]
  · rintro ⟨⟩ _
    repeat' (first | (with_reducible intro _) | (with_reducible refine wcond_not ?_) | ((with_reducible refine wcond_dec (fun _ => ?_) (fun _ => ?_)) <;> try (exfalso; omega)) | (with_reducible refine wcond_split (fun _ => ?_) (fun _ => ?_)) | (with_reducible refine draw_ro (by kernel_rfl) ?_) | simp +contextual -implicitDefEqProofs (disch := first | exact dsc _ | fail) only [go_sem, ↓reduceIte, Nat.reduceEqDiff, Nat.reduceAdd, Nat.reduceMul, Nat.reduceSub, Nat.reduceLT, Nat.reduceLeDiff, Nat.reduceBEq, reduceCtorEq, BEq.rfl, Int.reduceLT, Int.reduceLE, Int.reduceAdd, Int.reduceToNat, Int.reduceSub, Int.reduceMul, Int.reduceNeg, Int.reduceEq, *, List.getElem?_cons_succ, List.getElem?_cons_zero] | (with_reducible refine And.intro (by first | omega | assumption | rfl) ?_))
    refine wloopW (α := Nat) (fun i => match i with
      | 0 => ⟨[(0, .own r [] 1 0 4 cap), (1, .func 65 [] []), (5, .int .i64 1), (6, .own r [] 1 1 3 (cap - 1)), (7, .int .i64 1)], [(r, .row 28 1 [.list (bys x), .list (bys x), .list (bys y), .list (bys y)] 0)]⟩
      | 1 => ⟨[(0, .own r [] 1 0 4 cap), (1, .func 65 [] []), (5, .int .i64 2), (6, .own r [] 1 1 3 (cap - 1)), (7, .int .i64 2)], [(r, .row 28 1 [.list (bys x), .list (bys y), .list (bys y), .list (bys y)] 0)]⟩
      | _ => ⟨[(0, .own r [] 1 0 4 cap), (1, .func 65 [] []), (5, .int .i64 2), (6, .own r [] 1 1 3 (cap - 1)), (7, .int .i64 3)], [(r, .row 28 1 [.list (bys x), .list (bys y), .list (bys y), .list (bys y)] 0)]⟩)
      (fun i => i ≤ 2) (fun i => 2 - i) 0 (by decide) ?_ ?_
    · simp +contextual -implicitDefEqProofs (disch := first | exact dsc _ | fail) only [go_sem, push_cast, ↓reduceIte, Nat.reduceEqDiff, Nat.reduceAdd, Nat.reduceMul, Nat.reduceSub, Nat.reduceLT, Nat.reduceLeDiff, Nat.reduceBEq, reduceCtorEq, BEq.rfl, Int.reduceLT, Int.reduceLE, Int.reduceAdd, Int.reduceToNat, Int.reduceSub, Int.reduceMul, Int.reduceNeg, Int.reduceEq, *]
    · intro i hi
      have hi : i = 0 ∨ i = 1 ∨ i = 2 := by have : i ≤ 2 := hi; omega
      rcases hi with rfl | rfl | rfl
      · repeat' (first | (with_reducible intro _) | (with_reducible refine wcond_not ?_) | ((with_reducible refine wcond_dec (fun _ => ?_) (fun _ => ?_)) <;> try (exfalso; omega)) | (with_reducible refine wcond_split (fun _ => ?_) (fun _ => ?_)) | (with_reducible refine draw_ro (by kernel_rfl) ?_) | simp +contextual -implicitDefEqProofs (disch := first | exact dsc _ | fail) only [go_sem, ↓reduceIte, Nat.reduceEqDiff, Nat.reduceAdd, Nat.reduceMul, Nat.reduceSub, Nat.reduceLT, Nat.reduceLeDiff, Nat.reduceBEq, reduceCtorEq, BEq.rfl, Int.reduceLT, Int.reduceLE, Int.reduceAdd, Int.reduceToNat, Int.reduceSub, Int.reduceMul, Int.reduceNeg, Int.reduceEq, *, List.getElem?_cons_succ, List.getElem?_cons_zero, List.set_cons_succ, List.set_cons_zero] | (with_reducible refine And.intro (by first | omega | assumption | rfl) ?_))
        all_goals
          refine round_intro 1 (by decide) (by decide) ?_
          simp +contextual -implicitDefEqProofs (disch := first | exact dsc _ | fail) only [go_sem, push_cast, ↓reduceIte, Nat.reduceEqDiff, Nat.reduceAdd, Nat.reduceMul, Nat.reduceSub, Nat.reduceLT, Nat.reduceLeDiff, Nat.reduceBEq, reduceCtorEq, BEq.rfl, Int.reduceLT, Int.reduceLE, Int.reduceAdd, Int.reduceToNat, Int.reduceSub, Int.reduceMul, Int.reduceNeg, Int.reduceEq, *]
      · repeat' (first | (with_reducible intro _) | (with_reducible refine wcond_not ?_) | ((with_reducible refine wcond_dec (fun _ => ?_) (fun _ => ?_)) <;> try (exfalso; omega)) | (with_reducible refine wcond_split (fun _ => ?_) (fun _ => ?_)) | (with_reducible refine draw_ro (by kernel_rfl) ?_) | simp +contextual -implicitDefEqProofs (disch := first | exact dsc _ | fail) only [go_sem, ↓reduceIte, Nat.reduceEqDiff, Nat.reduceAdd, Nat.reduceMul, Nat.reduceSub, Nat.reduceLT, Nat.reduceLeDiff, Nat.reduceBEq, reduceCtorEq, BEq.rfl, Int.reduceLT, Int.reduceLE, Int.reduceAdd, Int.reduceToNat, Int.reduceSub, Int.reduceMul, Int.reduceNeg, Int.reduceEq, *, List.getElem?_cons_succ, List.getElem?_cons_zero] | (with_reducible refine And.intro (by first | omega | assumption | rfl) ?_))
        all_goals
          refine round_intro 2 (by decide) (by decide) ?_
          simp +contextual -implicitDefEqProofs (disch := first | exact dsc _ | fail) only [go_sem, push_cast, ↓reduceIte, Nat.reduceEqDiff, Nat.reduceAdd, Nat.reduceMul, Nat.reduceSub, Nat.reduceLT, Nat.reduceLeDiff, Nat.reduceBEq, reduceCtorEq, BEq.rfl, Int.reduceLT, Int.reduceLE, Int.reduceAdd, Int.reduceToNat, Int.reduceSub, Int.reduceMul, Int.reduceNeg, Int.reduceEq, *]
      · repeat' (first | (with_reducible intro _) | (with_reducible refine wcond_not ?_) | ((with_reducible refine wcond_dec (fun _ => ?_) (fun _ => ?_)) <;> try (exfalso; omega)) | (with_reducible refine wcond_split (fun _ => ?_) (fun _ => ?_)) | (with_reducible refine draw_ro (by kernel_rfl) ?_) | simp +contextual -implicitDefEqProofs (disch := first | exact dsc _ | fail) only [go_sem, ↓reduceIte, Nat.reduceEqDiff, Nat.reduceAdd, Nat.reduceMul, Nat.reduceSub, Nat.reduceLT, Nat.reduceLeDiff, Nat.reduceBEq, reduceCtorEq, BEq.rfl, Int.reduceLT, Int.reduceLE, Int.reduceAdd, Int.reduceToNat, Int.reduceSub, Int.reduceMul, Int.reduceNeg, Int.reduceEq, *] | (with_reducible refine And.intro (by first | omega | assumption | rfl) ?_))
        all_goals ((first | refine Fin_v1 (by rfl) ?_ | refine Fin_vn (by intro h; cases h) ?_ | refine Fin_f1 (by rfl) ?_ | refine Fin_fn (by intro h; cases h) (fun _ => rfl) ?_ | refine Fin_u1 (by rfl) ?_ | refine Fin_un (by intro h; cases h) ?_); try simp +contextual -implicitDefEqProofs (disch := first | exact dsc _ | fail) only [go_sem, push_cast, ↓reduceIte, Nat.reduceEqDiff, Nat.reduceAdd, Nat.reduceMul, Nat.reduceSub, Nat.reduceLT, Nat.reduceLeDiff, Nat.reduceBEq, reduceCtorEq, BEq.rfl, Int.reduceLT, Int.reduceLE, Int.reduceAdd, Int.reduceToNat, Int.reduceSub, Int.reduceMul, Int.reduceNeg, Int.reduceEq, *])
        all_goals exact ⟨by omega, rfl⟩
def sp_slices_CompactFunc_B (args : List AV) : RM CallSpec := match args with
  | [s, f] => rowM s fun r l cap => (match l with
    | [x, _, y, _] => mkS [.own r [] 1 0 4 cap, f] [(r, .row 28 1 [.list (bys x), .list (bys x), .list (bys y), .list (bys y)] 0)] (.upd (.own r [] 1 0 2 cap) [(r, .row 28 1 [.list (bys x), .list (bys y), .nils, .nils] 0)]) false
    | _ => .fail)
  | _ => .fail
attribute [go_sem] sp_slices_CompactFunc_B
theorem t_slices_CompactFunc_B_f {r : Id} {cap : Nat} (hc : 4 ≤ cap) : FnG Tryz.prog 74 [.own r [] 1 0 4 cap, .func 65 [] []] [(r, .row 28 1 [.list (bys [1]), .list (bys [1]), .list (bys [2]), .list (bys [2])] 0)] (.upd (.own r [] 1 0 2 cap) [(r, .row 28 1 [.list (bys [1]), .list (bys [2]), .nils, .nils] 0)]) = True := eq_true (compact4_ok (by decide) hc)
attribute [go_sem ↓] t_slices_CompactFunc_B_f
def v12 : View := ⟨[], [[1], [2]]⟩
theorem srt12 : srt [[1], [2], [1], [2]] 0 4 = [[1], [1], [2], [2]] := by decide +kernel
def sp_snapshot_Union (args : List AV) : RM CallSpec := match args with
  | [x, y] => mkS [viewA v12, viewA v12] [] (.val (viewA v12)) false
  | _ => .fail
attribute [go_sem] sp_snapshot_Union
theorem t_snapshot_Clone_u : FnG Tryz.prog 66 [.agg [.list [], .list [.list (bys [1]), .list (bys [2]), .list (bys [1]), .list (bys [2])]]] [] (.fresh fun r => (.agg [.nils, .own r [] 1 0 4 4], [(r, .row 28 1 [.list (bys [1]), .list (bys [2]), .list (bys [1]), .list (bys [2])] 0)])) = True :=
  t_snapshot_Clone_b (v := ⟨[], [[1], [2], [1], [2]]⟩) rfl (by simp) (by decide) (by decide) (by intro s hs; cases hs) (by simp)
attribute [go_sem ↓] t_snapshot_Clone_u
theorem t_snapshot_Union : FnG Tryz.prog 25 [viewA v12, viewA v12] [] (.val (viewA v12)) = True := by
  refine eq_true ?_
  refine FnG_of_W (sp := spL [(67, sp_slices_Concat_S), (68, sp_slices_Concat_B), (66, sp_snapshot_Clone), (69, sp_slices_SortStableFunc_S), (71, sp_slices_SortFunc_B), (72, sp_bytes_Compare), (73, sp_slices_CompactFunc_S), (63, sp_snapshot_equalVotes), (74, sp_slices_CompactFunc_B), (65, sp_bytes_Equal)]) (tb := tbOf Tryz.prog) (tbOf_ok _) (by kernel_rfl) Tryz.func25 (c := _) rfl (by kernel_rfl) (by kernel_rfl) (Nat.le_of_ble_eq_true rfl) (rs := [.cell 4 25]) rfl ?_
  unfold FnW
  unfold v12
  repeat' (first | (with_reducible intro _) | (with_reducible refine wcond_not ?_) | ((with_reducible refine wcond_dec (fun _ => ?_) (fun _ => ?_)) <;> try (exfalso; omega)) | (with_reducible refine wcond_split (fun _ => ?_) (fun _ => ?_)) | (with_reducible refine draw_we [(false, []), (true, []), (false, []), (true, [1]), (true, []), (true, []), (false, []), (true, [1, 3, 4, 5]), (false, []), (true, [1, 3, 4, 5, 7]), (true, [1, 3, 4, 5]), (true, []), (false, []), (true, []), (false, [1, 3, 4, 5, 7, 9, 10, 11, 13]), (false, [])] (by kernel_rfl) (by decide +kernel) ?_) | simp +contextual -implicitDefEqProofs (disch := first | exact dsc _ | fail) only [go_sem, ↓reduceIte, Nat.reduceEqDiff, Nat.reduceAdd, Nat.reduceMul, Nat.reduceSub, Nat.reduceLT, Nat.reduceLeDiff, Nat.reduceBEq, reduceCtorEq, BEq.rfl, Int.reduceLT, Int.reduceLE, Int.reduceAdd, Int.reduceToNat, Int.reduceSub, Int.reduceMul, Int.reduceNeg, Int.reduceEq, *, srt12, Am.mapD] | (with_reducible refine And.intro (by first | omega | assumption | rfl) ?_))
  all_goals ((first | refine Fin_v1 (by rfl) ?_ | refine Fin_vn (by intro h; cases h) ?_ | refine Fin_f1 (by rfl) ?_ | refine Fin_fn (by intro h; cases h) (fun _ => rfl) ?_ | refine Fin_u1 (by rfl) ?_ | refine Fin_un (by intro h; cases h) ?_); try simp +contextual -implicitDefEqProofs (disch := first | exact dsc _ | fail) only [go_sem, push_cast, ↓reduceIte, Nat.reduceEqDiff, Nat.reduceAdd, Nat.reduceMul, Nat.reduceSub, Nat.reduceLT, Nat.reduceLeDiff, Nat.reduceBEq, reduceCtorEq, BEq.rfl, Int.reduceLT, Int.reduceLE, Int.reduceAdd, Int.reduceToNat, Int.reduceSub, Int.reduceMul, Int.reduceNeg, Int.reduceEq, *])
attribute [go_sem ↓] t_snapshot_Union
end Go.Am.Tryz
set_option maxRecDepth 100000
set_option linter.unusedSimpArgs false
set_option linter.unusedVariables false
set_option pp.maxSteps 2000
set_option maxHeartbeats 1000000
namespace Go.Am.Tryz
open Go.Proofs
/-! what is encoded is decoded again, and the other way round -/
theorem wrapI64_nat0 {n : Nat} (hn : n < 18446744073709551616) (h : IntKind.i64.wrap (n : Int) = 0) : n = 0 := by
  simp [IntKind.wrap, IntKind.signed, IntKind.bits] at h
  omega
theorem sup_bv {x : BitVec 64} (h : (x &&& ~~~BitVec.ofInt 64 1023).toNat = 0) : x.toNat < 1024 := by
  have h' : x &&& ~~~BitVec.ofInt 64 1023 = 0#64 := by apply BitVec.eq_of_toNat_eq; simpa using h
  refine Nat.lt_pow_two_of_testBit (n := 10) _ fun i hi => ?_
  by_cases h64 : i < 64
  · have e : (x &&& ~~~BitVec.ofInt 64 1023).getLsbD i = (0#64).getLsbD i := by rw [h']
    rw [BitVec.getLsbD_and, BitVec.getLsbD_not] at e
    have m : (BitVec.ofInt 64 1023).getLsbD i = false := by
      have m1 : BitVec.ofInt 64 1023 = BitVec.ofNat 64 (2 ^ 10 - 1) := by decide
      rw [m1, BitVec.getLsbD_ofNat, Nat.testBit_two_pow_sub_one]
      simp; omega
    rw [m] at e
    rw [BitVec.getLsbD_zero] at e
    simp only [h64, decide_true, Bool.not_false, Bool.and_true] at e
    exact e
  · exact Nat.testBit_lt_two_pow (Nat.lt_of_lt_of_le x.isLt (Nat.pow_le_pow_right (by decide) (by omega)))
theorem sup_range {s : Int} (h0 : -9223372036854775808 ≤ s) (h1 : s < 9223372036854775808) (h : supX s = 0) : 0 ≤ s ∧ s < 1024 := by
  have e := wrapI64_nat0 (BitVec.isLt _) h
  have e2 := sup_bv e
  rw [BitVec.toNat_ofInt] at e2
  omega
theorem b8_nat {n : Int} (h0 : 0 ≤ n) (h1 : n < 256) : ((b8 n).toNat : Int) = n := by rw [b8_mod]; omega
theorem b8_byte (c : UInt8) : b8 (c.toNat : Int) = c := by
  apply UInt8.toNat_inj.1
  have := c.toNat_lt
  rw [b8_mod]; omega
def rngV (v : Vote) : Prop := -9223372036854775808 ≤ v.support ∧ v.support < 9223372036854775808
theorem mkV_encV {v : Vote} (hv : validV v = true) (hr : rngV v) : mkV (encV v) = v := by
  have hv : VALID v := of_decide_eq_true hv
  obtain ⟨hk, hs, hsup, hch, ⟨hsl, hsl'⟩, h3, h4, h5⟩ := hv
  obtain ⟨hu0, hu1⟩ := sup_range hr.1 hr.2 hsup
  have hround : 0 ≤ v.round ∧ v.round < 256 := by
    by_cases k3 : v.kind = 3
    · have := h3 k3; omega
    · by_cases k4 : v.kind = 4
      · have := h4 k4; omega
      · have := h5 k3 k4; omega
  have hchoice : 0 ≤ v.choice ∧ v.choice < 256 := by
    by_cases k3 : v.kind = 3
    · have := h3 k3; omega
    · by_cases k4 : v.kind = 4
      · have := h4 k4; omega
      · have := h5 k3 k4; omega
  have hslot : 0 ≤ v.slot ∧ v.slot < 256 := by
    by_cases k : v.kind ≤ 4
    · have := hsl k; omega
    · have := hsl' (by omega); omega
  have e : encV v = b8 v.kind :: b8 v.slot :: b8 v.round :: b8 v.choice :: b8 v.signer :: (be (IntKind.u64.wrap v.support).toNat 2 ++ (v.parent.l ++ v.value.l)) := by simp [encV]
  have hw : (IntKind.u64.wrap v.support).toNat = v.support.toNat := by simp [IntKind.wrap, IntKind.signed, IntKind.bits]; omega
  have hsup' : unbe (be (IntKind.u64.wrap v.support).toNat 2) = v.support.toNat := by rw [unbe_be, hw]; show v.support.toNat % 65536 = _; omega
  have hbl : (be (IntKind.u64.wrap v.support).toNat 2).length = 2 := be_len _ _
  cases v with
  | mk kind slot round choice signer support parent value =>
  simp only at *
  rw [e]
  unfold mkV
  simp only [Vote.mk.injEq]
  refine ⟨b8_nat (by omega) (by omega), b8_nat hslot.1 hslot.2, b8_nat hround.1 hround.2, b8_nat hchoice.1 hchoice.2, b8_nat (by omega) (by omega), ?_, ?_, ?_⟩
  · simp only [List.drop_succ_cons, List.drop_zero]
    rw [List.take_append_of_le_length (by omega), List.take_of_length_le (by omega), hsup']; omega
  · simp only [List.drop_succ_cons]
    rw [List.drop_append, hbl, List.drop_of_length_le (by omega), List.nil_append, show 2 - 2 = 0 from rfl, List.drop_zero, List.take_append_of_le_length (by rw [parent.h]; exact Nat.le_refl _), List.take_of_length_le (by rw [parent.h]; exact Nat.le_refl _)]
    exact nmOf_mk parent.h
  · simp only [List.drop_succ_cons]
    rw [List.drop_append, hbl, List.drop_of_length_le (by omega), List.nil_append, List.drop_append, parent.h, List.drop_of_length_le (by rw [parent.h]; decide), List.nil_append]
    show nmOf ((value.l.drop 0).take 8) = value
    rw [List.drop_zero, List.take_of_length_le (by rw [value.h]; exact Nat.le_refl _)]
    exact nmOf_mk value.h
theorem decV_encV {v : Vote} (hv : validV v = true) (hr : rngV v) : decV (encV v) = (v, 0) := by
  unfold decV
  rw [encV_len, if_neg (by decide), if_neg (by decide), mkV_encV hv hr, if_pos hv]
theorem encV_mkV {l : List UInt8} (h : l.length = 23) : encV (mkV l) = l := by
  match l, h with
  | a :: b :: c :: d :: e :: r, h =>
    have hr : r.length = 18 := by simpa using h
    have h2 : (r.take 2).length = 2 := by rw [List.length_take]; omega
    have e1 : (be (IntKind.u64.wrap (unbe (r.take 2) : Int)).toNat 2) = r.take 2 := by
      have hlt := unbe_lt (r.take 2)
      rw [h2] at hlt
      have hw : (IntKind.u64.wrap (unbe (r.take 2) : Int)).toNat = unbe (r.take 2) := by
        have : unbe (r.take 2) < 65536 := hlt
        simp [IntKind.wrap, IntKind.signed, IntKind.bits]; omega
      rw [hw]
      have := be_unbe (r.take 2)
      rw [h2] at this
      exact this
    have e2 : (nmOf ((r.drop 2).take 8)).l = (r.drop 2).take 8 := nmOf_l (by rw [List.length_take, List.length_drop]; omega)
    have e3 : (nmOf ((r.drop 10).take 8)).l = (r.drop 10).take 8 := nmOf_l (by rw [List.length_take, List.length_drop]; omega)
    show [b8 (a.toNat : Int), b8 (b.toNat : Int), b8 (c.toNat : Int), b8 (d.toNat : Int), b8 (e.toNat : Int)] ++ be (IntKind.u64.wrap (unbe (r.take 2) : Int)).toNat 2 ++ (nmOf ((r.drop 2).take 8)).l ++ (nmOf ((r.drop 10).take 8)).l = _
    rw [e1, e2, e3]
    simp only [b8_byte, List.cons_append, List.nil_append, List.append_assoc, List.cons.injEq, true_and]
    have e4 : (r.drop 10).take 8 = r.drop 10 := List.take_of_length_le (by rw [List.length_drop]; omega)
    rw [e4]
    have e5 : (r.drop 2).take 8 ++ r.drop 10 = r.drop 2 := by
      have := List.take_append_drop 8 (r.drop 2)
      rw [List.drop_drop] at this
      exact this
    rw [e5, List.take_append_drop]
theorem encV_decV {l : List UInt8} (h : (decV l).2 = 0) : encV (decV l).1 = l ∧ l.length = 23 := by
  unfold decV at *
  split at h
  · cases h
  · split at h
    · cases h
    · split at h
      · rename_i h1 h2 h3
        rw [if_neg h1, if_neg h2, if_pos h3]
        exact ⟨encV_mkV (by omega), by omega⟩
      · cases h
theorem decS_encS {s : Sgn} (h : okS s = true) (hr : rngV s.vote) : decS (encS s) = (s, 0) := by
  have hl := encS_ok h
  simp only [okS, Bool.and_eq_true, decide_eq_true_eq] at h
  have e1 : (encS s).take 23 = encV s.vote := by unfold encS; rw [List.take_append_of_le_length (by rw [encV_len]; exact Nat.le_refl _), List.take_of_length_le (by rw [encV_len]; exact Nat.le_refl _)]
  have e2 : (encS s).drop 23 = s.sig := by unfold encS; rw [List.drop_append, encV_len, List.drop_of_length_le (by rw [encV_len]; exact Nat.le_refl _)]; rfl
  unfold decS
  rw [hl, if_neg (by decide), if_neg (by decide), e1, e2, decV_encV h.1 hr, if_pos rfl]
theorem encS_decS {l : List UInt8} (h : (decS l).2 = 0) : encS (decS l).1 = l ∧ l.length = 393 := by
  unfold decS at *
  split at h
  · cases h
  · split at h
    · cases h
    · split at h
      · rename_i h1 h2 h3
        rw [if_neg h1, if_neg h2, if_pos h3]
        refine ⟨?_, by omega⟩
        show encV (decV (l.take 23)).1 ++ l.drop 23 = l
        rw [(encV_decV h3).1, List.take_append_drop]
      · contradiction
theorem seg_mid {p x q : List UInt8} {a k : Int} (ha : a = p.length) (hk : k = x.length) : seg (p ++ x ++ q) a k = x := by
  subst ha; subst hk
  unfold seg
  rw [Int.toNat_natCast, Int.toNat_natCast, List.append_assoc, List.drop_append, List.drop_of_length_le (Nat.le_refl _), List.nil_append, Nat.sub_self, List.drop_zero, List.take_append_of_le_length (Nat.le_refl _), List.take_of_length_le (Nat.le_refl _)]
theorem uintOk_mid {p x q : List UInt8} {a k : Int} (ha : a = p.length) (hk : k = x.length) (h1 : 1 ≤ k) (h8 : k ≤ 8) : uintOk (p ++ x ++ q) a k = true := by
  rw [uintOk_iff]
  simp only [List.length_append]
  omega
theorem uintV_mid {p q : List UInt8} {n k : Nat} {a : Int} (ha : a = p.length) (h1 : 1 ≤ k) (h8 : k ≤ 8) (hn : n < 256 ^ k) : uintV (p ++ be n k ++ q) a k = n := by
  have hk : (k : Int) = (be n k).length := by rw [be_len]
  unfold uintV
  rw [if_pos (uintOk_mid ha hk (by omega) (by omega)), seg_mid ha hk, unbe_be, Nat.mod_eq_of_lt hn]
theorem curU_mid {p q : List UInt8} {n : Nat} {a : Int} (ha : a = p.length) (hn : n < 4294967296) : curU (p ++ be n 4 ++ q) a 4 false = ((n : Int), a + 4, false) := by
  have h1 := uintV_mid (p := p) (q := q) (n := n) (k := 4) ha (by decide) (by decide) hn
  have h2 : uintOk (p ++ be n 4 ++ q) a 4 = true := uintOk_mid ha (by rw [be_len]; rfl) (by omega) (by omega)
  unfold curU
  rw [if_pos ⟨rfl, h2⟩]
  exact congrArg (fun m : Nat => ((m : Int), a + 4, false)) h1
theorem decVs_votes {q : List UInt8} : ∀ (ss : List Sgn) (p : List UInt8) (acc : List Sgn) (a : Int), a = p.length → ss.all okS = true → (∀ s, s ∈ ss → rngV s.vote) →
    decVs (p ++ ss.flatMap encS ++ q) ss.length acc a false = decVs (p ++ ss.flatMap encS ++ q) 0 (acc ++ ss) (a + 393 * ss.length) false
  | [], p, acc, a, ha, h, hr => by simp
  | s :: ss, p, acc, a, ha, h, hr => by
    simp only [List.all_cons, Bool.and_eq_true] at h
    have hl := encS_ok h.1
    have eb : p ++ (s :: ss).flatMap encS ++ q = (p ++ encS s) ++ ss.flatMap encS ++ q := by simp
    have eb2 : p ++ (s :: ss).flatMap encS ++ q = p ++ encS s ++ (ss.flatMap encS ++ q) := by simp
    have ec : curF (p ++ (s :: ss).flatMap encS ++ q) a 393 false = (encS s, a + 393, false) := by
      unfold curF
      rw [if_pos ⟨rfl, by rw [eb2]; simp only [List.length_append, hl]; omega⟩, eb2, seg_mid ha (by rw [hl]; rfl)]
    show (if (decS (curF (p ++ (s :: ss).flatMap encS ++ q) a 393 false).1).2 = 0 then decVs (p ++ (s :: ss).flatMap encS ++ q) ss.length (acc ++ [(decS (curF (p ++ (s :: ss).flatMap encS ++ q) a 393 false).1).1]) (curF (p ++ (s :: ss).flatMap encS ++ q) a 393 false).2.1 (curF (p ++ (s :: ss).flatMap encS ++ q) a 393 false).2.2 else (⟨[], []⟩, 4)) = _
    rw [ec]
    simp only [decS_encS h.1 (hr s (List.mem_cons_self ..)), if_true]
    rw [eb, decVs_votes ss (p ++ encS s) (acc ++ [s]) (a + 393) (by rw [List.length_append, hl, ha]; rfl) h.2 fun t ht => hr t (List.mem_cons_of_mem _ ht)]
    have e9 : acc ++ [s] ++ ss = acc ++ s :: ss := by simp
    have e10 : a + 393 + 393 * (ss.length : Int) = a + 393 * ((s :: ss).length : Int) := by rw [List.length_cons]; omega
    rw [e9, e10]
theorem curB_mid {p q t : List UInt8} {a : Int} (ha : a = p.length) (ht : okT t = true) : curB (p ++ encT t ++ q) a false = (t, a + (encT t).length, false) := by
  have ht : t.length ≤ 65535 := by simpa [okT] using ht
  have eb : p ++ encT t ++ q = p ++ be t.length 2 ++ (t ++ q) := by simp [encT]
  have eb2 : p ++ encT t ++ q = (p ++ be t.length 2) ++ t ++ q := by simp [encT]
  have hv : uintV (p ++ encT t ++ q) a 2 = t.length := by rw [eb]; exact uintV_mid (k := 2) ha (by decide) (by decide) (by show t.length < 65536; omega)
  have hL : (p ++ encT t ++ q).length = p.length + 2 + t.length + q.length := by simp [encT, be_len]; omega
  have hok : bytesOk (p ++ encT t ++ q) a = true := by rw [bytesOk_iff, hv, hL]; omega
  have hb : bytesV (p ++ encT t ++ q) a = t := by
    unfold bytesV
    rw [hv, eb2, seg_mid (by rw [List.length_append, be_len, ha]; rfl) rfl]
  unfold curB
  rw [if_pos ⟨rfl, hok⟩, hb, hv, encT_len]
  simp only [Prod.mk.injEq, true_and, and_true]
  omega
theorem decT_texts {vs : List Sgn} : ∀ (tt : List (List UInt8)) (p : List UInt8) (acc : List (List UInt8)) (a : Int), a = p.length → tt.all okT = true → ordW ⟨vs, acc ++ tt⟩ = true →
    decT (p ++ tt.flatMap encT) vs tt.length acc a false = (⟨vs, acc ++ tt⟩, 0)
  | [], p, acc, a, ha, h, ho => by
    rw [List.append_nil] at ho
    show (if (false = false ∧ a = ((p ++ []).length : Int)) ∧ ordW ⟨vs, acc⟩ = true then ((⟨vs, acc⟩ : View), (0 : Int)) else (⟨[], []⟩, 4)) = _
    rw [if_pos ⟨⟨rfl, by rw [List.append_nil]; exact ha⟩, ho⟩, List.append_nil]
  | t :: tt, p, acc, a, ha, h, ho => by
    simp only [List.all_cons, Bool.and_eq_true] at h
    have eb : p ++ (t :: tt).flatMap encT = (p ++ encT t) ++ tt.flatMap encT := by simp
    have ec := curB_mid (p := p) (q := tt.flatMap encT) ha h.1
    show (if false = true then (⟨[], []⟩, 4) else decT (p ++ (t :: tt).flatMap encT) vs tt.length (acc ++ [(curB (p ++ (t :: tt).flatMap encT) a false).1]) (curB (p ++ (t :: tt).flatMap encT) a false).2.1 (curB (p ++ (t :: tt).flatMap encT) a false).2.2) = _
    rw [if_neg (by decide), eb, ec]
    show decT (p ++ encT t ++ tt.flatMap encT) vs tt.length (acc ++ [t]) (a + (encT t).length) false = _
    rw [decT_texts tt (p ++ encT t) (acc ++ [t]) _ (by rw [List.length_append, ha]; rfl) h.2 (by rw [List.append_assoc]; exact ho), List.append_assoc]
    rfl
theorem errW_ok {v : View} (h : errW v = 0) : v.votes.all okS = true ∧ v.texts.all okT = true ∧ ordW v = true := by
  unfold errW at h
  split at h
  · rename_i h1
    split at h
    · rename_i h2; exact ⟨h1.1, h1.2, h2⟩
    · cases h
  · cases h
theorem decW_bytesW {v : View} (h : errW v = 0) (hr : ∀ s, s ∈ v.votes → rngV s.vote) (h1 : v.votes.length < 4294967296) (h2 : v.texts.length < 4294967296) : decW (bytesW v) = (v, 0) := by
  obtain ⟨hv, ht, ho⟩ := errW_ok h
  have hl := flat_len (f := encS) (n := 393) (l := v.votes) fun a ha => encS_ok (List.all_eq_true.1 hv a ha)
  have e1 : curU (bytesW v) 0 4 false = ((v.votes.length : Int), 4, false) := by
    have e : bytesW v = [] ++ be v.votes.length 4 ++ (v.votes.flatMap encS ++ be v.texts.length 4 ++ v.texts.flatMap encT) := by simp [bytesW]
    rw [e]; exact curU_mid rfl h1
  rw [decW, e1]
  show decVs (bytesW v) v.votes.length [] 4 false = _
  have e2 : bytesW v = be v.votes.length 4 ++ v.votes.flatMap encS ++ (be v.texts.length 4 ++ v.texts.flatMap encT) := by simp [bytesW]
  rw [e2, decVs_votes v.votes _ [] 4 (by rw [be_len]; rfl) hv hr, List.nil_append, ← e2]
  have e3 : bytesW v = (be v.votes.length 4 ++ v.votes.flatMap encS) ++ be v.texts.length 4 ++ v.texts.flatMap encT := rfl
  have e4 : curU (bytesW v) (4 + 393 * (v.votes.length : Int)) 4 false = ((v.texts.length : Int), 4 + 393 * (v.votes.length : Int) + 4, false) := by
    rw [e3]; exact curU_mid (by rw [List.length_append, be_len, hl]; simp) h2
  show decT (bytesW v) v.votes (curU (bytesW v) (4 + 393 * v.votes.length) 4 false).1.toNat [] (curU (bytesW v) (4 + 393 * v.votes.length) 4 false).2.1 (curU (bytesW v) (4 + 393 * v.votes.length) 4 false).2.2 = _
  rw [e4]
  show decT (bytesW v) v.votes v.texts.length [] (4 + 393 * v.votes.length + 4) false = _
  rw [e3, decT_texts v.texts _ [] _ (by simp only [List.length_append, be_len, hl]; simp) ht (by rw [List.nil_append]; exact ho), List.nil_append]
theorem take_more {b : List UInt8} {a k : Int} (h0 : 0 ≤ a) (hk : 0 ≤ k) : b.take (a + k).toNat = b.take a.toNat ++ seg b a k := by
  unfold seg
  rw [show (a + k).toNat = a.toNat + k.toNat from by omega, List.take_add]
theorem decVs_inv {b : List UInt8} : ∀ (n : Nat) (vs : List Sgn) (a : Int), 0 ≤ a → a ≤ b.length → (decVs b n vs a false).2 = 0 →
    ∃ ss : List Sgn, ss.length = n ∧ ss.all okS = true ∧ b.take (a + 393 * n).toNat = b.take a.toNat ++ ss.flatMap encS ∧ a + 393 * n ≤ b.length ∧ decVs b n vs a false = decVs b 0 (vs ++ ss) (a + 393 * n) false
  | 0, vs, a, h0, h1, h => ⟨[], rfl, rfl, by simp, by simpa using h1, by simp⟩
  | n + 1, vs, a, h0, h1, h => by
    have e : decVs b (n + 1) vs a false = (if (decS (curF b a 393 false).1).2 = 0 then decVs b n (vs ++ [(decS (curF b a 393 false).1).1]) (curF b a 393 false).2.1 (curF b a 393 false).2.2 else (⟨[], []⟩, 4)) := rfl
    by_cases hd : (decS (curF b a 393 false).1).2 = 0
    · obtain ⟨ec, h3⟩ := curF_of_ok hd
      rw [if_pos hd] at e
      have hd' := hd
      rw [ec] at e hd'
      replace hd' : (decS (seg b a 393)).2 = 0 := hd'
      replace e : decVs b (n + 1) vs a false = decVs b n (vs ++ [(decS (seg b a 393)).1]) (a + 393) false := e
      rw [e] at h
      obtain ⟨ss, k1, k2, k3, k4, k5⟩ := decVs_inv n _ (a + 393) (by omega) h3 h
      obtain ⟨e6, _⟩ := encS_decS hd'
      refine ⟨(decS (seg b a 393)).1 :: ss, by rw [List.length_cons, k1], by rw [List.all_cons, (decS_okS hd').1, k2]; rfl, ?_, by omega, ?_⟩
      · rw [show a + 393 * ((n + 1 : Nat) : Int) = a + 393 + 393 * n from by omega, k3, take_more h0 (by decide), List.flatMap_cons, e6, List.append_assoc]
      · rw [e, k5, List.append_assoc, show a + 393 * ((n + 1 : Nat) : Int) = a + 393 + 393 * n from by omega]; rfl
    · rw [if_neg hd] at e
      rw [e] at h; cases h
theorem decT_inv {b : List UInt8} {vs : List Sgn} : ∀ (n : Nat) (ts : List (List UInt8)) (a : Int), 0 ≤ a → a ≤ b.length → (decT b vs n ts a false).2 = 0 →
    ∃ tt : List (List UInt8), tt.length = n ∧ tt.all okT = true ∧ b = b.take a.toNat ++ tt.flatMap encT ∧ ordW ⟨vs, ts ++ tt⟩ = true ∧ decT b vs n ts a false = (⟨vs, ts ++ tt⟩, 0)
  | 0, ts, a, h0, h1, h => by
    have e : decT b vs 0 ts a false = (if (false = false ∧ a = (b.length : Int)) ∧ ordW ⟨vs, ts⟩ = true then (⟨vs, ts⟩, 0) else (⟨[], []⟩, 4)) := rfl
    by_cases hc : (false = false ∧ a = (b.length : Int)) ∧ ordW ⟨vs, ts⟩ = true
    · rw [if_pos hc] at e
      refine ⟨[], rfl, rfl, ?_, by rw [List.append_nil]; exact hc.2, by rw [e, List.append_nil]⟩
      rw [hc.1.2, Int.toNat_natCast, List.take_length]; simp
    · rw [if_neg hc] at e
      rw [e] at h; cases h
  | n + 1, ts, a, h0, h1, h => by
    have e : decT b vs (n + 1) ts a false = decT b vs n (ts ++ [(curB b a false).1]) (curB b a false).2.1 (curB b a false).2.2 := rfl
    by_cases hb : bytesOk b a = true
    · have ec : curB b a false = (bytesV b a, a + 2 + uintV b a 2, false) := by simp [curB, hb]
      have hi := bytesOk_iff.1 hb
      have h16 := uintV2 b a
      rw [ec] at e
      replace e : decT b vs (n + 1) ts a false = decT b vs n (ts ++ [bytesV b a]) (a + 2 + uintV b a 2) false := e
      rw [e] at h
      obtain ⟨tt, k1, k2, k3, k4, k5⟩ := decT_inv n _ _ (by omega) hi.2 h
      have hl := bytesV_len hb
      refine ⟨bytesV b a :: tt, by rw [List.length_cons, k1], ?_, ?_, ?_, ?_⟩
      · rw [List.all_cons, k2, Bool.and_true]; simp only [okT, decide_eq_true_eq]; omega
      · conv => lhs; rw [k3]
        rw [take_more (by omega) (by omega), take_more h0 (by decide), List.flatMap_cons]
        have e7 : seg b a 2 = be (bytesV b a).length 2 := by
          have hu : uintOk b a 2 = true := by rw [uintOk_iff]; omega
          have hsl : (seg b a 2).length = 2 := seg_len h0 h1 (by decide) (by omega)
          rw [hl]
          unfold uintV
          rw [if_pos hu]
          have := be_unbe (seg b a 2)
          rw [hsl] at this
          exact this.symm
        have e8 : seg b (a + 2) (uintV b a 2) = bytesV b a := rfl
        rw [e8, e7]
        simp [encT]
      · rw [List.append_assoc] at k4; exact k4
      · rw [e, k5, List.append_assoc]; rfl
    · have ec : curB b a false = ([], a, true) := by simp [curB, hb]
      rw [ec] at e
      replace e : decT b vs (n + 1) ts a false = decT b vs n (ts ++ [[]]) a true := e
      rw [e, decT_bad] at h; cases h
theorem bytesW_decW {b : List UInt8} (h : (decW b).2 = 0) : errW (decW b).1 = 0 ∧ bytesW (decW b).1 = b := by
  cases hu : uintOk b 0 4 with
  | false => rw [decW_nostart hu] at h; cases h
  | true =>
    have e1 := decW_start hu
    have hi := uintOk_iff.1 hu
    rw [e1] at h
    obtain ⟨ss, k1, k2, k3, k4, k5⟩ := decVs_inv _ [] 4 (by decide) (by omega) h
    rw [List.nil_append] at k5
    rw [k5] at h
    cases hu2 : uintOk b (4 + 393 * (uintV b 0 4 : Int)) 4 with
    | false => rw [decVs_nostart hu2] at h; cases h
    | true =>
      have e2 := decVs_start (vs := ss) hu2
      have hi2 := uintOk_iff.1 hu2
      rw [e2] at h
      obtain ⟨tt, m1, m2, m3, m4, m5⟩ := decT_inv _ [] _ (by omega) (by omega) h
      rw [List.nil_append] at m4 m5
      have eW : decW b = (⟨ss, tt⟩, 0) := by rw [e1, k5, e2, m5]
      rw [eW]
      refine ⟨by simp only [errW, k2, m2, m4, if_true, and_self], ?_⟩
      have hs1 : (seg b 0 4).length = 4 := seg_len (by decide) (by omega) (by decide) (by omega)
      have hs2 : (seg b (4 + 393 * (uintV b 0 4 : Int)) 4).length = 4 := seg_len (by omega) (by omega) (by decide) (by omega)
      have c1 : be ss.length 4 = seg b 0 4 := by
        rw [k1]; unfold uintV; rw [if_pos hu]
        have := be_unbe (seg b 0 4)
        rw [hs1] at this; exact this
      have c2 : be tt.length 4 = seg b (4 + 393 * (uintV b 0 4 : Int)) 4 := by
        rw [m1]
        generalize hz : (4 + 393 * (uintV b 0 4 : Int)) = z at *
        unfold uintV
        rw [if_pos hu2]
        have := be_unbe (seg b z 4)
        rw [hs2] at this; exact this
      show be ss.length 4 ++ ss.flatMap encS ++ be tt.length 4 ++ tt.flatMap encT = b
      have k3' : b.take (4 + 393 * (uintV b 0 4 : Int)).toNat = seg b 0 4 ++ ss.flatMap encS := by
        rw [k3]; rfl
      conv => rhs; rw [m3, take_more (by omega) (by decide), k3']
      rw [c1, c2]
end Go.Am.Tryz
set_option maxRecDepth 100000
set_option linter.unusedSimpArgs false
set_option linter.unusedVariables false
set_option pp.maxSteps 2000
set_option maxHeartbeats 4000000 
namespace Go.Am.Tryz
open Go.Proofs
/-! the small views of the law's own check -/
theorem e00 : errW ⟨[], []⟩ = 0 := by decide +kernel
theorem s00 : smallW ⟨[], []⟩ := ⟨by decide, by decide, (fun s hs => nomatch hs), (fun s hs => nomatch hs)⟩
theorem b00 : bytesW ⟨[], []⟩ = [0, 0, 0, 0, 0, 0, 0, 0] := by decide +kernel
theorem d00 : decW [0, 0, 0, 0, 0, 0, 0, 0] = (⟨[], []⟩, 0) := by decide +kernel
theorem d01 : decW [] = (⟨[], []⟩, 4) := by decide +kernel
theorem e12 : errW ⟨[], [[1], [2]]⟩ = 0 := by decide +kernel
theorem s12 : smallW ⟨[], [[1], [2]]⟩ := ⟨by decide, by decide, (fun s hs => nomatch hs), by simp⟩
theorem b12 : bytesW ⟨[], [[1], [2]]⟩ = [0, 0, 0, 0, 0, 0, 0, 2, 0, 1, 1, 0, 1, 2] := by decide +kernel
theorem r12 : rdV (bytesW ⟨[], [[1], [2]]⟩) = (⟨[], [[1], [2]]⟩, 0) := by decide +kernel
theorem l12 : (bytesW ⟨[], [[1], [2]]⟩).length ≤ 1000000000 := by rw [b12]; decide
theorem q1 : (bys [byOf 0]).set 0 (.int .u8 1) = bys [1] := rfl
theorem q2 : (bys [byOf 0]).set 0 (.int .u8 2) = bys [2] := rfl
theorem ne12 : ((⟨[], [[1], [2]]⟩ : View) = ⟨[], []⟩) = False := by simp
theorem tk8 {α : Type} {a b c d e f g h : α} : List.take 8 [a, b, c, d, e, f, g, h] = [a, b, c, d, e, f, g, h] := rfl
theorem tk2 {α : Type} {a b : α} : List.take 2 [a, b] = [a, b] := rfl
theorem tk1 {α : Type} {a : α} : List.take 1 [a] = [a] := rfl
theorem t_snapshot_Encode_z : FnG Tryz.prog 9 [viewA ⟨[], []⟩] [] (outE (bytesW ⟨[], []⟩)) = True := t_snapshot_Encode_y e00 s00
attribute [go_sem ↓] t_snapshot_Encode_z
theorem t_snapshot_Write_z {rd rm : Id} (hne : ¬ rd = rm ∧ ¬ rm = rd) : FnG Tryz.prog 17 [.ptr rd [], .str [115], viewA ⟨[], [[1], [2]]⟩] (diskH rd rm [] false false 0) (wrOut rd rm [] 0 [115] ⟨[], [[1], [2]]⟩) = True := t_snapshot_Write_y e12 s12 rfl hne (by decide) (by decide)
attribute [go_sem ↓] t_snapshot_Write_z
theorem t_snapshot_Read_z {rd rm rf rr : Id} {dur : Int} (hne : ¬ rd = rm ∧ ¬ rm = rd) (h1 : ¬ rf = rd ∧ ¬ rd = rf) (h2 : ¬ rf = rm ∧ ¬ rm = rf) (h3 : ¬ rr = rd ∧ ¬ rd = rr) (h4 : ¬ rr = rm ∧ ¬ rm = rr) (h5 : ¬ rr = rf ∧ ¬ rf = rr) : FnG Tryz.prog 15 [.ptr rd [], .str [115]] (diskH rd rm (put [] [115] rf) false false 0 ++ fileH rf rr (bytesW ⟨[], [[1], [2]]⟩) dur) (.val (.tup [viewA (rdV (bytesW ⟨[], [[1], [2]]⟩)).1, .int .i64 (rdV (bytesW ⟨[], [[1], [2]]⟩)).2])) = True := t_snapshot_Read_y look_put l12 hne (by decide) h1 h2 h3 h4 h5
attribute [go_sem ↓] t_snapshot_Read_z
def sp_forkledgerlaw32_awake (args : List AV) : RM CallSpec := match args with
  | [] => pureS [] (.bool true)
  | _ => .fail
attribute [go_sem] sp_forkledgerlaw32_awake
theorem t_forkledgerlaw32_awake : FnG Tryz.prog 8 [] [] (.val (.bool true)) = True := by
  refine eq_true ?_
  refine FnG_of_W (sp := spL [(9, sp_snapshot_Encode), (11, sp_snapshot_Decode), (14, sp_disk_New), (17, sp_snapshot_Write), (15, sp_snapshot_Read), (24, sp_snapshot_Equal), (25, sp_snapshot_Union)]) (tb := tbOf Tryz.prog) (tbOf_ok _) (by kernel_rfl) Tryz.func8 (c := _) rfl (by kernel_rfl) (by kernel_rfl) (Nat.le_of_ble_eq_true rfl) (rs := [.tmp 0]) rfl ?_
  unfold FnW
  repeat' (first | (with_reducible intro _) | (with_reducible refine wcond_not ?_) | ((with_reducible refine wcond_dec (fun _ => ?_) (fun _ => ?_)) <;> try (exfalso; omega)) | (with_reducible refine wcond_split (fun _ => ?_) (fun _ => ?_)) | (with_reducible refine draw_ro (by kernel_rfl) ?_) | simp (maxSteps := 900000) +contextual -implicitDefEqProofs (disch := first | exact dsc _ | fail) only [go_sem, ↓reduceIte, Nat.reduceEqDiff, Nat.reduceAdd, Nat.reduceMul, Nat.reduceSub, Nat.reduceLT, Nat.reduceLeDiff, Nat.reduceBEq, reduceCtorEq, BEq.rfl, Int.reduceLT, Int.reduceLE, Int.reduceAdd, Int.reduceToNat, Int.reduceSub, Int.reduceMul, Int.reduceNeg, Int.reduceEq, *, ne12, v12, newOut, wrOut, q1, q2, e00, b00, d00, d01, e12, r12, tk8, tk2, tk1, Am.mapD] | (with_reducible refine And.intro (by first | omega | assumption | rfl) ?_))
  all_goals ((first | refine Fin_v1 (by rfl) ?_ | refine Fin_vn (by intro h; cases h) ?_ | refine Fin_f1 (by rfl) ?_ | refine Fin_fn (by intro h; cases h) (fun _ => rfl) ?_ | refine Fin_u1 (by rfl) ?_ | refine Fin_un (by intro h; cases h) ?_); try simp (maxSteps := 900000) +contextual -implicitDefEqProofs (disch := first | exact dsc _ | fail) only [go_sem, push_cast, ↓reduceIte, Nat.reduceEqDiff, Nat.reduceAdd, Nat.reduceMul, Nat.reduceSub, Nat.reduceLT, Nat.reduceLeDiff, Nat.reduceBEq, reduceCtorEq, BEq.rfl, Int.reduceLT, Int.reduceLE, Int.reduceAdd, Int.reduceToNat, Int.reduceSub, Int.reduceMul, Int.reduceNeg, Int.reduceEq, *])
attribute [go_sem ↓] t_forkledgerlaw32_awake
end Go.Am.Tryz
set_option maxRecDepth 100000
set_option linter.unusedSimpArgs false
set_option linter.unusedVariables false
set_option pp.maxSteps 2000
set_option maxHeartbeats 4000000 
namespace Go.Am.Tryz
open Go.Proofs
/-- what is asked of a view that is handed in: lengths that memory can hold, whole numbers in their range -/
def inW (v : View) : Prop := v.votes.length ≤ 281474976710656 ∧ v.texts.length ≤ 281474976710656 ∧ ∀ s, s ∈ v.votes → rngV s.vote
theorem small_light {v : View} (h : ¬ 200 < heavyN v) : smallW v ∧ v.votes.length ≤ 200 ∧ v.texts.length ≤ 200 ∧ (bytesW v).length ≤ 1000000000 := by
  obtain ⟨h1, h2, h3, h4⟩ := heavy_small (Nat.le_of_not_lt h)
  have hs : smallW v := ⟨by omega, by omega, fun s hs => by have := h3 s hs; omega, fun t ht => by have := h4 t ht; omega⟩
  refine ⟨hs, h1, h2, ?_⟩
  have e1 := flat_le (l := v.votes) (f := encS) (c := 100023) fun s hs => by rw [encS_len]; have := h3 s hs; omega
  have e2 := flat_le (l := v.texts) (f := encT) (c := 300002) fun s hs => by rw [encT_len]; have := h4 s hs; omega
  have e3 : v.votes.length * 100023 ≤ 200 * 100023 := Nat.mul_le_mul_right _ h1
  have e4 : v.texts.length * 300002 ≤ 200 * 300002 := Nat.mul_le_mul_right _ h2
  simp only [bytesW, List.length_append, be_len]
  omega
theorem lawEncode {v : View} (hi : inW v) : FnG Tryz.prog 3 [viewA v] [] (.val (.bool true)) := by
  obtain ⟨h1, h3, hr⟩ := hi
  refine FnG_of_W (sp := spL [(7, sp_forkledgerlaw32_heavy), (8, sp_forkledgerlaw32_awake), (9, sp_snapshot_Encode), (10, sp_forkledgerref30_EncodeView), (11, sp_snapshot_Decode), (12, sp_forkledgerref30_SameView)]) (tb := tbOf Tryz.prog) (tbOf_ok _) (by kernel_rfl) Tryz.func3 (c := _) rfl (by kernel_rfl) (by kernel_rfl) (Nat.le_of_ble_eq_true rfl) (rs := [.tmp 2]) rfl ?_
  unfold FnW
  by_cases hv : 200 < heavyN v
  · repeat' (first | (with_reducible intro _) | (with_reducible refine wcond_not ?_) | ((with_reducible refine wcond_dec (fun _ => ?_) (fun _ => ?_)) <;> try (exfalso; omega)) | (with_reducible refine wcond_split (fun _ => ?_) (fun _ => ?_)) | (with_reducible refine draw_ro (by kernel_rfl) ?_) | simp (maxSteps := 900000) +contextual -implicitDefEqProofs (disch := first | exact dsc _ | fail) only [go_sem, ↓reduceIte, Nat.reduceEqDiff, Nat.reduceAdd, Nat.reduceMul, Nat.reduceSub, Nat.reduceLT, Nat.reduceLeDiff, Nat.reduceBEq, reduceCtorEq, BEq.rfl, Int.reduceLT, Int.reduceLE, Int.reduceAdd, Int.reduceToNat, Int.reduceSub, Int.reduceMul, Int.reduceNeg, Int.reduceEq, *] | (with_reducible refine And.intro (by first | omega | assumption | rfl) ?_))
    all_goals ((first | refine Fin_v1 (by rfl) ?_ | refine Fin_vn (by intro h; cases h) ?_ | refine Fin_f1 (by rfl) ?_ | refine Fin_fn (by intro h; cases h) (fun _ => rfl) ?_ | refine Fin_u1 (by rfl) ?_ | refine Fin_un (by intro h; cases h) ?_); try simp (maxSteps := 900000) +contextual -implicitDefEqProofs (disch := first | exact dsc _ | fail) only [go_sem, push_cast, ↓reduceIte, Nat.reduceEqDiff, Nat.reduceAdd, Nat.reduceMul, Nat.reduceSub, Nat.reduceLT, Nat.reduceLeDiff, Nat.reduceBEq, reduceCtorEq, BEq.rfl, Int.reduceLT, Int.reduceLE, Int.reduceAdd, Int.reduceToNat, Int.reduceSub, Int.reduceMul, Int.reduceNeg, Int.reduceEq, *])
  · obtain ⟨hs, k1, k2, k3⟩ := small_light hv
    by_cases he : errW v = 0
    · have hd := decW_bytesW he hr (by omega) (by omega)
      repeat' (first | (with_reducible intro _) | (with_reducible refine wcond_not ?_) | ((with_reducible refine wcond_dec (fun _ => ?_) (fun _ => ?_)) <;> try (exfalso; omega)) | (with_reducible refine wcond_split (fun _ => ?_) (fun _ => ?_)) | (with_reducible refine draw_ro (by kernel_rfl) ?_) | simp (maxSteps := 900000) +contextual -implicitDefEqProofs (disch := first | exact dsc _ | fail) only [go_sem, ↓reduceIte, Nat.reduceEqDiff, Nat.reduceAdd, Nat.reduceMul, Nat.reduceSub, Nat.reduceLT, Nat.reduceLeDiff, Nat.reduceBEq, reduceCtorEq, BEq.rfl, Int.reduceLT, Int.reduceLE, Int.reduceAdd, Int.reduceToNat, Int.reduceSub, Int.reduceMul, Int.reduceNeg, Int.reduceEq, *] | (with_reducible refine And.intro (by first | omega | assumption | rfl) ?_))
      all_goals ((first | refine Fin_v1 (by rfl) ?_ | refine Fin_vn (by intro h; cases h) ?_ | refine Fin_f1 (by rfl) ?_ | refine Fin_fn (by intro h; cases h) (fun _ => rfl) ?_ | refine Fin_u1 (by rfl) ?_ | refine Fin_un (by intro h; cases h) ?_); try simp (maxSteps := 900000) +contextual -implicitDefEqProofs (disch := first | exact dsc _ | fail) only [go_sem, push_cast, ↓reduceIte, Nat.reduceEqDiff, Nat.reduceAdd, Nat.reduceMul, Nat.reduceSub, Nat.reduceLT, Nat.reduceLeDiff, Nat.reduceBEq, reduceCtorEq, BEq.rfl, Int.reduceLT, Int.reduceLE, Int.reduceAdd, Int.reduceToNat, Int.reduceSub, Int.reduceMul, Int.reduceNeg, Int.reduceEq, *])
    · repeat' (first | (with_reducible intro _) | (with_reducible refine wcond_not ?_) | ((with_reducible refine wcond_dec (fun _ => ?_) (fun _ => ?_)) <;> try (exfalso; omega)) | (with_reducible refine wcond_split (fun _ => ?_) (fun _ => ?_)) | (with_reducible refine draw_ro (by kernel_rfl) ?_) | simp (maxSteps := 900000) +contextual -implicitDefEqProofs (disch := first | exact dsc _ | fail) only [go_sem, ↓reduceIte, Nat.reduceEqDiff, Nat.reduceAdd, Nat.reduceMul, Nat.reduceSub, Nat.reduceLT, Nat.reduceLeDiff, Nat.reduceBEq, reduceCtorEq, BEq.rfl, Int.reduceLT, Int.reduceLE, Int.reduceAdd, Int.reduceToNat, Int.reduceSub, Int.reduceMul, Int.reduceNeg, Int.reduceEq, *, d01] | (with_reducible refine And.intro (by first | omega | assumption | rfl) ?_))
      all_goals ((first | refine Fin_v1 (by rfl) ?_ | refine Fin_vn (by intro h; cases h) ?_ | refine Fin_f1 (by rfl) ?_ | refine Fin_fn (by intro h; cases h) (fun _ => rfl) ?_ | refine Fin_u1 (by rfl) ?_ | refine Fin_un (by intro h; cases h) ?_); try simp (maxSteps := 900000) +contextual -implicitDefEqProofs (disch := first | exact dsc _ | fail) only [go_sem, push_cast, ↓reduceIte, Nat.reduceEqDiff, Nat.reduceAdd, Nat.reduceMul, Nat.reduceSub, Nat.reduceLT, Nat.reduceLeDiff, Nat.reduceBEq, reduceCtorEq, BEq.rfl, Int.reduceLT, Int.reduceLE, Int.reduceAdd, Int.reduceToNat, Int.reduceSub, Int.reduceMul, Int.reduceNeg, Int.reduceEq, *])
theorem decT_err {b : List UInt8} {vs : List Sgn} : ∀ {n : Nat} {ts : List (List UInt8)} {a : Int} {d : Bool}, (decT b vs n ts a d).2 = 0 ∨ decT b vs n ts a d = (⟨[], []⟩, 4)
  | 0, ts, a, d => by
    show (if (d = false ∧ a = (b.length : Int)) ∧ ordW ⟨vs, ts⟩ = true then ((⟨vs, ts⟩ : View), (0 : Int)) else (⟨[], []⟩, 4)).2 = 0 ∨ (if (d = false ∧ a = (b.length : Int)) ∧ ordW ⟨vs, ts⟩ = true then ((⟨vs, ts⟩ : View), (0 : Int)) else (⟨[], []⟩, 4)) = _
    split
    · exact .inl rfl
    · exact .inr rfl
  | n + 1, ts, a, true => .inr decT_bad
  | n + 1, ts, a, false => decT_err (n := n)
theorem decVs_err {b : List UInt8} : ∀ {n : Nat} {vs : List Sgn} {a : Int} {d : Bool}, (decVs b n vs a d).2 = 0 ∨ decVs b n vs a d = (⟨[], []⟩, 4)
  | 0, vs, a, d => decT_err
  | n + 1, vs, a, d => by
    have e : decVs b (n + 1) vs a d = (if (decS (curF b a 393 d).1).2 = 0 then decVs b n (vs ++ [(decS (curF b a 393 d).1).1]) (curF b a 393 d).2.1 (curF b a 393 d).2.2 else (⟨[], []⟩, 4)) := rfl
    rw [e]
    split
    · exact decVs_err (n := n)
    · exact .inr rfl
theorem decW_two {b : List UInt8} (hb : b.length ≤ 50000) : (∃ w, decW b = (w, 0) ∧ errW w = 0 ∧ bytesW w = b ∧ smallW w ∧ w.votes.length ≤ 50000 ∧ w.texts.length ≤ 50000) ∨ decW b = (⟨[], []⟩, 4) := by
  rcases decVs_err (b := b) (n := (curU b 0 4 false).1.toNat) (vs := []) (a := (curU b 0 4 false).2.1) (d := (curU b 0 4 false).2.2) with h | h
  · left
    obtain ⟨k1, k2⟩ := bytesW_decW (b := b) h
    have hw : decW b = ((decW b).1, 0) := Prod.ext rfl h
    obtain ⟨v1, v2, v3⟩ := errW_ok k1
    generalize (decW b).1 = w at *
    refine ⟨w, hw, k1, k2, ?_⟩
    have hl := congrArg List.length k2
    have e1 := flat_len (f := encS) (n := 393) (l := w.votes) fun a ha => encS_ok (List.all_eq_true.1 v1 a ha)
    simp only [bytesW, List.length_append, be_len, e1] at hl
    have e2 : ∀ {l : List (List UInt8)}, l.length * 2 ≤ (l.flatMap encT).length ∧ ∀ t, t ∈ l → t.length ≤ (l.flatMap encT).length := by
      intro l
      induction l with
      | nil => exact ⟨Nat.zero_le _, fun t ht => nomatch ht⟩
      | cons x l ih =>
        rw [List.flatMap_cons, List.length_append, List.length_cons, encT_len]
        refine ⟨by omega, fun t ht => ?_⟩
        cases ht with
        | head => omega
        | tail _ hm => have := ih.2 t hm; omega
    obtain ⟨e3, e4⟩ := e2 (l := w.texts)
    refine ⟨⟨by omega, by omega, fun s hs => ?_, fun t ht => by have := e4 t ht; omega⟩, by omega, by omega⟩
    have := List.all_eq_true.1 v1 s hs
    simp only [okS, Bool.and_eq_true, decide_eq_true_eq] at this
    omega
  · exact .inr h
theorem lawDecode {b : List UInt8} (hb : b.length ≤ 281474976710656) : FnG Tryz.prog 4 [.list (bys b)] [] (.val (.bool true)) := by
  refine FnG_of_W (sp := spL [(8, sp_forkledgerlaw32_awake), (11, sp_snapshot_Decode), (13, sp_forkledgerref30_DecodeView), (12, sp_forkledgerref30_SameView), (9, sp_snapshot_Encode)]) (tb := tbOf Tryz.prog) (tbOf_ok _) (by kernel_rfl) Tryz.func4 (c := _) rfl (by kernel_rfl) (by kernel_rfl) (Nat.le_of_ble_eq_true rfl) (rs := [.tmp 2]) rfl ?_
  unfold FnW
  by_cases hv : b.length ≤ 50000
  · rcases decW_two hv with ⟨w, hw, k1, k2, k3, k4, k5⟩ | hw
    · repeat' (first | (with_reducible intro _) | (with_reducible refine wcond_not ?_) | ((with_reducible refine wcond_dec (fun _ => ?_) (fun _ => ?_)) <;> try (exfalso; omega)) | (with_reducible refine wcond_split (fun _ => ?_) (fun _ => ?_)) | (with_reducible refine draw_ro (by kernel_rfl) ?_) | simp (maxSteps := 900000) +contextual -implicitDefEqProofs (disch := first | exact dsc _ | fail) only [go_sem, ↓reduceIte, Nat.reduceEqDiff, Nat.reduceAdd, Nat.reduceMul, Nat.reduceSub, Nat.reduceLT, Nat.reduceLeDiff, Nat.reduceBEq, reduceCtorEq, BEq.rfl, Int.reduceLT, Int.reduceLE, Int.reduceAdd, Int.reduceToNat, Int.reduceSub, Int.reduceMul, Int.reduceNeg, Int.reduceEq, *] | (with_reducible refine And.intro (by first | omega | assumption | rfl) ?_))
      all_goals ((first | refine Fin_v1 (by rfl) ?_ | refine Fin_vn (by intro h; cases h) ?_ | refine Fin_f1 (by rfl) ?_ | refine Fin_fn (by intro h; cases h) (fun _ => rfl) ?_ | refine Fin_u1 (by rfl) ?_ | refine Fin_un (by intro h; cases h) ?_); try simp (maxSteps := 900000) +contextual -implicitDefEqProofs (disch := first | exact dsc _ | fail) only [go_sem, push_cast, ↓reduceIte, Nat.reduceEqDiff, Nat.reduceAdd, Nat.reduceMul, Nat.reduceSub, Nat.reduceLT, Nat.reduceLeDiff, Nat.reduceBEq, reduceCtorEq, BEq.rfl, Int.reduceLT, Int.reduceLE, Int.reduceAdd, Int.reduceToNat, Int.reduceSub, Int.reduceMul, Int.reduceNeg, Int.reduceEq, *])
    · repeat' (first | (with_reducible intro _) | (with_reducible refine wcond_not ?_) | ((with_reducible refine wcond_dec (fun _ => ?_) (fun _ => ?_)) <;> try (exfalso; omega)) | (with_reducible refine wcond_split (fun _ => ?_) (fun _ => ?_)) | (with_reducible refine draw_ro (by kernel_rfl) ?_) | simp (maxSteps := 900000) +contextual -implicitDefEqProofs (disch := first | exact dsc _ | fail) only [go_sem, ↓reduceIte, Nat.reduceEqDiff, Nat.reduceAdd, Nat.reduceMul, Nat.reduceSub, Nat.reduceLT, Nat.reduceLeDiff, Nat.reduceBEq, reduceCtorEq, BEq.rfl, Int.reduceLT, Int.reduceLE, Int.reduceAdd, Int.reduceToNat, Int.reduceSub, Int.reduceMul, Int.reduceNeg, Int.reduceEq, *, e00, b00] | (with_reducible refine And.intro (by first | omega | assumption | rfl) ?_))
      all_goals ((first | refine Fin_v1 (by rfl) ?_ | refine Fin_vn (by intro h; cases h) ?_ | refine Fin_f1 (by rfl) ?_ | refine Fin_fn (by intro h; cases h) (fun _ => rfl) ?_ | refine Fin_u1 (by rfl) ?_ | refine Fin_un (by intro h; cases h) ?_); try simp (maxSteps := 900000) +contextual -implicitDefEqProofs (disch := first | exact dsc _ | fail) only [go_sem, push_cast, ↓reduceIte, Nat.reduceEqDiff, Nat.reduceAdd, Nat.reduceMul, Nat.reduceSub, Nat.reduceLT, Nat.reduceLeDiff, Nat.reduceBEq, reduceCtorEq, BEq.rfl, Int.reduceLT, Int.reduceLE, Int.reduceAdd, Int.reduceToNat, Int.reduceSub, Int.reduceMul, Int.reduceNeg, Int.reduceEq, *])
  · repeat' (first | (with_reducible intro _) | (with_reducible refine wcond_not ?_) | ((with_reducible refine wcond_dec (fun _ => ?_) (fun _ => ?_)) <;> try (exfalso; omega)) | (with_reducible refine wcond_split (fun _ => ?_) (fun _ => ?_)) | (with_reducible refine draw_ro (by kernel_rfl) ?_) | simp (maxSteps := 900000) +contextual -implicitDefEqProofs (disch := first | exact dsc _ | fail) only [go_sem, ↓reduceIte, Nat.reduceEqDiff, Nat.reduceAdd, Nat.reduceMul, Nat.reduceSub, Nat.reduceLT, Nat.reduceLeDiff, Nat.reduceBEq, reduceCtorEq, BEq.rfl, Int.reduceLT, Int.reduceLE, Int.reduceAdd, Int.reduceToNat, Int.reduceSub, Int.reduceMul, Int.reduceNeg, Int.reduceEq, *] | (with_reducible refine And.intro (by first | omega | assumption | rfl) ?_))
    all_goals ((first | refine Fin_v1 (by rfl) ?_ | refine Fin_vn (by intro h; cases h) ?_ | refine Fin_f1 (by rfl) ?_ | refine Fin_fn (by intro h; cases h) (fun _ => rfl) ?_ | refine Fin_u1 (by rfl) ?_ | refine Fin_un (by intro h; cases h) ?_); try simp (maxSteps := 900000) +contextual -implicitDefEqProofs (disch := first | exact dsc _ | fail) only [go_sem, push_cast, ↓reduceIte, Nat.reduceEqDiff, Nat.reduceAdd, Nat.reduceMul, Nat.reduceSub, Nat.reduceLT, Nat.reduceLeDiff, Nat.reduceBEq, reduceCtorEq, BEq.rfl, Int.reduceLT, Int.reduceLE, Int.reduceAdd, Int.reduceToNat, Int.reduceSub, Int.reduceMul, Int.reduceNeg, Int.reduceEq, *])
theorem look_nil {n : List UInt8} : look [] n = none := rfl
theorem t_snapshot_Read_w {rd rm : Id} (hne : ¬ rd = rm ∧ ¬ rm = rd) : FnG Tryz.prog 15 [.ptr rd [], .str [115]] (diskH rd rm [] false false 0) (.val (.tup [viewA ⟨[], []⟩, .int .i64 6])) = True := t_snapshot_Read_n rfl hne (by decide)
attribute [go_sem ↓] t_snapshot_Read_w
theorem t_disk_Disk_Append_w {rd rm : Id} {b : List UInt8} (hne : ¬ rd = rm ∧ ¬ rm = rd) (hb : b.length ≤ 35184372080000) : FnG Tryz.prog 16 [.ptr rd [], .str [115], .list (bys b)] (diskH rd rm [] false false 0) (appOut rd rm [] 0 [115] b) = True := t_disk_Disk_Append rfl hne (by decide) hb
attribute [go_sem ↓] t_disk_Disk_Append_w
theorem t_snapshot_Read_v {rd rm rf rr : Id} {b : List UInt8} {dur : Int} (hb : b.length ≤ 1000000000) (hne : ¬ rd = rm ∧ ¬ rm = rd) (h1 : ¬ rf = rd ∧ ¬ rd = rf) (h2 : ¬ rf = rm ∧ ¬ rm = rf) (h3 : ¬ rr = rd ∧ ¬ rd = rr) (h4 : ¬ rr = rm ∧ ¬ rm = rr) (h5 : ¬ rr = rf ∧ ¬ rf = rr) : FnG Tryz.prog 15 [.ptr rd [], .str [115]] (diskH rd rm (put [] [115] rf) false false 0 ++ fileH rf rr b dur) (.val (.tup [viewA (rdV b).1, .int .i64 (rdV b).2])) = True := t_snapshot_Read_y look_put hb hne (by decide) h1 h2 h3 h4 h5
attribute [go_sem ↓] t_snapshot_Read_v
theorem lawDamaged {b : List UInt8} (hb : b.length ≤ 281474976710656) : FnG Tryz.prog 5 [.list (bys b)] [] (.val (.bool true)) := by
  refine FnG_of_W (sp := spL [(8, sp_forkledgerlaw32_awake), (14, sp_disk_New), (15, sp_snapshot_Read), (16, sp_disk_Disk_Append), (13, sp_forkledgerref30_DecodeView), (12, sp_forkledgerref30_SameView)]) (tb := tbOf Tryz.prog) (tbOf_ok _) (by kernel_rfl) Tryz.func5 (c := _) rfl (by kernel_rfl) (by kernel_rfl) (Nat.le_of_ble_eq_true rfl) (rs := [.tmp 2]) rfl ?_
  unfold FnW
  by_cases hv : b.length ≤ 20000
  · rcases decW_two (b := b) (by omega) with ⟨w, hw, k1, k2, k3, k4, k5⟩ | hw
    · have hrd : rdV b = (w, 0) := by simp [rdV, hw]
      repeat' (first | (with_reducible intro _) | (with_reducible refine wcond_not ?_) | ((with_reducible refine wcond_dec (fun _ => ?_) (fun _ => ?_)) <;> try (exfalso; omega)) | (with_reducible refine wcond_split (fun _ => ?_) (fun _ => ?_)) | (with_reducible refine draw_ro (by kernel_rfl) ?_) | simp (maxSteps := 900000) +contextual -implicitDefEqProofs (disch := first | exact dsc _ | fail) only [go_sem, ↓reduceIte, Nat.reduceEqDiff, Nat.reduceAdd, Nat.reduceMul, Nat.reduceSub, Nat.reduceLT, Nat.reduceLeDiff, Nat.reduceBEq, reduceCtorEq, BEq.rfl, Int.reduceLT, Int.reduceLE, Int.reduceAdd, Int.reduceToNat, Int.reduceSub, Int.reduceMul, Int.reduceNeg, Int.reduceEq, *, look_nil, newOut, appOut] | (with_reducible refine And.intro (by first | omega | assumption | rfl) ?_))
      all_goals ((first | refine Fin_v1 (by rfl) ?_ | refine Fin_vn (by intro h; cases h) ?_ | refine Fin_f1 (by rfl) ?_ | refine Fin_fn (by intro h; cases h) (fun _ => rfl) ?_ | refine Fin_u1 (by rfl) ?_ | refine Fin_un (by intro h; cases h) ?_); try simp (maxSteps := 900000) +contextual -implicitDefEqProofs (disch := first | exact dsc _ | fail) only [go_sem, push_cast, ↓reduceIte, Nat.reduceEqDiff, Nat.reduceAdd, Nat.reduceMul, Nat.reduceSub, Nat.reduceLT, Nat.reduceLeDiff, Nat.reduceBEq, reduceCtorEq, BEq.rfl, Int.reduceLT, Int.reduceLE, Int.reduceAdd, Int.reduceToNat, Int.reduceSub, Int.reduceMul, Int.reduceNeg, Int.reduceEq, *])
    · have hrd : rdV b = (⟨[], []⟩, 104) := by simp [rdV, hw]
      repeat' (first | (with_reducible intro _) | (with_reducible refine wcond_not ?_) | ((with_reducible refine wcond_dec (fun _ => ?_) (fun _ => ?_)) <;> try (exfalso; omega)) | (with_reducible refine wcond_split (fun _ => ?_) (fun _ => ?_)) | (with_reducible refine draw_ro (by kernel_rfl) ?_) | simp (maxSteps := 900000) +contextual -implicitDefEqProofs (disch := first | exact dsc _ | fail) only [go_sem, ↓reduceIte, Nat.reduceEqDiff, Nat.reduceAdd, Nat.reduceMul, Nat.reduceSub, Nat.reduceLT, Nat.reduceLeDiff, Nat.reduceBEq, reduceCtorEq, BEq.rfl, Int.reduceLT, Int.reduceLE, Int.reduceAdd, Int.reduceToNat, Int.reduceSub, Int.reduceMul, Int.reduceNeg, Int.reduceEq, *, look_nil, newOut, appOut] | (with_reducible refine And.intro (by first | omega | assumption | rfl) ?_))
      all_goals ((first | refine Fin_v1 (by rfl) ?_ | refine Fin_vn (by intro h; cases h) ?_ | refine Fin_f1 (by rfl) ?_ | refine Fin_fn (by intro h; cases h) (fun _ => rfl) ?_ | refine Fin_u1 (by rfl) ?_ | refine Fin_un (by intro h; cases h) ?_); try simp (maxSteps := 900000) +contextual -implicitDefEqProofs (disch := first | exact dsc _ | fail) only [go_sem, push_cast, ↓reduceIte, Nat.reduceEqDiff, Nat.reduceAdd, Nat.reduceMul, Nat.reduceSub, Nat.reduceLT, Nat.reduceLeDiff, Nat.reduceBEq, reduceCtorEq, BEq.rfl, Int.reduceLT, Int.reduceLE, Int.reduceAdd, Int.reduceToNat, Int.reduceSub, Int.reduceMul, Int.reduceNeg, Int.reduceEq, *])
  · repeat' (first | (with_reducible intro _) | (with_reducible refine wcond_not ?_) | ((with_reducible refine wcond_dec (fun _ => ?_) (fun _ => ?_)) <;> try (exfalso; omega)) | (with_reducible refine wcond_split (fun _ => ?_) (fun _ => ?_)) | (with_reducible refine draw_ro (by kernel_rfl) ?_) | simp (maxSteps := 900000) +contextual -implicitDefEqProofs (disch := first | exact dsc _ | fail) only [go_sem, ↓reduceIte, Nat.reduceEqDiff, Nat.reduceAdd, Nat.reduceMul, Nat.reduceSub, Nat.reduceLT, Nat.reduceLeDiff, Nat.reduceBEq, reduceCtorEq, BEq.rfl, Int.reduceLT, Int.reduceLE, Int.reduceAdd, Int.reduceToNat, Int.reduceSub, Int.reduceMul, Int.reduceNeg, Int.reduceEq, *] | (with_reducible refine And.intro (by first | omega | assumption | rfl) ?_))
    all_goals ((first | refine Fin_v1 (by rfl) ?_ | refine Fin_vn (by intro h; cases h) ?_ | refine Fin_f1 (by rfl) ?_ | refine Fin_fn (by intro h; cases h) (fun _ => rfl) ?_ | refine Fin_u1 (by rfl) ?_ | refine Fin_un (by intro h; cases h) ?_); try simp (maxSteps := 900000) +contextual -implicitDefEqProofs (disch := first | exact dsc _ | fail) only [go_sem, push_cast, ↓reduceIte, Nat.reduceEqDiff, Nat.reduceAdd, Nat.reduceMul, Nat.reduceSub, Nat.reduceLT, Nat.reduceLeDiff, Nat.reduceBEq, reduceCtorEq, BEq.rfl, Int.reduceLT, Int.reduceLE, Int.reduceAdd, Int.reduceToNat, Int.reduceSub, Int.reduceMul, Int.reduceNeg, Int.reduceEq, *])
end Go.Am.Tryz
