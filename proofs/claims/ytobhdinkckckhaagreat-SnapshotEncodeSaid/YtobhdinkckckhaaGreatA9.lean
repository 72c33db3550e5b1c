/- A part of the proof of the laws of layer 32: abstract values and contracts of functions; no statement of its own. -/
import Derived.Test.YtobhdinkckckhaaGreatA8
import Derived.Sort.Defs
set_option linter.unusedSimpArgs false
set_option linter.unusedVariables false
set_option maxRecDepth 100000
set_option linter.unusedSimpArgs false
set_option linter.unusedVariables false
set_option pp.maxSteps 2000
set_option maxHeartbeats 4000000
namespace Go.Am.Tryz
open Go.Proofs
def sp_snapshot_cloneVote (args : List AV) : RM CallSpec := match args with
  | [x] => (opt (sgnD x)).bind fun s => mkS [sgnA s] [] (.val (sgnA s)) false
  | _ => .fail
attribute [go_sem] sp_snapshot_cloneVote
theorem t_snapshot_cloneVote {s : Sgn} (hl : s.sig.length ≤ 35184372080000) : FnG Tryz.prog 96 [sgnA s] [] (.val (sgnA s)) = True := by
  refine eq_true ?_
  refine FnG_of_W (sp := spL [(86, sp_bytes_Clone)]) (tb := tbOf Tryz.prog) (tbOf_ok _) (by kernel_rfl) Tryz.func96 (c := _) rfl (by kernel_rfl) (by kernel_rfl) (Nat.le_of_ble_eq_true rfl) (rs := [.cell 2 57]) rfl ?_
  unfold FnW
  repeat' (first | (with_reducible intro _) | (with_reducible refine wcond_not ?_) | ((with_reducible refine wcond_dec (fun _ => ?_) (fun _ => ?_)) <;> try (exfalso; omega)) | (with_reducible refine wcond_split (fun _ => ?_) (fun _ => ?_)) | (with_reducible refine draw_ro (by kernel_rfl) ?_) | simp +contextual -implicitDefEqProofs (disch := first | exact dsc _ | fail) only [go_sem, ↓reduceIte, Nat.reduceEqDiff, Nat.reduceAdd, Nat.reduceMul, Nat.reduceSub, Nat.reduceLT, Nat.reduceLeDiff, Nat.reduceBEq, reduceCtorEq, BEq.rfl, Int.reduceLT, Int.reduceLE, Int.reduceAdd, Int.reduceToNat, Int.reduceSub, Int.reduceMul, Int.reduceNeg, Int.reduceEq, *] | (with_reducible refine And.intro (by first | omega | assumption | rfl) ?_))
  all_goals ((first | refine Fin_v1 (by rfl) ?_ | refine Fin_vn (by intro h; cases h) ?_ | refine Fin_f1 (by rfl) ?_ | refine Fin_fn (by intro h; cases h) (fun _ => rfl) ?_ | refine Fin_u1 (by rfl) ?_ | refine Fin_un (by intro h; cases h) ?_); try simp +contextual -implicitDefEqProofs (disch := first | exact dsc _ | fail) only [go_sem, push_cast, ↓reduceIte, Nat.reduceEqDiff, Nat.reduceAdd, Nat.reduceMul, Nat.reduceSub, Nat.reduceLT, Nat.reduceLeDiff, Nat.reduceBEq, reduceCtorEq, BEq.rfl, Int.reduceLT, Int.reduceLE, Int.reduceAdd, Int.reduceToNat, Int.reduceSub, Int.reduceMul, Int.reduceNeg, Int.reduceEq, *])
attribute [go_sem ↓] t_snapshot_cloneVote
def sp_slices_Grow_S (args : List AV) : RM CallSpec := match args with
  | [s, .int .i64 n] => if n = 0 then mkS [.nils, .int .i64 0] [] (.val .nils) false else mkS [.nils, .int .i64 n] [] (.fresh fun r => (.own r [] 23 0 0 n.toNat, [(r, .row 57 23 (List.replicate n.toNat (.agg [(.agg [(.int .i64 0), (.int .i64 0), (.int .i64 0), (.int .i64 0), (.int .i64 0), (.int .i64 0), (.agg (List.replicate 8 (.int .u8 0))), (.agg (List.replicate 8 (.int .u8 0)))]), .nils])) 0)])) false
  | _ => .fail
attribute [go_sem] sp_slices_Grow_S
theorem t_slices_Grow_S_n : FnG Tryz.prog 97 [.nils, .int .i64 0] [] (.val .nils) = True := by
  refine eq_true ?_
  refine FnG_of_W (sp := spL []) (tb := tbOf Tryz.prog) (tbOf_ok _) (by kernel_rfl) Tryz.func97 (c := _) rfl (by kernel_rfl) (by kernel_rfl) (Nat.le_of_ble_eq_true rfl) (rs := [.tmp 4]) rfl ?_
  unfold FnW
  repeat' (first | (with_reducible intro _) | (with_reducible refine wcond_not ?_) | ((with_reducible refine wcond_dec (fun _ => ?_) (fun _ => ?_)) <;> try (exfalso; omega)) | (with_reducible refine wcond_split (fun _ => ?_) (fun _ => ?_)) | (with_reducible refine draw_ro (by kernel_rfl) ?_) | simp +contextual -implicitDefEqProofs (disch := first | exact dsc _ | fail) only [go_sem, ↓reduceIte, Nat.reduceEqDiff, Nat.reduceAdd, Nat.reduceMul, Nat.reduceSub, Nat.reduceLT, Nat.reduceLeDiff, Nat.reduceBEq, reduceCtorEq, BEq.rfl, Int.reduceLT, Int.reduceLE, Int.reduceAdd, Int.reduceToNat, Int.reduceSub, Int.reduceMul, Int.reduceNeg, Int.reduceEq, *] | (with_reducible refine And.intro (by first | omega | assumption | rfl) ?_))
  all_goals ((first | refine Fin_v1 (by rfl) ?_ | refine Fin_vn (by intro h; cases h) ?_ | refine Fin_f1 (by rfl) ?_ | refine Fin_fn (by intro h; cases h) (fun _ => rfl) ?_ | refine Fin_u1 (by rfl) ?_ | refine Fin_un (by intro h; cases h) ?_); try simp +contextual -implicitDefEqProofs (disch := first | exact dsc _ | fail) only [go_sem, push_cast, ↓reduceIte, Nat.reduceEqDiff, Nat.reduceAdd, Nat.reduceMul, Nat.reduceSub, Nat.reduceLT, Nat.reduceLeDiff, Nat.reduceBEq, reduceCtorEq, BEq.rfl, Int.reduceLT, Int.reduceLE, Int.reduceAdd, Int.reduceToNat, Int.reduceSub, Int.reduceMul, Int.reduceNeg, Int.reduceEq, *])
attribute [go_sem ↓] t_slices_Grow_S_n
theorem t_slices_Grow_S_y {n : Int} (h0 : 0 < n) (h1 : n ≤ 10000000000) : FnG Tryz.prog 97 [.nils, .int .i64 n] [] (.fresh fun r => (.own r [] 23 0 0 n.toNat, [(r, .row 57 23 (List.replicate n.toNat (.agg [(.agg [(.int .i64 0), (.int .i64 0), (.int .i64 0), (.int .i64 0), (.int .i64 0), (.int .i64 0), (.agg (List.replicate 8 (.int .u8 0))), (.agg (List.replicate 8 (.int .u8 0)))]), .nils])) 0)])) = True := by
  refine eq_true ?_
  refine FnG_of_W (sp := spL []) (tb := tbOf Tryz.prog) (tbOf_ok _) (by kernel_rfl) Tryz.func97 (c := _) rfl (by kernel_rfl) (by kernel_rfl) (Nat.le_of_ble_eq_true rfl) (rs := [.tmp 4]) rfl ?_
  unfold FnW
  repeat' (first | (with_reducible intro _) | (with_reducible refine wcond_not ?_) | ((with_reducible refine wcond_dec (fun _ => ?_) (fun _ => ?_)) <;> try (exfalso; omega)) | (with_reducible refine wcond_split (fun _ => ?_) (fun _ => ?_)) | (with_reducible refine draw_ro (by kernel_rfl) ?_) | simp +contextual -implicitDefEqProofs (disch := first | exact dsc _ | fail) only [go_sem, ↓reduceIte, Nat.reduceEqDiff, Nat.reduceAdd, Nat.reduceMul, Nat.reduceSub, Nat.reduceLT, Nat.reduceLeDiff, Nat.reduceBEq, reduceCtorEq, BEq.rfl, Int.reduceLT, Int.reduceLE, Int.reduceAdd, Int.reduceToNat, Int.reduceSub, Int.reduceMul, Int.reduceNeg, Int.reduceEq, *] | (with_reducible refine And.intro (by first | omega | assumption | rfl) ?_))
  all_goals ((first | refine Fin_v1 (by rfl) ?_ | refine Fin_vn (by intro h; cases h) ?_ | refine Fin_f1 (by rfl) ?_ | refine Fin_fn (by intro h; cases h) (fun _ => rfl) ?_ | refine Fin_u1 (by rfl) ?_ | refine Fin_un (by intro h; cases h) ?_); try simp +contextual -implicitDefEqProofs (disch := first | exact dsc _ | fail) only [go_sem, push_cast, ↓reduceIte, Nat.reduceEqDiff, Nat.reduceAdd, Nat.reduceMul, Nat.reduceSub, Nat.reduceLT, Nat.reduceLeDiff, Nat.reduceBEq, reduceCtorEq, BEq.rfl, Int.reduceLT, Int.reduceLE, Int.reduceAdd, Int.reduceToNat, Int.reduceSub, Int.reduceMul, Int.reduceNeg, Int.reduceEq, *])
  all_goals exact ⟨by omega, by omega, by rw [show n - 0 = n from by omega]⟩
attribute [go_sem ↓] t_slices_Grow_S_y
def sp_slices_Grow_B (args : List AV) : RM CallSpec := match args with
  | [s, .int .i64 n] => if n = 0 then mkS [.nils, .int .i64 0] [] (.val .nils) false else mkS [.nils, .int .i64 n] [] (.fresh fun r => (.own r [] 1 0 0 n.toNat, [(r, .row 28 1 (List.replicate n.toNat .nils) 0)])) false
  | _ => .fail
attribute [go_sem] sp_slices_Grow_B
theorem t_slices_Grow_B_n : FnG Tryz.prog 98 [.nils, .int .i64 0] [] (.val .nils) = True := by
  refine eq_true ?_
  refine FnG_of_W (sp := spL []) (tb := tbOf Tryz.prog) (tbOf_ok _) (by kernel_rfl) Tryz.func98 (c := _) rfl (by kernel_rfl) (by kernel_rfl) (Nat.le_of_ble_eq_true rfl) (rs := [.tmp 4]) rfl ?_
  unfold FnW
  repeat' (first | (with_reducible intro _) | (with_reducible refine wcond_not ?_) | ((with_reducible refine wcond_dec (fun _ => ?_) (fun _ => ?_)) <;> try (exfalso; omega)) | (with_reducible refine wcond_split (fun _ => ?_) (fun _ => ?_)) | (with_reducible refine draw_ro (by kernel_rfl) ?_) | simp +contextual -implicitDefEqProofs (disch := first | exact dsc _ | fail) only [go_sem, ↓reduceIte, Nat.reduceEqDiff, Nat.reduceAdd, Nat.reduceMul, Nat.reduceSub, Nat.reduceLT, Nat.reduceLeDiff, Nat.reduceBEq, reduceCtorEq, BEq.rfl, Int.reduceLT, Int.reduceLE, Int.reduceAdd, Int.reduceToNat, Int.reduceSub, Int.reduceMul, Int.reduceNeg, Int.reduceEq, *] | (with_reducible refine And.intro (by first | omega | assumption | rfl) ?_))
  all_goals ((first | refine Fin_v1 (by rfl) ?_ | refine Fin_vn (by intro h; cases h) ?_ | refine Fin_f1 (by rfl) ?_ | refine Fin_fn (by intro h; cases h) (fun _ => rfl) ?_ | refine Fin_u1 (by rfl) ?_ | refine Fin_un (by intro h; cases h) ?_); try simp +contextual -implicitDefEqProofs (disch := first | exact dsc _ | fail) only [go_sem, push_cast, ↓reduceIte, Nat.reduceEqDiff, Nat.reduceAdd, Nat.reduceMul, Nat.reduceSub, Nat.reduceLT, Nat.reduceLeDiff, Nat.reduceBEq, reduceCtorEq, BEq.rfl, Int.reduceLT, Int.reduceLE, Int.reduceAdd, Int.reduceToNat, Int.reduceSub, Int.reduceMul, Int.reduceNeg, Int.reduceEq, *])
attribute [go_sem ↓] t_slices_Grow_B_n
theorem t_slices_Grow_B_y {n : Int} (h0 : 0 < n) (h1 : n ≤ 10000000000) : FnG Tryz.prog 98 [.nils, .int .i64 n] [] (.fresh fun r => (.own r [] 1 0 0 n.toNat, [(r, .row 28 1 (List.replicate n.toNat .nils) 0)])) = True := by
  refine eq_true ?_
  refine FnG_of_W (sp := spL []) (tb := tbOf Tryz.prog) (tbOf_ok _) (by kernel_rfl) Tryz.func98 (c := _) rfl (by kernel_rfl) (by kernel_rfl) (Nat.le_of_ble_eq_true rfl) (rs := [.tmp 4]) rfl ?_
  unfold FnW
  repeat' (first | (with_reducible intro _) | (with_reducible refine wcond_not ?_) | ((with_reducible refine wcond_dec (fun _ => ?_) (fun _ => ?_)) <;> try (exfalso; omega)) | (with_reducible refine wcond_split (fun _ => ?_) (fun _ => ?_)) | (with_reducible refine draw_ro (by kernel_rfl) ?_) | simp +contextual -implicitDefEqProofs (disch := first | exact dsc _ | fail) only [go_sem, ↓reduceIte, Nat.reduceEqDiff, Nat.reduceAdd, Nat.reduceMul, Nat.reduceSub, Nat.reduceLT, Nat.reduceLeDiff, Nat.reduceBEq, reduceCtorEq, BEq.rfl, Int.reduceLT, Int.reduceLE, Int.reduceAdd, Int.reduceToNat, Int.reduceSub, Int.reduceMul, Int.reduceNeg, Int.reduceEq, *] | (with_reducible refine And.intro (by first | omega | assumption | rfl) ?_))
  all_goals ((first | refine Fin_v1 (by rfl) ?_ | refine Fin_vn (by intro h; cases h) ?_ | refine Fin_f1 (by rfl) ?_ | refine Fin_fn (by intro h; cases h) (fun _ => rfl) ?_ | refine Fin_u1 (by rfl) ?_ | refine Fin_un (by intro h; cases h) ?_); try simp +contextual -implicitDefEqProofs (disch := first | exact dsc _ | fail) only [go_sem, push_cast, ↓reduceIte, Nat.reduceEqDiff, Nat.reduceAdd, Nat.reduceMul, Nat.reduceSub, Nat.reduceLT, Nat.reduceLeDiff, Nat.reduceBEq, reduceCtorEq, BEq.rfl, Int.reduceLT, Int.reduceLE, Int.reduceAdd, Int.reduceToNat, Int.reduceSub, Int.reduceMul, Int.reduceNeg, Int.reduceEq, *])
  all_goals exact ⟨by omega, by omega, by rw [show n - 0 = n from by omega]⟩
attribute [go_sem ↓] t_slices_Grow_B_y
def catP {α : Type} (a b : List α) (i : Nat) : List α := if i = 0 then [] else if i = 1 then a else a ++ b
def sp_slices_Concat_S (args : List AV) : RM CallSpec := match args with
  | [x] => (match x with
    | .own q p sz off len cap => (match p with | [] => @getI _ q ⟨fun e => (match e with | some (.row _ _ l _) => (match l with | [x0, x1] => (sgnsM x0).bind fun a => (sgnsM x1).bind fun b => mkS [.own q [] 1 0 2 2] [(q, .row 22 1 [.list (a.map sgnA), .list (b.map sgnA)] 0)] (.upd (.list ((a ++ b).map sgnA)) [(q, .row 22 1 [.list (a.map sgnA), .list (b.map sgnA)] 0)]) false | _ => .fail) | _ => .fail)⟩ | _ => .fail)
    | _ => .fail)
  | _ => .fail
attribute [go_sem] sp_slices_Concat_S
theorem t_slices_Concat_S {q : Id} {a b : List Sgn} (ha : a.length ≤ 1000000000) (hb : b.length ≤ 1000000000) : FnG Tryz.prog 67 [.own q [] 1 0 2 2] [(q, .row 22 1 [.list (a.map sgnA), .list (b.map sgnA)] 0)] (.upd (.list ((a ++ b).map sgnA)) [(q, .row 22 1 [.list (a.map sgnA), .list (b.map sgnA)] 0)]) = True := by
  refine eq_true ?_
  refine FnG_of_W (sp := spL [(97, sp_slices_Grow_S)]) (tb := tbOf Tryz.prog) (tbOf_ok _) (by kernel_rfl) Tryz.func67 (c := _) rfl (by kernel_rfl) (by kernel_rfl) (Nat.le_of_ble_eq_true rfl) (rs := [.tmp 2]) rfl ?_
  unfold FnW
  repeat' (first | (with_reducible intro _) | (with_reducible refine wcond_not ?_) | ((with_reducible refine wcond_dec (fun _ => ?_) (fun _ => ?_)) <;> try (exfalso; omega)) | (with_reducible refine wcond_split (fun _ => ?_) (fun _ => ?_)) | (with_reducible refine draw_ro (by kernel_rfl) ?_) | simp +contextual -implicitDefEqProofs (disch := first | exact dsc _ | fail) only [go_sem, ↓reduceIte, Nat.reduceEqDiff, Nat.reduceAdd, Nat.reduceMul, Nat.reduceSub, Nat.reduceLT, Nat.reduceLeDiff, Nat.reduceBEq, reduceCtorEq, BEq.rfl, Int.reduceLT, Int.reduceLE, Int.reduceAdd, Int.reduceToNat, Int.reduceSub, Int.reduceMul, Int.reduceNeg, Int.reduceEq, *] | (with_reducible refine And.intro (by first | omega | assumption | rfl) ?_))
  refine wloopW (α := Nat) (fun i => ⟨[(0, .own q [] 1 0 2 2), (2, .nils), (9, .own q [] 1 0 2 2), (10, .int .i64 2), (11, .int .i64 i), (3, .int .i64 (if i = 0 then (0 : Nat) else if i = 1 then a.length else a.length + b.length : Nat))], [(q, .row 22 1 [.list (a.map sgnA), .list (b.map sgnA)] 0)]⟩) (fun i => i ≤ 2) (fun i => 2 - i) 0 ?_ ?_ ?_
  · simp
  · simp +contextual -implicitDefEqProofs (disch := first | exact dsc _ | fail) only [go_sem, push_cast, ↓reduceIte, Nat.reduceEqDiff, Nat.reduceAdd, Nat.reduceMul, Nat.reduceSub, Nat.reduceLT, Nat.reduceLeDiff, Nat.reduceBEq, reduceCtorEq, BEq.rfl, Int.reduceLT, Int.reduceLE, Int.reduceAdd, Int.reduceToNat, Int.reduceSub, Int.reduceMul, Int.reduceNeg, Int.reduceEq, *]
    all_goals simp
  · intro i hi
    have hi : i = 0 ∨ i = 1 ∨ i = 2 := by have : i ≤ 2 := hi; omega
    rcases hi with rfl | rfl | rfl
    · repeat' (first | (with_reducible intro _) | (with_reducible refine wcond_not ?_) | ((with_reducible refine wcond_dec (fun _ => ?_) (fun _ => ?_)) <;> try (exfalso; omega)) | (with_reducible refine wcond_split (fun _ => ?_) (fun _ => ?_)) | (with_reducible refine draw_ro (by kernel_rfl) ?_) | simp +contextual -implicitDefEqProofs (disch := first | exact dsc _ | fail) only [go_sem, ↓reduceIte, Nat.reduceEqDiff, Nat.reduceAdd, Nat.reduceMul, Nat.reduceSub, Nat.reduceLT, Nat.reduceLeDiff, Nat.reduceBEq, reduceCtorEq, BEq.rfl, Int.reduceLT, Int.reduceLE, Int.reduceAdd, Int.reduceToNat, Int.reduceSub, Int.reduceMul, Int.reduceNeg, Int.reduceEq, *] | (with_reducible refine And.intro (by first | omega | assumption | rfl) ?_))
      all_goals
        refine round_intro 1 (by decide) (by decide) ?_
        simp +contextual -implicitDefEqProofs (disch := first | exact dsc _ | fail) only [go_sem, push_cast, ↓reduceIte, Nat.reduceEqDiff, Nat.reduceAdd, Nat.reduceMul, Nat.reduceSub, Nat.reduceLT, Nat.reduceLeDiff, Nat.reduceBEq, reduceCtorEq, BEq.rfl, Int.reduceLT, Int.reduceLE, Int.reduceAdd, Int.reduceToNat, Int.reduceSub, Int.reduceMul, Int.reduceNeg, Int.reduceEq, *]
        simp
    · repeat' (first | (with_reducible intro _) | (with_reducible refine wcond_not ?_) | ((with_reducible refine wcond_dec (fun _ => ?_) (fun _ => ?_)) <;> try (exfalso; omega)) | (with_reducible refine wcond_split (fun _ => ?_) (fun _ => ?_)) | (with_reducible refine draw_ro (by kernel_rfl) ?_) | simp +contextual -implicitDefEqProofs (disch := first | exact dsc _ | fail) only [go_sem, ↓reduceIte, Nat.reduceEqDiff, Nat.reduceAdd, Nat.reduceMul, Nat.reduceSub, Nat.reduceLT, Nat.reduceLeDiff, Nat.reduceBEq, reduceCtorEq, BEq.rfl, Int.reduceLT, Int.reduceLE, Int.reduceAdd, Int.reduceToNat, Int.reduceSub, Int.reduceMul, Int.reduceNeg, Int.reduceEq, *] | (with_reducible refine And.intro (by first | omega | assumption | rfl) ?_))
      all_goals
        refine round_intro 2 (by decide) (by decide) ?_
        simp +contextual -implicitDefEqProofs (disch := first | exact dsc _ | fail) only [go_sem, push_cast, ↓reduceIte, Nat.reduceEqDiff, Nat.reduceAdd, Nat.reduceMul, Nat.reduceSub, Nat.reduceLT, Nat.reduceLeDiff, Nat.reduceBEq, reduceCtorEq, BEq.rfl, Int.reduceLT, Int.reduceLE, Int.reduceAdd, Int.reduceToNat, Int.reduceSub, Int.reduceMul, Int.reduceNeg, Int.reduceEq, *]
        all_goals simp
    · by_cases hz : a.length + b.length = 0
      · have ha0 : a = [] := List.eq_nil_of_length_eq_zero (by omega)
        have hb0 : b = [] := List.eq_nil_of_length_eq_zero (by omega)
        subst ha0 hb0
        repeat' (first | (with_reducible intro _) | (with_reducible refine wcond_not ?_) | ((with_reducible refine wcond_dec (fun _ => ?_) (fun _ => ?_)) <;> try (exfalso; omega)) | (with_reducible refine wcond_split (fun _ => ?_) (fun _ => ?_)) | (with_reducible refine draw_ro (by kernel_rfl) ?_) | simp +contextual -implicitDefEqProofs (disch := first | exact dsc _ | fail) only [go_sem, ↓reduceIte, Nat.reduceEqDiff, Nat.reduceAdd, Nat.reduceMul, Nat.reduceSub, Nat.reduceLT, Nat.reduceLeDiff, Nat.reduceBEq, reduceCtorEq, BEq.rfl, Int.reduceLT, Int.reduceLE, Int.reduceAdd, Int.reduceToNat, Int.reduceSub, Int.reduceMul, Int.reduceNeg, Int.reduceEq, *] | (with_reducible refine And.intro (by first | omega | assumption | rfl) ?_))
        refine wloopW (α := Option Id × Nat) (fun p => ⟨[(25, .own q [] 1 0 2 2), (26, .int .i64 2), (27, .int .i64 p.2), (6, match p.1 with | none => .nils | some r => .own r [] 23 0 0 0)], match p.1 with | none => [(q, .row 22 1 [.list [], .list []] 0)] | some r => [(r, .row 57 23 [] 0), (q, .row 22 1 [.list [], .list []] 0)]⟩) (fun p => p.2 ≤ 2 ∧ ∀ r, p.1 = some r → ¬ r = q ∧ ¬ q = r) (fun p => 2 - p.2) (none, 0) ?_ ?_ ?_
        · simp
        · simp +contextual -implicitDefEqProofs (disch := first | exact dsc _ | fail) only [go_sem, push_cast, ↓reduceIte, Nat.reduceEqDiff, Nat.reduceAdd, Nat.reduceMul, Nat.reduceSub, Nat.reduceLT, Nat.reduceLeDiff, Nat.reduceBEq, reduceCtorEq, BEq.rfl, Int.reduceLT, Int.reduceLE, Int.reduceAdd, Int.reduceToNat, Int.reduceSub, Int.reduceMul, Int.reduceNeg, Int.reduceEq, *]
          all_goals simp
        · rintro ⟨o, i⟩ ⟨hi, hor⟩
          replace hor : ∀ r, o = some r → ¬ r = q ∧ ¬ q = r := hor
          replace hi : i ≤ 2 := hi
          have hi : i = 0 ∨ i = 1 ∨ i = 2 := by have : i ≤ 2 := hi; omega
          rcases hi with rfl | rfl | rfl
          · rcases o with _ | r
            · clear hor
              repeat' (first | (with_reducible intro _) | (with_reducible refine wcond_not ?_) | ((with_reducible refine wcond_dec (fun _ => ?_) (fun _ => ?_)) <;> try (exfalso; omega)) | (with_reducible refine wcond_split (fun _ => ?_) (fun _ => ?_)) | (with_reducible refine draw_ro (by kernel_rfl) ?_) | simp +contextual -implicitDefEqProofs (disch := first | exact dsc _ | fail) only [go_sem, ↓reduceIte, Nat.reduceEqDiff, Nat.reduceAdd, Nat.reduceMul, Nat.reduceSub, Nat.reduceLT, Nat.reduceLeDiff, Nat.reduceBEq, reduceCtorEq, BEq.rfl, Int.reduceLT, Int.reduceLE, Int.reduceAdd, Int.reduceToNat, Int.reduceSub, Int.reduceMul, Int.reduceNeg, Int.reduceEq, *] | (with_reducible refine And.intro (by first | omega | assumption | rfl) ?_))
              rename_i r1 hr1
              refine round_intro (some r1, 1) ⟨show (1:Nat) ≤ 2 by decide, by simp_all⟩ (show (2 - 1 : Nat) < 2 - 0 by decide) ?_
              simp +contextual -implicitDefEqProofs (disch := first | exact dsc _ | fail) only [go_sem, push_cast, ↓reduceIte, Nat.reduceEqDiff, Nat.reduceAdd, Nat.reduceMul, Nat.reduceSub, Nat.reduceLT, Nat.reduceLeDiff, Nat.reduceBEq, reduceCtorEq, BEq.rfl, Int.reduceLT, Int.reduceLE, Int.reduceAdd, Int.reduceToNat, Int.reduceSub, Int.reduceMul, Int.reduceNeg, Int.reduceEq, *]
              try simp
            · have hrq := hor r rfl
              clear hor
              repeat' (first | (with_reducible intro _) | (with_reducible refine wcond_not ?_) | ((with_reducible refine wcond_dec (fun _ => ?_) (fun _ => ?_)) <;> try (exfalso; omega)) | (with_reducible refine wcond_split (fun _ => ?_) (fun _ => ?_)) | (with_reducible refine draw_ro (by kernel_rfl) ?_) | simp +contextual -implicitDefEqProofs (disch := first | exact dsc _ | fail) only [go_sem, ↓reduceIte, Nat.reduceEqDiff, Nat.reduceAdd, Nat.reduceMul, Nat.reduceSub, Nat.reduceLT, Nat.reduceLeDiff, Nat.reduceBEq, reduceCtorEq, BEq.rfl, Int.reduceLT, Int.reduceLE, Int.reduceAdd, Int.reduceToNat, Int.reduceSub, Int.reduceMul, Int.reduceNeg, Int.reduceEq, *] | (with_reducible refine And.intro (by first | omega | assumption | rfl) ?_))
              rename_i r1 hr1
              refine round_intro (some r1, 1) ⟨show (1:Nat) ≤ 2 by decide, by simp_all⟩ (show (2 - 1 : Nat) < 2 - 0 by decide) ?_
              simp +contextual -implicitDefEqProofs (disch := first | exact dsc _ | fail) only [go_sem, push_cast, ↓reduceIte, Nat.reduceEqDiff, Nat.reduceAdd, Nat.reduceMul, Nat.reduceSub, Nat.reduceLT, Nat.reduceLeDiff, Nat.reduceBEq, reduceCtorEq, BEq.rfl, Int.reduceLT, Int.reduceLE, Int.reduceAdd, Int.reduceToNat, Int.reduceSub, Int.reduceMul, Int.reduceNeg, Int.reduceEq, *]
              try simp
          · rcases o with _ | r
            · clear hor
              repeat' (first | (with_reducible intro _) | (with_reducible refine wcond_not ?_) | ((with_reducible refine wcond_dec (fun _ => ?_) (fun _ => ?_)) <;> try (exfalso; omega)) | (with_reducible refine wcond_split (fun _ => ?_) (fun _ => ?_)) | (with_reducible refine draw_ro (by kernel_rfl) ?_) | simp +contextual -implicitDefEqProofs (disch := first | exact dsc _ | fail) only [go_sem, ↓reduceIte, Nat.reduceEqDiff, Nat.reduceAdd, Nat.reduceMul, Nat.reduceSub, Nat.reduceLT, Nat.reduceLeDiff, Nat.reduceBEq, reduceCtorEq, BEq.rfl, Int.reduceLT, Int.reduceLE, Int.reduceAdd, Int.reduceToNat, Int.reduceSub, Int.reduceMul, Int.reduceNeg, Int.reduceEq, *] | (with_reducible refine And.intro (by first | omega | assumption | rfl) ?_))
              rename_i r1 hr1
              refine round_intro (some r1, 2) ⟨show (2:Nat) ≤ 2 by decide, by simp_all⟩ (show (2 - 2 : Nat) < 2 - 1 by decide) ?_
              simp +contextual -implicitDefEqProofs (disch := first | exact dsc _ | fail) only [go_sem, push_cast, ↓reduceIte, Nat.reduceEqDiff, Nat.reduceAdd, Nat.reduceMul, Nat.reduceSub, Nat.reduceLT, Nat.reduceLeDiff, Nat.reduceBEq, reduceCtorEq, BEq.rfl, Int.reduceLT, Int.reduceLE, Int.reduceAdd, Int.reduceToNat, Int.reduceSub, Int.reduceMul, Int.reduceNeg, Int.reduceEq, *]
              try simp
            · have hrq := hor r rfl
              clear hor
              repeat' (first | (with_reducible intro _) | (with_reducible refine wcond_not ?_) | ((with_reducible refine wcond_dec (fun _ => ?_) (fun _ => ?_)) <;> try (exfalso; omega)) | (with_reducible refine wcond_split (fun _ => ?_) (fun _ => ?_)) | (with_reducible refine draw_ro (by kernel_rfl) ?_) | simp +contextual -implicitDefEqProofs (disch := first | exact dsc _ | fail) only [go_sem, ↓reduceIte, Nat.reduceEqDiff, Nat.reduceAdd, Nat.reduceMul, Nat.reduceSub, Nat.reduceLT, Nat.reduceLeDiff, Nat.reduceBEq, reduceCtorEq, BEq.rfl, Int.reduceLT, Int.reduceLE, Int.reduceAdd, Int.reduceToNat, Int.reduceSub, Int.reduceMul, Int.reduceNeg, Int.reduceEq, *] | (with_reducible refine And.intro (by first | omega | assumption | rfl) ?_))
              rename_i r1 hr1
              refine round_intro (some r1, 2) ⟨show (2:Nat) ≤ 2 by decide, by simp_all⟩ (show (2 - 2 : Nat) < 2 - 1 by decide) ?_
              simp +contextual -implicitDefEqProofs (disch := first | exact dsc _ | fail) only [go_sem, push_cast, ↓reduceIte, Nat.reduceEqDiff, Nat.reduceAdd, Nat.reduceMul, Nat.reduceSub, Nat.reduceLT, Nat.reduceLeDiff, Nat.reduceBEq, reduceCtorEq, BEq.rfl, Int.reduceLT, Int.reduceLE, Int.reduceAdd, Int.reduceToNat, Int.reduceSub, Int.reduceMul, Int.reduceNeg, Int.reduceEq, *]
              try simp
          · rcases o with _ | r
            · clear hor
              repeat' (first | (with_reducible intro _) | (with_reducible refine wcond_not ?_) | ((with_reducible refine wcond_dec (fun _ => ?_) (fun _ => ?_)) <;> try (exfalso; omega)) | (with_reducible refine wcond_split (fun _ => ?_) (fun _ => ?_)) | (with_reducible refine draw_ro (by kernel_rfl) ?_) | simp +contextual -implicitDefEqProofs (disch := first | exact dsc _ | fail) only [go_sem, ↓reduceIte, Nat.reduceEqDiff, Nat.reduceAdd, Nat.reduceMul, Nat.reduceSub, Nat.reduceLT, Nat.reduceLeDiff, Nat.reduceBEq, reduceCtorEq, BEq.rfl, Int.reduceLT, Int.reduceLE, Int.reduceAdd, Int.reduceToNat, Int.reduceSub, Int.reduceMul, Int.reduceNeg, Int.reduceEq, *] | (with_reducible refine And.intro (by first | omega | assumption | rfl) ?_))
              all_goals ((first | refine Fin_v1 (by rfl) ?_ | refine Fin_vn (by intro h; cases h) ?_ | refine Fin_f1 (by rfl) ?_ | refine Fin_fn (by intro h; cases h) (fun _ => rfl) ?_ | refine Fin_u1 (by rfl) ?_ | refine Fin_un (by intro h; cases h) ?_); try simp +contextual -implicitDefEqProofs (disch := first | exact dsc _ | fail) only [go_sem, push_cast, ↓reduceIte, Nat.reduceEqDiff, Nat.reduceAdd, Nat.reduceMul, Nat.reduceSub, Nat.reduceLT, Nat.reduceLeDiff, Nat.reduceBEq, reduceCtorEq, BEq.rfl, Int.reduceLT, Int.reduceLE, Int.reduceAdd, Int.reduceToNat, Int.reduceSub, Int.reduceMul, Int.reduceNeg, Int.reduceEq, *])
            · have hrq := hor r rfl
              clear hor
              repeat' (first | (with_reducible intro _) | (with_reducible refine wcond_not ?_) | ((with_reducible refine wcond_dec (fun _ => ?_) (fun _ => ?_)) <;> try (exfalso; omega)) | (with_reducible refine wcond_split (fun _ => ?_) (fun _ => ?_)) | (with_reducible refine draw_ro (by kernel_rfl) ?_) | simp +contextual -implicitDefEqProofs (disch := first | exact dsc _ | fail) only [go_sem, ↓reduceIte, Nat.reduceEqDiff, Nat.reduceAdd, Nat.reduceMul, Nat.reduceSub, Nat.reduceLT, Nat.reduceLeDiff, Nat.reduceBEq, reduceCtorEq, BEq.rfl, Int.reduceLT, Int.reduceLE, Int.reduceAdd, Int.reduceToNat, Int.reduceSub, Int.reduceMul, Int.reduceNeg, Int.reduceEq, *] | (with_reducible refine And.intro (by first | omega | assumption | rfl) ?_))
              all_goals ((first | refine Fin_v1 (by rfl) ?_ | refine Fin_vn (by intro h; cases h) ?_ | refine Fin_f1 (by rfl) ?_ | refine Fin_fn (by intro h; cases h) (fun _ => rfl) ?_ | refine Fin_u1 (by rfl) ?_ | refine Fin_un (by intro h; cases h) ?_); try simp +contextual -implicitDefEqProofs (disch := first | exact dsc _ | fail) only [go_sem, push_cast, ↓reduceIte, Nat.reduceEqDiff, Nat.reduceAdd, Nat.reduceMul, Nat.reduceSub, Nat.reduceLT, Nat.reduceLeDiff, Nat.reduceBEq, reduceCtorEq, BEq.rfl, Int.reduceLT, Int.reduceLE, Int.reduceAdd, Int.reduceToNat, Int.reduceSub, Int.reduceMul, Int.reduceNeg, Int.reduceEq, *])
      · have hz' : (0 : Int) < (a.length : Int) + (b.length : Int) := by omega
        repeat' (first | (with_reducible intro _) | (with_reducible refine wcond_not ?_) | ((with_reducible refine wcond_dec (fun _ => ?_) (fun _ => ?_)) <;> try (exfalso; omega)) | (with_reducible refine wcond_split (fun _ => ?_) (fun _ => ?_)) | (with_reducible refine draw_ro (by kernel_rfl) ?_) | simp +contextual -implicitDefEqProofs (disch := first | exact dsc _ | fail) only [go_sem, ↓reduceIte, Nat.reduceEqDiff, Nat.reduceAdd, Nat.reduceMul, Nat.reduceSub, Nat.reduceLT, Nat.reduceLeDiff, Nat.reduceBEq, reduceCtorEq, BEq.rfl, Int.reduceLT, Int.reduceLE, Int.reduceAdd, Int.reduceToNat, Int.reduceSub, Int.reduceMul, Int.reduceNeg, Int.reduceEq, *] | (with_reducible refine And.intro (by first | omega | assumption | rfl) ?_))
        rename_i r0 hr0
        refine wloopW (α := Id × List AV × Nat) (fun p => ⟨[(25, .own q [] 1 0 2 2), (26, .int .i64 2), (27, .int .i64 p.2.2), (6, .own p.1 [] 23 0 (catP a b p.2.2).length p.2.1.length)], [(p.1, .row 57 23 p.2.1 0), (q, .row 22 1 [.list (a.map sgnA), .list (b.map sgnA)] 0)]⟩) (fun p => p.2.2 ≤ 2 ∧ (¬ p.1 = q ∧ ¬ q = p.1) ∧ p.2.1.length = a.length + b.length ∧ p.2.1.take (catP a b p.2.2).length = (catP a b p.2.2).map sgnA) (fun p => 2 - p.2.2) (r0, List.replicate (a.length + b.length) (.agg [(.agg [(.int .i64 0), (.int .i64 0), (.int .i64 0), (.int .i64 0), (.int .i64 0), (.int .i64 0), (.agg (bys nm0.l)), (.agg (bys nm0.l))]), .nils]), 0) ?_ ?_ ?_
        · simp_all [catP]
        · simp +contextual -implicitDefEqProofs (disch := first | exact dsc _ | fail) only [go_sem, push_cast, ↓reduceIte, Nat.reduceEqDiff, Nat.reduceAdd, Nat.reduceMul, Nat.reduceSub, Nat.reduceLT, Nat.reduceLeDiff, Nat.reduceBEq, reduceCtorEq, BEq.rfl, Int.reduceLT, Int.reduceLE, Int.reduceAdd, Int.reduceToNat, Int.reduceSub, Int.reduceMul, Int.reduceNeg, Int.reduceEq, *]
          all_goals simp [catP]
        · rintro ⟨r, xs, i⟩ hC
          replace hC : i ≤ 2 ∧ (¬ r = q ∧ ¬ q = r) ∧ xs.length = a.length + b.length ∧ xs.take (catP a b i).length = (catP a b i).map sgnA := hC
          obtain ⟨hi, hrq, htl, hpre⟩ := hC
          have hi : i = 0 ∨ i = 1 ∨ i = 2 := by omega
          rcases hi with rfl | rfl | rfl
          · have e : catP a b 0 = [] := rfl
            clear hpre
            repeat' (first | (with_reducible intro _) | (with_reducible refine wcond_not ?_) | ((with_reducible refine wcond_dec (fun _ => ?_) (fun _ => ?_)) <;> try (exfalso; omega)) | (with_reducible refine wcond_split (fun _ => ?_) (fun _ => ?_)) | (with_reducible refine draw_ro (by kernel_rfl) ?_) | simp +contextual -implicitDefEqProofs (disch := first | exact dsc _ | fail) only [go_sem, ↓reduceIte, Nat.reduceEqDiff, Nat.reduceAdd, Nat.reduceMul, Nat.reduceSub, Nat.reduceLT, Nat.reduceLeDiff, Nat.reduceBEq, reduceCtorEq, BEq.rfl, Int.reduceLT, Int.reduceLE, Int.reduceAdd, Int.reduceToNat, Int.reduceSub, Int.reduceMul, Int.reduceNeg, Int.reduceEq, *, e] | (with_reducible refine And.intro (by first | omega | assumption | rfl) ?_))
            refine round_intro (r, a.map sgnA ++ xs.drop a.length, 1) ⟨by show (1:Nat) ≤ 2; decide, hrq, by show (a.map sgnA ++ xs.drop a.length).length = _; rw [List.length_append, List.length_map, List.length_drop]; omega, by show (a.map sgnA ++ xs.drop a.length).take a.length = a.map sgnA; rw [List.take_append_of_le_length (by simp)]; rw [List.take_of_length_le (by simp)]⟩ (show (2 - 1 : Nat) < 2 - 0 by decide) ?_
            simp +contextual -implicitDefEqProofs (disch := first | exact dsc _ | fail) only [go_sem, push_cast, ↓reduceIte, Nat.reduceEqDiff, Nat.reduceAdd, Nat.reduceMul, Nat.reduceSub, Nat.reduceLT, Nat.reduceLeDiff, Nat.reduceBEq, reduceCtorEq, BEq.rfl, Int.reduceLT, Int.reduceLE, Int.reduceAdd, Int.reduceToNat, Int.reduceSub, Int.reduceMul, Int.reduceNeg, Int.reduceEq, *]
            have e1 : catP a b 1 = a := rfl
            simp [e1]
            try omega
          · have e : catP a b 1 = a := rfl
            rw [e] at hpre
            clear hz hz'
            have htl2 : a.length + b.length ≤ xs.length ∧ xs.length ≤ a.length + b.length := by omega
            by_cases hb0 : b.length = 0
            · repeat' (first | (with_reducible intro _) | (with_reducible refine wcond_not ?_) | ((with_reducible refine wcond_dec (fun _ => ?_) (fun _ => ?_)) <;> try (exfalso; omega)) | (with_reducible refine wcond_split (fun _ => ?_) (fun _ => ?_)) | (with_reducible refine draw_ro (by kernel_rfl) ?_) | simp +contextual -implicitDefEqProofs (disch := first | exact dsc _ | fail) only [go_sem, ↓reduceIte, Nat.reduceEqDiff, Nat.reduceAdd, Nat.reduceMul, Nat.reduceSub, Nat.reduceLT, Nat.reduceLeDiff, Nat.reduceBEq, reduceCtorEq, BEq.rfl, Int.reduceLT, Int.reduceLE, Int.reduceAdd, Int.reduceToNat, Int.reduceSub, Int.reduceMul, Int.reduceNeg, Int.reduceEq, *, e] | (with_reducible refine And.intro (by first | omega | assumption | rfl) ?_))
              rename_i r1 hr1
              have hb1 : b = [] := List.eq_nil_of_length_eq_zero hb0
              subst hb1
              refine round_intro (r1, xs, 2) ⟨by show (2:Nat) ≤ 2; decide, by simp_all, by show xs.length = a.length; omega, by show xs.take (a ++ []).length = (a ++ []).map sgnA; rw [List.append_nil]; exact hpre⟩ (show (2 - 2 : Nat) < 2 - 1 by decide) ?_
              simp +contextual -implicitDefEqProofs (disch := first | exact dsc _ | fail) only [go_sem, push_cast, ↓reduceIte, Nat.reduceEqDiff, Nat.reduceAdd, Nat.reduceMul, Nat.reduceSub, Nat.reduceLT, Nat.reduceLeDiff, Nat.reduceBEq, reduceCtorEq, BEq.rfl, Int.reduceLT, Int.reduceLE, Int.reduceAdd, Int.reduceToNat, Int.reduceSub, Int.reduceMul, Int.reduceNeg, Int.reduceEq, *]
              have e2 : catP a [] 2 = a ++ [] := rfl
              simp [e2]
              try omega
            · have hb1 : a.length < xs.length := by omega
              clear htl hb0
              repeat' (first | (with_reducible intro _) | (with_reducible refine wcond_not ?_) | ((with_reducible refine wcond_dec (fun _ => ?_) (fun _ => ?_)) <;> try (exfalso; omega)) | (with_reducible refine wcond_split (fun _ => ?_) (fun _ => ?_)) | (with_reducible refine draw_ro (by kernel_rfl) ?_) | simp +contextual -implicitDefEqProofs (disch := first | exact dsc _ | fail) only [go_sem, ↓reduceIte, Nat.reduceEqDiff, Nat.reduceAdd, Nat.reduceMul, Nat.reduceSub, Nat.reduceLT, Nat.reduceLeDiff, Nat.reduceBEq, reduceCtorEq, BEq.rfl, Int.reduceLT, Int.reduceLE, Int.reduceAdd, Int.reduceToNat, Int.reduceSub, Int.reduceMul, Int.reduceNeg, Int.reduceEq, *, e] | (with_reducible refine And.intro (by first | omega | assumption | rfl) ?_))
              refine round_intro (r, a.map sgnA ++ b.map sgnA ++ xs.drop (a.length + b.length), 2) ⟨by show (2:Nat) ≤ 2; decide, hrq, by show (a.map sgnA ++ b.map sgnA ++ xs.drop (a.length + b.length)).length = _; rw [List.length_append, List.length_append, List.length_map, List.length_map, List.length_drop]; omega, by show (a.map sgnA ++ b.map sgnA ++ xs.drop (a.length + b.length)).take (a ++ b).length = (a ++ b).map sgnA; rw [List.map_append, List.take_append_of_le_length (by simp)]; rw [List.take_of_length_le (by simp)]⟩ (show (2 - 2 : Nat) < 2 - 1 by decide) ?_
              simp +contextual -implicitDefEqProofs (disch := first | exact dsc _ | fail) only [go_sem, push_cast, ↓reduceIte, Nat.reduceEqDiff, Nat.reduceAdd, Nat.reduceMul, Nat.reduceSub, Nat.reduceLT, Nat.reduceLeDiff, Nat.reduceBEq, reduceCtorEq, BEq.rfl, Int.reduceLT, Int.reduceLE, Int.reduceAdd, Int.reduceToNat, Int.reduceSub, Int.reduceMul, Int.reduceNeg, Int.reduceEq, *]
              have e2 : catP a b 2 = a ++ b := rfl
              simp [e2]
              try omega
          · have e : catP a b 2 = a ++ b := rfl
            rw [e, List.length_append, ← htl, List.take_length] at hpre
            repeat' (first | (with_reducible intro _) | (with_reducible refine wcond_not ?_) | ((with_reducible refine wcond_dec (fun _ => ?_) (fun _ => ?_)) <;> try (exfalso; omega)) | (with_reducible refine wcond_split (fun _ => ?_) (fun _ => ?_)) | (with_reducible refine draw_ro (by kernel_rfl) ?_) | simp +contextual -implicitDefEqProofs (disch := first | exact dsc _ | fail) only [go_sem, ↓reduceIte, Nat.reduceEqDiff, Nat.reduceAdd, Nat.reduceMul, Nat.reduceSub, Nat.reduceLT, Nat.reduceLeDiff, Nat.reduceBEq, reduceCtorEq, BEq.rfl, Int.reduceLT, Int.reduceLE, Int.reduceAdd, Int.reduceToNat, Int.reduceSub, Int.reduceMul, Int.reduceNeg, Int.reduceEq, *, e] | (with_reducible refine And.intro (by first | omega | assumption | rfl) ?_))
            all_goals ((first | refine Fin_v1 (by rfl) ?_ | refine Fin_vn (by intro h; cases h) ?_ | refine Fin_f1 (by rfl) ?_ | refine Fin_fn (by intro h; cases h) (fun _ => rfl) ?_ | refine Fin_u1 (by rfl) ?_ | refine Fin_un (by intro h; cases h) ?_); try simp +contextual -implicitDefEqProofs (disch := first | exact dsc _ | fail) only [go_sem, push_cast, ↓reduceIte, Nat.reduceEqDiff, Nat.reduceAdd, Nat.reduceMul, Nat.reduceSub, Nat.reduceLT, Nat.reduceLeDiff, Nat.reduceBEq, reduceCtorEq, BEq.rfl, Int.reduceLT, Int.reduceLE, Int.reduceAdd, Int.reduceToNat, Int.reduceSub, Int.reduceMul, Int.reduceNeg, Int.reduceEq, *])
attribute [go_sem ↓] t_slices_Concat_S
def sp_slices_Concat_B (args : List AV) : RM CallSpec := match args with
  | [x] => (match x with
    | .own q p sz off len cap => (match p with | [] => @getI _ q ⟨fun e => (match e with | some (.row _ _ l _) => (match l with | [x0, x1] => (txtsM x0).bind fun a => (txtsM x1).bind fun b => mkS [.own q [] 1 0 2 2] [(q, .row 23 1 [.list (a.map txtA), .list (b.map txtA)] 0)] (.upd (.list ((a ++ b).map txtA)) [(q, .row 23 1 [.list (a.map txtA), .list (b.map txtA)] 0)]) false | _ => .fail) | _ => .fail)⟩ | _ => .fail)
    | _ => .fail)
  | _ => .fail
attribute [go_sem] sp_slices_Concat_B
theorem t_slices_Concat_B {q : Id} {a b : List (List UInt8)} (ha : a.length ≤ 1000000000) (hb : b.length ≤ 1000000000) : FnG Tryz.prog 68 [.own q [] 1 0 2 2] [(q, .row 23 1 [.list (a.map txtA), .list (b.map txtA)] 0)] (.upd (.list ((a ++ b).map txtA)) [(q, .row 23 1 [.list (a.map txtA), .list (b.map txtA)] 0)]) = True := by
  refine eq_true ?_
  refine FnG_of_W (sp := spL [(98, sp_slices_Grow_B)]) (tb := tbOf Tryz.prog) (tbOf_ok _) (by kernel_rfl) Tryz.func68 (c := _) rfl (by kernel_rfl) (by kernel_rfl) (Nat.le_of_ble_eq_true rfl) (rs := [.tmp 2]) rfl ?_
  unfold FnW
  repeat' (first | (with_reducible intro _) | (with_reducible refine wcond_not ?_) | ((with_reducible refine wcond_dec (fun _ => ?_) (fun _ => ?_)) <;> try (exfalso; omega)) | (with_reducible refine wcond_split (fun _ => ?_) (fun _ => ?_)) | (with_reducible refine draw_ro (by kernel_rfl) ?_) | simp +contextual -implicitDefEqProofs (disch := first | exact dsc _ | fail) only [go_sem, ↓reduceIte, Nat.reduceEqDiff, Nat.reduceAdd, Nat.reduceMul, Nat.reduceSub, Nat.reduceLT, Nat.reduceLeDiff, Nat.reduceBEq, reduceCtorEq, BEq.rfl, Int.reduceLT, Int.reduceLE, Int.reduceAdd, Int.reduceToNat, Int.reduceSub, Int.reduceMul, Int.reduceNeg, Int.reduceEq, *] | (with_reducible refine And.intro (by first | omega | assumption | rfl) ?_))
  refine wloopW (α := Nat) (fun i => ⟨[(0, .own q [] 1 0 2 2), (2, .nils), (9, .own q [] 1 0 2 2), (10, .int .i64 2), (11, .int .i64 i), (3, .int .i64 (if i = 0 then (0 : Nat) else if i = 1 then a.length else a.length + b.length : Nat))], [(q, .row 23 1 [.list (a.map txtA), .list (b.map txtA)] 0)]⟩) (fun i => i ≤ 2) (fun i => 2 - i) 0 ?_ ?_ ?_
  · simp
  · simp +contextual -implicitDefEqProofs (disch := first | exact dsc _ | fail) only [go_sem, push_cast, ↓reduceIte, Nat.reduceEqDiff, Nat.reduceAdd, Nat.reduceMul, Nat.reduceSub, Nat.reduceLT, Nat.reduceLeDiff, Nat.reduceBEq, reduceCtorEq, BEq.rfl, Int.reduceLT, Int.reduceLE, Int.reduceAdd, Int.reduceToNat, Int.reduceSub, Int.reduceMul, Int.reduceNeg, Int.reduceEq, *]
    all_goals simp
  · intro i hi
    have hi : i = 0 ∨ i = 1 ∨ i = 2 := by have : i ≤ 2 := hi; omega
    rcases hi with rfl | rfl | rfl
    · repeat' (first | (with_reducible intro _) | (with_reducible refine wcond_not ?_) | ((with_reducible refine wcond_dec (fun _ => ?_) (fun _ => ?_)) <;> try (exfalso; omega)) | (with_reducible refine wcond_split (fun _ => ?_) (fun _ => ?_)) | (with_reducible refine draw_ro (by kernel_rfl) ?_) | simp +contextual -implicitDefEqProofs (disch := first | exact dsc _ | fail) only [go_sem, ↓reduceIte, Nat.reduceEqDiff, Nat.reduceAdd, Nat.reduceMul, Nat.reduceSub, Nat.reduceLT, Nat.reduceLeDiff, Nat.reduceBEq, reduceCtorEq, BEq.rfl, Int.reduceLT, Int.reduceLE, Int.reduceAdd, Int.reduceToNat, Int.reduceSub, Int.reduceMul, Int.reduceNeg, Int.reduceEq, *] | (with_reducible refine And.intro (by first | omega | assumption | rfl) ?_))
      all_goals
        refine round_intro 1 (by decide) (by decide) ?_
        simp +contextual -implicitDefEqProofs (disch := first | exact dsc _ | fail) only [go_sem, push_cast, ↓reduceIte, Nat.reduceEqDiff, Nat.reduceAdd, Nat.reduceMul, Nat.reduceSub, Nat.reduceLT, Nat.reduceLeDiff, Nat.reduceBEq, reduceCtorEq, BEq.rfl, Int.reduceLT, Int.reduceLE, Int.reduceAdd, Int.reduceToNat, Int.reduceSub, Int.reduceMul, Int.reduceNeg, Int.reduceEq, *]
        simp
    · repeat' (first | (with_reducible intro _) | (with_reducible refine wcond_not ?_) | ((with_reducible refine wcond_dec (fun _ => ?_) (fun _ => ?_)) <;> try (exfalso; omega)) | (with_reducible refine wcond_split (fun _ => ?_) (fun _ => ?_)) | (with_reducible refine draw_ro (by kernel_rfl) ?_) | simp +contextual -implicitDefEqProofs (disch := first | exact dsc _ | fail) only [go_sem, ↓reduceIte, Nat.reduceEqDiff, Nat.reduceAdd, Nat.reduceMul, Nat.reduceSub, Nat.reduceLT, Nat.reduceLeDiff, Nat.reduceBEq, reduceCtorEq, BEq.rfl, Int.reduceLT, Int.reduceLE, Int.reduceAdd, Int.reduceToNat, Int.reduceSub, Int.reduceMul, Int.reduceNeg, Int.reduceEq, *] | (with_reducible refine And.intro (by first | omega | assumption | rfl) ?_))
      all_goals
        refine round_intro 2 (by decide) (by decide) ?_
        simp +contextual -implicitDefEqProofs (disch := first | exact dsc _ | fail) only [go_sem, push_cast, ↓reduceIte, Nat.reduceEqDiff, Nat.reduceAdd, Nat.reduceMul, Nat.reduceSub, Nat.reduceLT, Nat.reduceLeDiff, Nat.reduceBEq, reduceCtorEq, BEq.rfl, Int.reduceLT, Int.reduceLE, Int.reduceAdd, Int.reduceToNat, Int.reduceSub, Int.reduceMul, Int.reduceNeg, Int.reduceEq, *]
        all_goals simp
    · by_cases hz : a.length + b.length = 0
      · have ha0 : a = [] := List.eq_nil_of_length_eq_zero (by omega)
        have hb0 : b = [] := List.eq_nil_of_length_eq_zero (by omega)
        subst ha0 hb0
        repeat' (first | (with_reducible intro _) | (with_reducible refine wcond_not ?_) | ((with_reducible refine wcond_dec (fun _ => ?_) (fun _ => ?_)) <;> try (exfalso; omega)) | (with_reducible refine wcond_split (fun _ => ?_) (fun _ => ?_)) | (with_reducible refine draw_ro (by kernel_rfl) ?_) | simp +contextual -implicitDefEqProofs (disch := first | exact dsc _ | fail) only [go_sem, ↓reduceIte, Nat.reduceEqDiff, Nat.reduceAdd, Nat.reduceMul, Nat.reduceSub, Nat.reduceLT, Nat.reduceLeDiff, Nat.reduceBEq, reduceCtorEq, BEq.rfl, Int.reduceLT, Int.reduceLE, Int.reduceAdd, Int.reduceToNat, Int.reduceSub, Int.reduceMul, Int.reduceNeg, Int.reduceEq, *] | (with_reducible refine And.intro (by first | omega | assumption | rfl) ?_))
        refine wloopW (α := Option Id × Nat) (fun p => ⟨[(25, .own q [] 1 0 2 2), (26, .int .i64 2), (27, .int .i64 p.2), (6, match p.1 with | none => .nils | some r => .own r [] 1 0 0 0)], match p.1 with | none => [(q, .row 23 1 [.list [], .list []] 0)] | some r => [(r, .row 28 1 [] 0), (q, .row 23 1 [.list [], .list []] 0)]⟩) (fun p => p.2 ≤ 2 ∧ ∀ r, p.1 = some r → ¬ r = q ∧ ¬ q = r) (fun p => 2 - p.2) (none, 0) ?_ ?_ ?_
        · simp
        · simp +contextual -implicitDefEqProofs (disch := first | exact dsc _ | fail) only [go_sem, push_cast, ↓reduceIte, Nat.reduceEqDiff, Nat.reduceAdd, Nat.reduceMul, Nat.reduceSub, Nat.reduceLT, Nat.reduceLeDiff, Nat.reduceBEq, reduceCtorEq, BEq.rfl, Int.reduceLT, Int.reduceLE, Int.reduceAdd, Int.reduceToNat, Int.reduceSub, Int.reduceMul, Int.reduceNeg, Int.reduceEq, *]
          all_goals simp
        · rintro ⟨o, i⟩ ⟨hi, hor⟩
          replace hor : ∀ r, o = some r → ¬ r = q ∧ ¬ q = r := hor
          replace hi : i ≤ 2 := hi
          have hi : i = 0 ∨ i = 1 ∨ i = 2 := by have : i ≤ 2 := hi; omega
          rcases hi with rfl | rfl | rfl
          · rcases o with _ | r
            · clear hor
              repeat' (first | (with_reducible intro _) | (with_reducible refine wcond_not ?_) | ((with_reducible refine wcond_dec (fun _ => ?_) (fun _ => ?_)) <;> try (exfalso; omega)) | (with_reducible refine wcond_split (fun _ => ?_) (fun _ => ?_)) | (with_reducible refine draw_ro (by kernel_rfl) ?_) | simp +contextual -implicitDefEqProofs (disch := first | exact dsc _ | fail) only [go_sem, ↓reduceIte, Nat.reduceEqDiff, Nat.reduceAdd, Nat.reduceMul, Nat.reduceSub, Nat.reduceLT, Nat.reduceLeDiff, Nat.reduceBEq, reduceCtorEq, BEq.rfl, Int.reduceLT, Int.reduceLE, Int.reduceAdd, Int.reduceToNat, Int.reduceSub, Int.reduceMul, Int.reduceNeg, Int.reduceEq, *] | (with_reducible refine And.intro (by first | omega | assumption | rfl) ?_))
              rename_i r1 hr1
              refine round_intro (some r1, 1) ⟨show (1:Nat) ≤ 2 by decide, by simp_all⟩ (show (2 - 1 : Nat) < 2 - 0 by decide) ?_
              simp +contextual -implicitDefEqProofs (disch := first | exact dsc _ | fail) only [go_sem, push_cast, ↓reduceIte, Nat.reduceEqDiff, Nat.reduceAdd, Nat.reduceMul, Nat.reduceSub, Nat.reduceLT, Nat.reduceLeDiff, Nat.reduceBEq, reduceCtorEq, BEq.rfl, Int.reduceLT, Int.reduceLE, Int.reduceAdd, Int.reduceToNat, Int.reduceSub, Int.reduceMul, Int.reduceNeg, Int.reduceEq, *]
              try simp
            · have hrq := hor r rfl
              clear hor
              repeat' (first | (with_reducible intro _) | (with_reducible refine wcond_not ?_) | ((with_reducible refine wcond_dec (fun _ => ?_) (fun _ => ?_)) <;> try (exfalso; omega)) | (with_reducible refine wcond_split (fun _ => ?_) (fun _ => ?_)) | (with_reducible refine draw_ro (by kernel_rfl) ?_) | simp +contextual -implicitDefEqProofs (disch := first | exact dsc _ | fail) only [go_sem, ↓reduceIte, Nat.reduceEqDiff, Nat.reduceAdd, Nat.reduceMul, Nat.reduceSub, Nat.reduceLT, Nat.reduceLeDiff, Nat.reduceBEq, reduceCtorEq, BEq.rfl, Int.reduceLT, Int.reduceLE, Int.reduceAdd, Int.reduceToNat, Int.reduceSub, Int.reduceMul, Int.reduceNeg, Int.reduceEq, *] | (with_reducible refine And.intro (by first | omega | assumption | rfl) ?_))
              rename_i r1 hr1
              refine round_intro (some r1, 1) ⟨show (1:Nat) ≤ 2 by decide, by simp_all⟩ (show (2 - 1 : Nat) < 2 - 0 by decide) ?_
              simp +contextual -implicitDefEqProofs (disch := first | exact dsc _ | fail) only [go_sem, push_cast, ↓reduceIte, Nat.reduceEqDiff, Nat.reduceAdd, Nat.reduceMul, Nat.reduceSub, Nat.reduceLT, Nat.reduceLeDiff, Nat.reduceBEq, reduceCtorEq, BEq.rfl, Int.reduceLT, Int.reduceLE, Int.reduceAdd, Int.reduceToNat, Int.reduceSub, Int.reduceMul, Int.reduceNeg, Int.reduceEq, *]
              try simp
          · rcases o with _ | r
            · clear hor
              repeat' (first | (with_reducible intro _) | (with_reducible refine wcond_not ?_) | ((with_reducible refine wcond_dec (fun _ => ?_) (fun _ => ?_)) <;> try (exfalso; omega)) | (with_reducible refine wcond_split (fun _ => ?_) (fun _ => ?_)) | (with_reducible refine draw_ro (by kernel_rfl) ?_) | simp +contextual -implicitDefEqProofs (disch := first | exact dsc _ | fail) only [go_sem, ↓reduceIte, Nat.reduceEqDiff, Nat.reduceAdd, Nat.reduceMul, Nat.reduceSub, Nat.reduceLT, Nat.reduceLeDiff, Nat.reduceBEq, reduceCtorEq, BEq.rfl, Int.reduceLT, Int.reduceLE, Int.reduceAdd, Int.reduceToNat, Int.reduceSub, Int.reduceMul, Int.reduceNeg, Int.reduceEq, *] | (with_reducible refine And.intro (by first | omega | assumption | rfl) ?_))
              rename_i r1 hr1
              refine round_intro (some r1, 2) ⟨show (2:Nat) ≤ 2 by decide, by simp_all⟩ (show (2 - 2 : Nat) < 2 - 1 by decide) ?_
              simp +contextual -implicitDefEqProofs (disch := first | exact dsc _ | fail) only [go_sem, push_cast, ↓reduceIte, Nat.reduceEqDiff, Nat.reduceAdd, Nat.reduceMul, Nat.reduceSub, Nat.reduceLT, Nat.reduceLeDiff, Nat.reduceBEq, reduceCtorEq, BEq.rfl, Int.reduceLT, Int.reduceLE, Int.reduceAdd, Int.reduceToNat, Int.reduceSub, Int.reduceMul, Int.reduceNeg, Int.reduceEq, *]
              try simp
            · have hrq := hor r rfl
              clear hor
              repeat' (first | (with_reducible intro _) | (with_reducible refine wcond_not ?_) | ((with_reducible refine wcond_dec (fun _ => ?_) (fun _ => ?_)) <;> try (exfalso; omega)) | (with_reducible refine wcond_split (fun _ => ?_) (fun _ => ?_)) | (with_reducible refine draw_ro (by kernel_rfl) ?_) | simp +contextual -implicitDefEqProofs (disch := first | exact dsc _ | fail) only [go_sem, ↓reduceIte, Nat.reduceEqDiff, Nat.reduceAdd, Nat.reduceMul, Nat.reduceSub, Nat.reduceLT, Nat.reduceLeDiff, Nat.reduceBEq, reduceCtorEq, BEq.rfl, Int.reduceLT, Int.reduceLE, Int.reduceAdd, Int.reduceToNat, Int.reduceSub, Int.reduceMul, Int.reduceNeg, Int.reduceEq, *] | (with_reducible refine And.intro (by first | omega | assumption | rfl) ?_))
              rename_i r1 hr1
              refine round_intro (some r1, 2) ⟨show (2:Nat) ≤ 2 by decide, by simp_all⟩ (show (2 - 2 : Nat) < 2 - 1 by decide) ?_
              simp +contextual -implicitDefEqProofs (disch := first | exact dsc _ | fail) only [go_sem, push_cast, ↓reduceIte, Nat.reduceEqDiff, Nat.reduceAdd, Nat.reduceMul, Nat.reduceSub, Nat.reduceLT, Nat.reduceLeDiff, Nat.reduceBEq, reduceCtorEq, BEq.rfl, Int.reduceLT, Int.reduceLE, Int.reduceAdd, Int.reduceToNat, Int.reduceSub, Int.reduceMul, Int.reduceNeg, Int.reduceEq, *]
              try simp
          · rcases o with _ | r
            · clear hor
              repeat' (first | (with_reducible intro _) | (with_reducible refine wcond_not ?_) | ((with_reducible refine wcond_dec (fun _ => ?_) (fun _ => ?_)) <;> try (exfalso; omega)) | (with_reducible refine wcond_split (fun _ => ?_) (fun _ => ?_)) | (with_reducible refine draw_ro (by kernel_rfl) ?_) | simp +contextual -implicitDefEqProofs (disch := first | exact dsc _ | fail) only [go_sem, ↓reduceIte, Nat.reduceEqDiff, Nat.reduceAdd, Nat.reduceMul, Nat.reduceSub, Nat.reduceLT, Nat.reduceLeDiff, Nat.reduceBEq, reduceCtorEq, BEq.rfl, Int.reduceLT, Int.reduceLE, Int.reduceAdd, Int.reduceToNat, Int.reduceSub, Int.reduceMul, Int.reduceNeg, Int.reduceEq, *] | (with_reducible refine And.intro (by first | omega | assumption | rfl) ?_))
              all_goals ((first | refine Fin_v1 (by rfl) ?_ | refine Fin_vn (by intro h; cases h) ?_ | refine Fin_f1 (by rfl) ?_ | refine Fin_fn (by intro h; cases h) (fun _ => rfl) ?_ | refine Fin_u1 (by rfl) ?_ | refine Fin_un (by intro h; cases h) ?_); try simp +contextual -implicitDefEqProofs (disch := first | exact dsc _ | fail) only [go_sem, push_cast, ↓reduceIte, Nat.reduceEqDiff, Nat.reduceAdd, Nat.reduceMul, Nat.reduceSub, Nat.reduceLT, Nat.reduceLeDiff, Nat.reduceBEq, reduceCtorEq, BEq.rfl, Int.reduceLT, Int.reduceLE, Int.reduceAdd, Int.reduceToNat, Int.reduceSub, Int.reduceMul, Int.reduceNeg, Int.reduceEq, *])
            · have hrq := hor r rfl
              clear hor
              repeat' (first | (with_reducible intro _) | (with_reducible refine wcond_not ?_) | ((with_reducible refine wcond_dec (fun _ => ?_) (fun _ => ?_)) <;> try (exfalso; omega)) | (with_reducible refine wcond_split (fun _ => ?_) (fun _ => ?_)) | (with_reducible refine draw_ro (by kernel_rfl) ?_) | simp +contextual -implicitDefEqProofs (disch := first | exact dsc _ | fail) only [go_sem, ↓reduceIte, Nat.reduceEqDiff, Nat.reduceAdd, Nat.reduceMul, Nat.reduceSub, Nat.reduceLT, Nat.reduceLeDiff, Nat.reduceBEq, reduceCtorEq, BEq.rfl, Int.reduceLT, Int.reduceLE, Int.reduceAdd, Int.reduceToNat, Int.reduceSub, Int.reduceMul, Int.reduceNeg, Int.reduceEq, *] | (with_reducible refine And.intro (by first | omega | assumption | rfl) ?_))
              all_goals ((first | refine Fin_v1 (by rfl) ?_ | refine Fin_vn (by intro h; cases h) ?_ | refine Fin_f1 (by rfl) ?_ | refine Fin_fn (by intro h; cases h) (fun _ => rfl) ?_ | refine Fin_u1 (by rfl) ?_ | refine Fin_un (by intro h; cases h) ?_); try simp +contextual -implicitDefEqProofs (disch := first | exact dsc _ | fail) only [go_sem, push_cast, ↓reduceIte, Nat.reduceEqDiff, Nat.reduceAdd, Nat.reduceMul, Nat.reduceSub, Nat.reduceLT, Nat.reduceLeDiff, Nat.reduceBEq, reduceCtorEq, BEq.rfl, Int.reduceLT, Int.reduceLE, Int.reduceAdd, Int.reduceToNat, Int.reduceSub, Int.reduceMul, Int.reduceNeg, Int.reduceEq, *])
      · have hz' : (0 : Int) < (a.length : Int) + (b.length : Int) := by omega
        repeat' (first | (with_reducible intro _) | (with_reducible refine wcond_not ?_) | ((with_reducible refine wcond_dec (fun _ => ?_) (fun _ => ?_)) <;> try (exfalso; omega)) | (with_reducible refine wcond_split (fun _ => ?_) (fun _ => ?_)) | (with_reducible refine draw_ro (by kernel_rfl) ?_) | simp +contextual -implicitDefEqProofs (disch := first | exact dsc _ | fail) only [go_sem, ↓reduceIte, Nat.reduceEqDiff, Nat.reduceAdd, Nat.reduceMul, Nat.reduceSub, Nat.reduceLT, Nat.reduceLeDiff, Nat.reduceBEq, reduceCtorEq, BEq.rfl, Int.reduceLT, Int.reduceLE, Int.reduceAdd, Int.reduceToNat, Int.reduceSub, Int.reduceMul, Int.reduceNeg, Int.reduceEq, *] | (with_reducible refine And.intro (by first | omega | assumption | rfl) ?_))
        rename_i r0 hr0
        refine wloopW (α := Id × List AV × Nat) (fun p => ⟨[(25, .own q [] 1 0 2 2), (26, .int .i64 2), (27, .int .i64 p.2.2), (6, .own p.1 [] 1 0 (catP a b p.2.2).length p.2.1.length)], [(p.1, .row 28 1 p.2.1 0), (q, .row 23 1 [.list (a.map txtA), .list (b.map txtA)] 0)]⟩) (fun p => p.2.2 ≤ 2 ∧ (¬ p.1 = q ∧ ¬ q = p.1) ∧ p.2.1.length = a.length + b.length ∧ p.2.1.take (catP a b p.2.2).length = (catP a b p.2.2).map txtA) (fun p => 2 - p.2.2) (r0, List.replicate (a.length + b.length) .nils, 0) ?_ ?_ ?_
        · simp_all [catP]
        · simp +contextual -implicitDefEqProofs (disch := first | exact dsc _ | fail) only [go_sem, push_cast, ↓reduceIte, Nat.reduceEqDiff, Nat.reduceAdd, Nat.reduceMul, Nat.reduceSub, Nat.reduceLT, Nat.reduceLeDiff, Nat.reduceBEq, reduceCtorEq, BEq.rfl, Int.reduceLT, Int.reduceLE, Int.reduceAdd, Int.reduceToNat, Int.reduceSub, Int.reduceMul, Int.reduceNeg, Int.reduceEq, *]
          all_goals simp [catP]
        · rintro ⟨r, xs, i⟩ hC
          replace hC : i ≤ 2 ∧ (¬ r = q ∧ ¬ q = r) ∧ xs.length = a.length + b.length ∧ xs.take (catP a b i).length = (catP a b i).map txtA := hC
          obtain ⟨hi, hrq, htl, hpre⟩ := hC
          have hi : i = 0 ∨ i = 1 ∨ i = 2 := by omega
          rcases hi with rfl | rfl | rfl
          · have e : catP a b 0 = [] := rfl
            clear hpre
            repeat' (first | (with_reducible intro _) | (with_reducible refine wcond_not ?_) | ((with_reducible refine wcond_dec (fun _ => ?_) (fun _ => ?_)) <;> try (exfalso; omega)) | (with_reducible refine wcond_split (fun _ => ?_) (fun _ => ?_)) | (with_reducible refine draw_ro (by kernel_rfl) ?_) | simp +contextual -implicitDefEqProofs (disch := first | exact dsc _ | fail) only [go_sem, ↓reduceIte, Nat.reduceEqDiff, Nat.reduceAdd, Nat.reduceMul, Nat.reduceSub, Nat.reduceLT, Nat.reduceLeDiff, Nat.reduceBEq, reduceCtorEq, BEq.rfl, Int.reduceLT, Int.reduceLE, Int.reduceAdd, Int.reduceToNat, Int.reduceSub, Int.reduceMul, Int.reduceNeg, Int.reduceEq, *, e] | (with_reducible refine And.intro (by first | omega | assumption | rfl) ?_))
            refine round_intro (r, a.map txtA ++ xs.drop a.length, 1) ⟨by show (1:Nat) ≤ 2; decide, hrq, by show (a.map txtA ++ xs.drop a.length).length = _; rw [List.length_append, List.length_map, List.length_drop]; omega, by show (a.map txtA ++ xs.drop a.length).take a.length = a.map txtA; rw [List.take_append_of_le_length (by simp)]; rw [List.take_of_length_le (by simp)]⟩ (show (2 - 1 : Nat) < 2 - 0 by decide) ?_
            simp +contextual -implicitDefEqProofs (disch := first | exact dsc _ | fail) only [go_sem, push_cast, ↓reduceIte, Nat.reduceEqDiff, Nat.reduceAdd, Nat.reduceMul, Nat.reduceSub, Nat.reduceLT, Nat.reduceLeDiff, Nat.reduceBEq, reduceCtorEq, BEq.rfl, Int.reduceLT, Int.reduceLE, Int.reduceAdd, Int.reduceToNat, Int.reduceSub, Int.reduceMul, Int.reduceNeg, Int.reduceEq, *]
            have e1 : catP a b 1 = a := rfl
            simp [e1]
            try omega
          · have e : catP a b 1 = a := rfl
            rw [e] at hpre
            clear hz hz'
            have htl2 : a.length + b.length ≤ xs.length ∧ xs.length ≤ a.length + b.length := by omega
            by_cases hb0 : b.length = 0
            · repeat' (first | (with_reducible intro _) | (with_reducible refine wcond_not ?_) | ((with_reducible refine wcond_dec (fun _ => ?_) (fun _ => ?_)) <;> try (exfalso; omega)) | (with_reducible refine wcond_split (fun _ => ?_) (fun _ => ?_)) | (with_reducible refine draw_ro (by kernel_rfl) ?_) | simp +contextual -implicitDefEqProofs (disch := first | exact dsc _ | fail) only [go_sem, ↓reduceIte, Nat.reduceEqDiff, Nat.reduceAdd, Nat.reduceMul, Nat.reduceSub, Nat.reduceLT, Nat.reduceLeDiff, Nat.reduceBEq, reduceCtorEq, BEq.rfl, Int.reduceLT, Int.reduceLE, Int.reduceAdd, Int.reduceToNat, Int.reduceSub, Int.reduceMul, Int.reduceNeg, Int.reduceEq, *, e] | (with_reducible refine And.intro (by first | omega | assumption | rfl) ?_))
              rename_i r1 hr1
              have hb1 : b = [] := List.eq_nil_of_length_eq_zero hb0
              subst hb1
              refine round_intro (r1, xs, 2) ⟨by show (2:Nat) ≤ 2; decide, by simp_all, by show xs.length = a.length; omega, by show xs.take (a ++ []).length = (a ++ []).map txtA; rw [List.append_nil]; exact hpre⟩ (show (2 - 2 : Nat) < 2 - 1 by decide) ?_
              simp +contextual -implicitDefEqProofs (disch := first | exact dsc _ | fail) only [go_sem, push_cast, ↓reduceIte, Nat.reduceEqDiff, Nat.reduceAdd, Nat.reduceMul, Nat.reduceSub, Nat.reduceLT, Nat.reduceLeDiff, Nat.reduceBEq, reduceCtorEq, BEq.rfl, Int.reduceLT, Int.reduceLE, Int.reduceAdd, Int.reduceToNat, Int.reduceSub, Int.reduceMul, Int.reduceNeg, Int.reduceEq, *]
              have e2 : catP a [] 2 = a ++ [] := rfl
              simp [e2]
              try omega
            · have hb1 : a.length < xs.length := by omega
              clear htl hb0
              repeat' (first | (with_reducible intro _) | (with_reducible refine wcond_not ?_) | ((with_reducible refine wcond_dec (fun _ => ?_) (fun _ => ?_)) <;> try (exfalso; omega)) | (with_reducible refine wcond_split (fun _ => ?_) (fun _ => ?_)) | (with_reducible refine draw_ro (by kernel_rfl) ?_) | simp +contextual -implicitDefEqProofs (disch := first | exact dsc _ | fail) only [go_sem, ↓reduceIte, Nat.reduceEqDiff, Nat.reduceAdd, Nat.reduceMul, Nat.reduceSub, Nat.reduceLT, Nat.reduceLeDiff, Nat.reduceBEq, reduceCtorEq, BEq.rfl, Int.reduceLT, Int.reduceLE, Int.reduceAdd, Int.reduceToNat, Int.reduceSub, Int.reduceMul, Int.reduceNeg, Int.reduceEq, *, e] | (with_reducible refine And.intro (by first | omega | assumption | rfl) ?_))
              refine round_intro (r, a.map txtA ++ b.map txtA ++ xs.drop (a.length + b.length), 2) ⟨by show (2:Nat) ≤ 2; decide, hrq, by show (a.map txtA ++ b.map txtA ++ xs.drop (a.length + b.length)).length = _; rw [List.length_append, List.length_append, List.length_map, List.length_map, List.length_drop]; omega, by show (a.map txtA ++ b.map txtA ++ xs.drop (a.length + b.length)).take (a ++ b).length = (a ++ b).map txtA; rw [List.map_append, List.take_append_of_le_length (by simp)]; rw [List.take_of_length_le (by simp)]⟩ (show (2 - 2 : Nat) < 2 - 1 by decide) ?_
              simp +contextual -implicitDefEqProofs (disch := first | exact dsc _ | fail) only [go_sem, push_cast, ↓reduceIte, Nat.reduceEqDiff, Nat.reduceAdd, Nat.reduceMul, Nat.reduceSub, Nat.reduceLT, Nat.reduceLeDiff, Nat.reduceBEq, reduceCtorEq, BEq.rfl, Int.reduceLT, Int.reduceLE, Int.reduceAdd, Int.reduceToNat, Int.reduceSub, Int.reduceMul, Int.reduceNeg, Int.reduceEq, *]
              have e2 : catP a b 2 = a ++ b := rfl
              simp [e2]
              try omega
          · have e : catP a b 2 = a ++ b := rfl
            rw [e, List.length_append, ← htl, List.take_length] at hpre
            repeat' (first | (with_reducible intro _) | (with_reducible refine wcond_not ?_) | ((with_reducible refine wcond_dec (fun _ => ?_) (fun _ => ?_)) <;> try (exfalso; omega)) | (with_reducible refine wcond_split (fun _ => ?_) (fun _ => ?_)) | (with_reducible refine draw_ro (by kernel_rfl) ?_) | simp +contextual -implicitDefEqProofs (disch := first | exact dsc _ | fail) only [go_sem, ↓reduceIte, Nat.reduceEqDiff, Nat.reduceAdd, Nat.reduceMul, Nat.reduceSub, Nat.reduceLT, Nat.reduceLeDiff, Nat.reduceBEq, reduceCtorEq, BEq.rfl, Int.reduceLT, Int.reduceLE, Int.reduceAdd, Int.reduceToNat, Int.reduceSub, Int.reduceMul, Int.reduceNeg, Int.reduceEq, *, e] | (with_reducible refine And.intro (by first | omega | assumption | rfl) ?_))
            all_goals ((first | refine Fin_v1 (by rfl) ?_ | refine Fin_vn (by intro h; cases h) ?_ | refine Fin_f1 (by rfl) ?_ | refine Fin_fn (by intro h; cases h) (fun _ => rfl) ?_ | refine Fin_u1 (by rfl) ?_ | refine Fin_un (by intro h; cases h) ?_); try simp +contextual -implicitDefEqProofs (disch := first | exact dsc _ | fail) only [go_sem, push_cast, ↓reduceIte, Nat.reduceEqDiff, Nat.reduceAdd, Nat.reduceMul, Nat.reduceSub, Nat.reduceLT, Nat.reduceLeDiff, Nat.reduceBEq, reduceCtorEq, BEq.rfl, Int.reduceLT, Int.reduceLE, Int.reduceAdd, Int.reduceToNat, Int.reduceSub, Int.reduceMul, Int.reduceNeg, Int.reduceEq, *])
attribute [go_sem ↓] t_slices_Concat_B
end Go.Am.Tryz
set_option maxRecDepth 100000
set_option linter.unusedSimpArgs false
set_option linter.unusedVariables false
set_option pp.maxSteps 2000
set_option maxHeartbeats 4000000
namespace Go.Am.Tryz
open Go.Proofs
def cl0 : Out := .val (.agg [.nils, .nils])
def clT (v : View) : Out := .fresh fun r => (.agg [.nils, .own r [] 1 0 v.texts.length v.texts.length], [(r, .row 28 1 (v.texts.map txtA) 0)])
def clS (v : View) : Out := .fresh fun r => (.agg [.own r [] 23 0 v.votes.length v.votes.length, .nils], [(r, .row 57 23 (v.votes.map sgnA) 0)])
def clB (v : View) : Out := .fresh2 fun r r' => (.agg [.own r [] 23 0 v.votes.length v.votes.length, .own r' [] 1 0 v.texts.length v.texts.length], [(r, .row 57 23 (v.votes.map sgnA) 0), (r', .row 28 1 (v.texts.map txtA) 0)])
attribute [go_sem] cl0 clT clS clB
def cloneOut (v : View) : Out := if v.votes = [] then (if v.texts = [] then cl0 else clT v) else (if v.texts = [] then clS v else clB v)
def sp_snapshot_Clone (args : List AV) : RM CallSpec := match args with
  | [x] => (viewM x).bind fun v => if v.votes = [] then (if v.texts = [] then mkS [viewA v] [] cl0 false else mkS [viewA v] [] (clT v) false) else (if v.texts = [] then mkS [viewA v] [] (clS v) false else mkS [viewA v] [] (clB v) false)
  | _ => .fail
attribute [go_sem] sp_snapshot_Clone
theorem snapClone_ok {v : View} (h1 : v.votes.length ≤ 2000000000) (h2 : v.texts.length ≤ 2000000000) (h3 : ∀ s, s ∈ v.votes → s.sig.length ≤ 35184372080000) (h4 : ∀ t, t ∈ v.texts → t.length ≤ 35184372080000) : FnG Tryz.prog 66 [viewA v] [] (cloneOut v) := by
  refine FnG_of_W (sp := spL [(96, sp_snapshot_cloneVote), (86, sp_bytes_Clone)]) (tb := tbOf Tryz.prog) (tbOf_ok _) (by kernel_rfl) Tryz.func66 (c := _) rfl (by kernel_rfl) (by kernel_rfl) (Nat.le_of_ble_eq_true rfl) (rs := [.cell 2 25]) rfl ?_
  unfold FnW
  repeat' (first | (with_reducible intro _) | (with_reducible refine wcond_not ?_) | ((with_reducible refine wcond_dec (fun _ => ?_) (fun _ => ?_)) <;> try (exfalso; omega)) | (with_reducible refine wcond_split (fun _ => ?_) (fun _ => ?_)) | (first | (with_reducible refine draw_we [(false, []), (true, []), (false, [1]), (false, [10000, 1]), (false, [1]), (false, []), (false, []), (false, [])] (by kernel_rfl) (by decide +kernel) ?_) | (with_reducible refine draw_we [(false, []), (true, []), (false, []), (false, [10000, 1]), (false, [1]), (false, []), (false, []), (false, [])] (by kernel_rfl) (by decide +kernel) ?_)) | simp +contextual -implicitDefEqProofs (disch := first | exact dsc _ | fail) only [go_sem, ↓reduceIte, Nat.reduceEqDiff, Nat.reduceAdd, Nat.reduceMul, Nat.reduceSub, Nat.reduceLT, Nat.reduceLeDiff, Nat.reduceBEq, reduceCtorEq, BEq.rfl, Int.reduceLT, Int.reduceLE, Int.reduceAdd, Int.reduceToNat, Int.reduceSub, Int.reduceMul, Int.reduceNeg, Int.reduceEq, *] | (with_reducible refine And.intro (by first | omega | assumption | rfl) ?_))
  rename_i r0 r1 h01 r2 h2
  refine wloopW (α := Option Id × List Sgn) (fun p => ⟨[(1, .ptr r0 []), (2, .ptr r1 []), (3, .ptr r2 []), (9, .list (v.votes.map sgnA)), (10, .int .i64 v.votes.length), (11, .int .i64 p.2.length)],
      match p.1 with
      | none => [(r0, .box (viewA v)), (r1, .box (.agg [.nils, .nils])), (r2, .box (.agg [.nils, .nils]))]
      | some r => [(r0, .box (viewA v)), (r1, .box (.agg [.nils, .nils])), (r2, .box (.agg [.own r [] 23 0 p.2.length p.2.length, .nils])), (r, .row 57 23 (p.2.map sgnA) 0)]⟩)
    (fun p => p.2.length ≤ v.votes.length ∧ v.votes.take p.2.length = p.2 ∧ (p.1 = none → p.2 = []) ∧ ∀ r, p.1 = some r → ((¬ r = r0 ∧ ¬ r0 = r) ∧ (¬ r = r1 ∧ ¬ r1 = r) ∧ (¬ r = r2 ∧ ¬ r2 = r)) ∧ p.2 ≠ [])
    (fun p => v.votes.length - p.2.length) (none, []) ?_ ?_ ?_
  · simp
  · simp +contextual -implicitDefEqProofs (disch := first | exact dsc _ | fail) only [go_sem, push_cast, ↓reduceIte, Nat.reduceEqDiff, Nat.reduceAdd, Nat.reduceMul, Nat.reduceSub, Nat.reduceLT, Nat.reduceLeDiff, Nat.reduceBEq, reduceCtorEq, BEq.rfl, Int.reduceLT, Int.reduceLE, Int.reduceAdd, Int.reduceToNat, Int.reduceSub, Int.reduceMul, Int.reduceNeg, Int.reduceEq, *]
    all_goals simp
  · rintro ⟨o, acc⟩ hC
    replace hC : acc.length ≤ v.votes.length ∧ v.votes.take acc.length = acc ∧ (o = none → acc = []) ∧ ∀ r, o = some r → ((¬ r = r0 ∧ ¬ r0 = r) ∧ (¬ r = r1 ∧ ¬ r1 = r) ∧ (¬ r = r2 ∧ ¬ r2 = r)) ∧ acc ≠ [] := hC
    obtain ⟨hi, hta, ho, hr⟩ := hC
    by_cases hlt : acc.length < v.votes.length
    · obtain ⟨s, hs⟩ := get_lt hlt
      have hsig := h3 s (List.mem_of_getElem? hs)
      have hlt' : (acc.length : Int) < (v.votes.length : Int) := by omega
      have htk : ∃ l, l = acc ++ [s] ∧ v.votes.take (acc ++ [s]).length = l := by
        refine ⟨_, rfl, ?_⟩
        rw [List.length_append]
        show v.votes.take (acc.length + 1) = _
        rw [take_snoc hs, hta]
      clear hta
      rcases o with _ | r
      · have hi0 := ho rfl
        subst hi0
        clear ho hr hi
        have hs0 : v.votes[0]? = some s := hs
        have hl0 : (0 : Int) < (v.votes.length : Int) := hlt'
        clear hs hlt'
        repeat' (first | (with_reducible intro _) | (with_reducible refine wcond_not ?_) | ((with_reducible refine wcond_dec (fun _ => ?_) (fun _ => ?_)) <;> try (exfalso; omega)) | (with_reducible refine wcond_split (fun _ => ?_) (fun _ => ?_)) | (first | (with_reducible refine draw_we [(false, []), (true, []), (false, [1]), (false, [10000, 1]), (false, [1]), (false, []), (false, []), (false, [])] (by kernel_rfl) (by decide +kernel) ?_) | (with_reducible refine draw_we [(false, []), (true, []), (false, []), (false, [10000, 1]), (false, [1]), (false, []), (false, []), (false, [])] (by kernel_rfl) (by decide +kernel) ?_)) | simp +contextual -implicitDefEqProofs (disch := first | exact dsc _ | fail) only [go_sem, ↓reduceIte, Nat.reduceEqDiff, Nat.reduceAdd, Nat.reduceMul, Nat.reduceSub, Nat.reduceLT, Nat.reduceLeDiff, Nat.reduceBEq, reduceCtorEq, BEq.rfl, Int.reduceLT, Int.reduceLE, Int.reduceAdd, Int.reduceToNat, Int.reduceSub, Int.reduceMul, Int.reduceNeg, Int.reduceEq, *] | (with_reducible refine And.intro (by first | omega | assumption | rfl) ?_))
        rename_i r3 h8 r4 h9 r5 h10
        refine round_intro (some r5, [] ++ [s]) ⟨by show ([] ++ [s]).length ≤ v.votes.length; rw [List.length_append]; exact hlt, by obtain ⟨l, hl, htk⟩ := htk; rw [← hl]; rw [← hl] at htk; exact htk, by simp, by simp_all⟩ (by show v.votes.length - ([] ++ [s]).length < v.votes.length - List.length (α := Sgn) []; rw [List.length_append]; have : List.length (α := Sgn) [] < v.votes.length := hlt; simp only [List.length_cons, List.length_nil]; omega) ?_
        simp +contextual -implicitDefEqProofs (disch := first | exact dsc _ | fail) only [go_sem, push_cast, ↓reduceIte, Nat.reduceEqDiff, Nat.reduceAdd, Nat.reduceMul, Nat.reduceSub, Nat.reduceLT, Nat.reduceLeDiff, Nat.reduceBEq, reduceCtorEq, BEq.rfl, Int.reduceLT, Int.reduceLE, Int.reduceAdd, Int.reduceToNat, Int.reduceSub, Int.reduceMul, Int.reduceNeg, Int.reduceEq, *]
        all_goals first | omega | exact ⟨by omega, by rw [List.map_append]; rfl⟩ | rfl | (rw [List.map_append]; rfl)
      · obtain ⟨⟨h5, h6, h7⟩, hane⟩ := hr r rfl
        clear ho hr
        repeat' (first | (with_reducible intro _) | (with_reducible refine wcond_not ?_) | ((with_reducible refine wcond_dec (fun _ => ?_) (fun _ => ?_)) <;> try (exfalso; omega)) | (with_reducible refine wcond_split (fun _ => ?_) (fun _ => ?_)) | (first | (with_reducible refine draw_we [(false, []), (true, []), (false, [1]), (false, [10000, 1]), (false, [1]), (false, []), (false, []), (false, [])] (by kernel_rfl) (by decide +kernel) ?_) | (with_reducible refine draw_we [(false, []), (true, []), (false, []), (false, [10000, 1]), (false, [1]), (false, []), (false, []), (false, [])] (by kernel_rfl) (by decide +kernel) ?_)) | simp +contextual -implicitDefEqProofs (disch := first | exact dsc _ | fail) only [go_sem, ↓reduceIte, Nat.reduceEqDiff, Nat.reduceAdd, Nat.reduceMul, Nat.reduceSub, Nat.reduceLT, Nat.reduceLeDiff, Nat.reduceBEq, reduceCtorEq, BEq.rfl, Int.reduceLT, Int.reduceLE, Int.reduceAdd, Int.reduceToNat, Int.reduceSub, Int.reduceMul, Int.reduceNeg, Int.reduceEq, *] | (with_reducible refine And.intro (by first | omega | assumption | rfl) ?_))
        rename_i r3 h8 r4 h9 r5 h10
        refine round_intro (some r5, acc ++ [s]) ⟨by show (acc ++ [s]).length ≤ v.votes.length; rw [List.length_append]; exact hlt, by obtain ⟨l, hl, htk⟩ := htk; rw [← hl]; rw [← hl] at htk; exact htk, by simp, by simp_all⟩ (by show v.votes.length - (acc ++ [s]).length < v.votes.length - List.length (α := Sgn) acc; rw [List.length_append]; have : List.length (α := Sgn) acc < v.votes.length := hlt; simp only [List.length_cons, List.length_nil]; omega) ?_
        simp +contextual -implicitDefEqProofs (disch := first | exact dsc _ | fail) only [go_sem, push_cast, ↓reduceIte, Nat.reduceEqDiff, Nat.reduceAdd, Nat.reduceMul, Nat.reduceSub, Nat.reduceLT, Nat.reduceLeDiff, Nat.reduceBEq, reduceCtorEq, BEq.rfl, Int.reduceLT, Int.reduceLE, Int.reduceAdd, Int.reduceToNat, Int.reduceSub, Int.reduceMul, Int.reduceNeg, Int.reduceEq, *]
        all_goals first | omega | exact ⟨by omega, by rw [List.map_append]; rfl⟩ | rfl | (rw [List.map_append]; rfl)
    · have hacc : acc = v.votes := by rw [← hta, List.take_of_length_le (by omega)]
      have hlt' : ¬ (acc.length : Int) < (v.votes.length : Int) := by omega
      clear hta
      rcases o with _ | r
      · have hvn : v.votes = [] := by rw [← hacc]; exact ho rfl
        rw [hvn] at hacc
        subst hacc
        clear ho hr
        repeat' (first | (with_reducible intro _) | (with_reducible refine wcond_not ?_) | ((with_reducible refine wcond_dec (fun _ => ?_) (fun _ => ?_)) <;> try (exfalso; omega)) | (with_reducible refine wcond_split (fun _ => ?_) (fun _ => ?_)) | (first | (with_reducible refine draw_we [(false, []), (true, []), (false, [1]), (false, [10000, 1]), (false, [1]), (false, []), (false, []), (false, [])] (by kernel_rfl) (by decide +kernel) ?_) | (with_reducible refine draw_we [(false, []), (true, []), (false, []), (false, [10000, 1]), (false, [1]), (false, []), (false, []), (false, [])] (by kernel_rfl) (by decide +kernel) ?_)) | simp +contextual -implicitDefEqProofs (disch := first | exact dsc _ | fail) only [go_sem, ↓reduceIte, Nat.reduceEqDiff, Nat.reduceAdd, Nat.reduceMul, Nat.reduceSub, Nat.reduceLT, Nat.reduceLeDiff, Nat.reduceBEq, reduceCtorEq, BEq.rfl, Int.reduceLT, Int.reduceLE, Int.reduceAdd, Int.reduceToNat, Int.reduceSub, Int.reduceMul, Int.reduceNeg, Int.reduceEq, *] | (with_reducible refine And.intro (by first | omega | assumption | rfl) ?_))
        refine wloopW (α := Option Id × List (List UInt8)) (fun p => ⟨[(1, .ptr r0 []), (2, .ptr r1 []), (3, .ptr r2 []), (24, .list (v.texts.map txtA)), (25, .int .i64 v.texts.length), (26, .int .i64 p.2.length)],
            match p.1 with
            | none => [(r0, .box (.agg [.list (v.votes.map sgnA), .list (v.texts.map txtA)])), (r1, .box (.agg [.nils, .nils])), (r2, .box (.agg [.nils, .nils]))]
            | some rr => [(r0, .box (.agg [.list (v.votes.map sgnA), .list (v.texts.map txtA)])), (r1, .box (.agg [.nils, .nils])), (r2, .box (.agg [.nils, .own rr [] 1 0 p.2.length p.2.length])), (rr, .row 28 1 (p.2.map txtA) 0)]⟩)
          (fun p => p.2.length ≤ v.texts.length ∧ v.texts.take p.2.length = p.2 ∧ (p.1 = none → p.2 = []) ∧ ∀ rr, p.1 = some rr → ((¬ rr = r0 ∧ ¬ r0 = rr) ∧ (¬ rr = r1 ∧ ¬ r1 = rr) ∧ (¬ rr = r2 ∧ ¬ r2 = rr)) ∧ p.2 ≠ [])
          (fun p => v.texts.length - p.2.length) (none, []) ?_ ?_ ?_
        · simp
        · simp +contextual -implicitDefEqProofs (disch := first | exact dsc _ | fail) only [go_sem, push_cast, ↓reduceIte, Nat.reduceEqDiff, Nat.reduceAdd, Nat.reduceMul, Nat.reduceSub, Nat.reduceLT, Nat.reduceLeDiff, Nat.reduceBEq, reduceCtorEq, BEq.rfl, Int.reduceLT, Int.reduceLE, Int.reduceAdd, Int.reduceToNat, Int.reduceSub, Int.reduceMul, Int.reduceNeg, Int.reduceEq, *]
          all_goals simp
        · rintro ⟨q, tcc⟩ hC
          replace hC : tcc.length ≤ v.texts.length ∧ v.texts.take tcc.length = tcc ∧ (q = none → tcc = []) ∧ ∀ rr, q = some rr → ((¬ rr = r0 ∧ ¬ r0 = rr) ∧ (¬ rr = r1 ∧ ¬ r1 = rr) ∧ (¬ rr = r2 ∧ ¬ r2 = rr)) ∧ tcc ≠ [] := hC
          obtain ⟨hj, hta2, hq, hqr⟩ := hC
          by_cases hlt : tcc.length < v.texts.length
          · obtain ⟨s, hs⟩ := get_lt hlt
            have hsig := h4 s (List.mem_of_getElem? hs)
            have hlt' : (tcc.length : Int) < (v.texts.length : Int) := by omega
            have htk : ∃ l, l = tcc ++ [s] ∧ v.texts.take (tcc ++ [s]).length = l := by
              refine ⟨_, rfl, ?_⟩
              rw [List.length_append]
              show v.texts.take (tcc.length + 1) = _
              rw [take_snoc hs, hta2]
            clear hta2
            rcases q with _ | rr
            · have hi0 := hq rfl
              subst hi0
              clear hq hqr hj
              have hs0 : v.texts[0]? = some s := hs
              have hl0 : (0 : Int) < (v.texts.length : Int) := hlt'
              clear hs hlt'
              repeat' (first | (with_reducible intro _) | (with_reducible refine wcond_not ?_) | ((with_reducible refine wcond_dec (fun _ => ?_) (fun _ => ?_)) <;> try (exfalso; omega)) | (with_reducible refine wcond_split (fun _ => ?_) (fun _ => ?_)) | (first | (with_reducible refine draw_we [(false, []), (true, []), (false, [1]), (false, [10000, 1]), (false, [1]), (false, []), (false, []), (false, [])] (by kernel_rfl) (by decide +kernel) ?_) | (with_reducible refine draw_we [(false, []), (true, []), (false, []), (false, [10000, 1]), (false, [1]), (false, []), (false, []), (false, [])] (by kernel_rfl) (by decide +kernel) ?_)) | simp +contextual -implicitDefEqProofs (disch := first | exact dsc _ | fail) only [go_sem, ↓reduceIte, Nat.reduceEqDiff, Nat.reduceAdd, Nat.reduceMul, Nat.reduceSub, Nat.reduceLT, Nat.reduceLeDiff, Nat.reduceBEq, reduceCtorEq, BEq.rfl, Int.reduceLT, Int.reduceLE, Int.reduceAdd, Int.reduceToNat, Int.reduceSub, Int.reduceMul, Int.reduceNeg, Int.reduceEq, *] | (with_reducible refine And.intro (by first | omega | assumption | rfl) ?_))
              rename_i r4 h9 r5 h10
              refine round_intro (some r5, [] ++ [s]) ⟨by show ([] ++ [s]).length ≤ v.texts.length; rw [List.length_append]; exact hlt, by obtain ⟨l, hl, htk⟩ := htk; rw [← hl]; rw [← hl] at htk; exact htk, by simp, by simp_all⟩ (by show v.texts.length - ([] ++ [s]).length < v.texts.length - List.length (α := List UInt8) []; rw [List.length_append]; have : List.length (α := List UInt8) [] < v.texts.length := hlt; simp only [List.length_cons, List.length_nil]; omega) ?_
              simp +contextual -implicitDefEqProofs (disch := first | exact dsc _ | fail) only [go_sem, push_cast, ↓reduceIte, Nat.reduceEqDiff, Nat.reduceAdd, Nat.reduceMul, Nat.reduceSub, Nat.reduceLT, Nat.reduceLeDiff, Nat.reduceBEq, reduceCtorEq, BEq.rfl, Int.reduceLT, Int.reduceLE, Int.reduceAdd, Int.reduceToNat, Int.reduceSub, Int.reduceMul, Int.reduceNeg, Int.reduceEq, *]
              all_goals first | omega | exact ⟨by omega, by rw [List.map_append]; rfl⟩ | rfl | (rw [List.map_append]; rfl)
            · obtain ⟨⟨k5, k6, k7⟩, htne⟩ := hqr rr rfl
              clear hq hqr
              repeat' (first | (with_reducible intro _) | (with_reducible refine wcond_not ?_) | ((with_reducible refine wcond_dec (fun _ => ?_) (fun _ => ?_)) <;> try (exfalso; omega)) | (with_reducible refine wcond_split (fun _ => ?_) (fun _ => ?_)) | (first | (with_reducible refine draw_we [(false, []), (true, []), (false, [1]), (false, [10000, 1]), (false, [1]), (false, []), (false, []), (false, [])] (by kernel_rfl) (by decide +kernel) ?_) | (with_reducible refine draw_we [(false, []), (true, []), (false, []), (false, [10000, 1]), (false, [1]), (false, []), (false, []), (false, [])] (by kernel_rfl) (by decide +kernel) ?_)) | simp +contextual -implicitDefEqProofs (disch := first | exact dsc _ | fail) only [go_sem, ↓reduceIte, Nat.reduceEqDiff, Nat.reduceAdd, Nat.reduceMul, Nat.reduceSub, Nat.reduceLT, Nat.reduceLeDiff, Nat.reduceBEq, reduceCtorEq, BEq.rfl, Int.reduceLT, Int.reduceLE, Int.reduceAdd, Int.reduceToNat, Int.reduceSub, Int.reduceMul, Int.reduceNeg, Int.reduceEq, *] | (with_reducible refine And.intro (by first | omega | assumption | rfl) ?_))
              rename_i r4 h9 r5 h10
              refine round_intro (some r5, tcc ++ [s]) ⟨by show (tcc ++ [s]).length ≤ v.texts.length; rw [List.length_append]; exact hlt, by obtain ⟨l, hl, htk⟩ := htk; rw [← hl]; rw [← hl] at htk; exact htk, by simp, by simp_all⟩ (by show v.texts.length - (tcc ++ [s]).length < v.texts.length - List.length (α := List UInt8) tcc; rw [List.length_append]; have : List.length (α := List UInt8) tcc < v.texts.length := hlt; simp only [List.length_cons, List.length_nil]; omega) ?_
              simp +contextual -implicitDefEqProofs (disch := first | exact dsc _ | fail) only [go_sem, push_cast, ↓reduceIte, Nat.reduceEqDiff, Nat.reduceAdd, Nat.reduceMul, Nat.reduceSub, Nat.reduceLT, Nat.reduceLeDiff, Nat.reduceBEq, reduceCtorEq, BEq.rfl, Int.reduceLT, Int.reduceLE, Int.reduceAdd, Int.reduceToNat, Int.reduceSub, Int.reduceMul, Int.reduceNeg, Int.reduceEq, *]
              all_goals first | omega | exact ⟨by omega, by rw [List.map_append]; rfl⟩ | rfl | (rw [List.map_append]; rfl)
          · have htcc : tcc = v.texts := by rw [← hta2, List.take_of_length_le (by omega)]
            have hlt' : ¬ (tcc.length : Int) < (v.texts.length : Int) := by omega
            clear hta2
            rcases q with _ | rr
            · have hvt : v.texts = [] := by rw [← htcc]; exact hq rfl
              rw [hvt] at htcc
              subst htcc
              have ee : cloneOut v = cl0 := by rw [cloneOut, if_pos hvn, if_pos hvt]
              rw [ee]; clear ee
              repeat' (first | (with_reducible intro _) | (with_reducible refine wcond_not ?_) | ((with_reducible refine wcond_dec (fun _ => ?_) (fun _ => ?_)) <;> try (exfalso; omega)) | (with_reducible refine wcond_split (fun _ => ?_) (fun _ => ?_)) | (first | (with_reducible refine draw_we [(false, []), (true, []), (false, [1]), (false, [10000, 1]), (false, [1]), (false, []), (false, []), (false, [])] (by kernel_rfl) (by decide +kernel) ?_) | (with_reducible refine draw_we [(false, []), (true, []), (false, []), (false, [10000, 1]), (false, [1]), (false, []), (false, []), (false, [])] (by kernel_rfl) (by decide +kernel) ?_)) | simp +contextual -implicitDefEqProofs (disch := first | exact dsc _ | fail) only [go_sem, ↓reduceIte, Nat.reduceEqDiff, Nat.reduceAdd, Nat.reduceMul, Nat.reduceSub, Nat.reduceLT, Nat.reduceLeDiff, Nat.reduceBEq, reduceCtorEq, BEq.rfl, Int.reduceLT, Int.reduceLE, Int.reduceAdd, Int.reduceToNat, Int.reduceSub, Int.reduceMul, Int.reduceNeg, Int.reduceEq, *] | (with_reducible refine And.intro (by first | omega | assumption | rfl) ?_))
              all_goals ((first | refine Fin_v1 (by rfl) ?_ | refine Fin_vn (by intro h; cases h) ?_ | refine Fin_f1 (by rfl) ?_ | refine Fin_fn (by intro h; cases h) (fun _ => rfl) ?_ | refine Fin_u1 (by rfl) ?_ | refine Fin_un (by intro h; cases h) ?_); try simp +contextual -implicitDefEqProofs (disch := first | exact dsc _ | fail) only [go_sem, push_cast, ↓reduceIte, Nat.reduceEqDiff, Nat.reduceAdd, Nat.reduceMul, Nat.reduceSub, Nat.reduceLT, Nat.reduceLeDiff, Nat.reduceBEq, reduceCtorEq, BEq.rfl, Int.reduceLT, Int.reduceLE, Int.reduceAdd, Int.reduceToNat, Int.reduceSub, Int.reduceMul, Int.reduceNeg, Int.reduceEq, *, cl0])
            · obtain ⟨⟨k5, k6, k7⟩, htne⟩ := hqr rr rfl
              subst htcc
              have ee : cloneOut v = clT v := by rw [cloneOut, if_pos hvn, if_neg htne]
              rw [ee]; clear ee
              repeat' (first | (with_reducible intro _) | (with_reducible refine wcond_not ?_) | ((with_reducible refine wcond_dec (fun _ => ?_) (fun _ => ?_)) <;> try (exfalso; omega)) | (with_reducible refine wcond_split (fun _ => ?_) (fun _ => ?_)) | (first | (with_reducible refine draw_we [(false, []), (true, []), (false, [1]), (false, [10000, 1]), (false, [1]), (false, []), (false, []), (false, [])] (by kernel_rfl) (by decide +kernel) ?_) | (with_reducible refine draw_we [(false, []), (true, []), (false, []), (false, [10000, 1]), (false, [1]), (false, []), (false, []), (false, [])] (by kernel_rfl) (by decide +kernel) ?_)) | simp +contextual -implicitDefEqProofs (disch := first | exact dsc _ | fail) only [go_sem, ↓reduceIte, Nat.reduceEqDiff, Nat.reduceAdd, Nat.reduceMul, Nat.reduceSub, Nat.reduceLT, Nat.reduceLeDiff, Nat.reduceBEq, reduceCtorEq, BEq.rfl, Int.reduceLT, Int.reduceLE, Int.reduceAdd, Int.reduceToNat, Int.reduceSub, Int.reduceMul, Int.reduceNeg, Int.reduceEq, *] | (with_reducible refine And.intro (by first | omega | assumption | rfl) ?_))
              all_goals ((first | refine Fin_v1 (by rfl) ?_ | refine Fin_vn (by intro h; cases h) ?_ | refine Fin_f1 (by rfl) ?_ | refine Fin_fn (by intro h; cases h) (fun _ => rfl) ?_ | refine Fin_u1 (by rfl) ?_ | refine Fin_un (by intro h; cases h) ?_); try simp +contextual -implicitDefEqProofs (disch := first | exact dsc _ | fail) only [go_sem, push_cast, ↓reduceIte, Nat.reduceEqDiff, Nat.reduceAdd, Nat.reduceMul, Nat.reduceSub, Nat.reduceLT, Nat.reduceLeDiff, Nat.reduceBEq, reduceCtorEq, BEq.rfl, Int.reduceLT, Int.reduceLE, Int.reduceAdd, Int.reduceToNat, Int.reduceSub, Int.reduceMul, Int.reduceNeg, Int.reduceEq, *])
      · obtain ⟨⟨h5, h6, h7⟩, hane⟩ := hr r rfl
        subst hacc
        clear ho hr
        repeat' (first | (with_reducible intro _) | (with_reducible refine wcond_not ?_) | ((with_reducible refine wcond_dec (fun _ => ?_) (fun _ => ?_)) <;> try (exfalso; omega)) | (with_reducible refine wcond_split (fun _ => ?_) (fun _ => ?_)) | (first | (with_reducible refine draw_we [(false, []), (true, []), (false, [1]), (false, [10000, 1]), (false, [1]), (false, []), (false, []), (false, [])] (by kernel_rfl) (by decide +kernel) ?_) | (with_reducible refine draw_we [(false, []), (true, []), (false, []), (false, [10000, 1]), (false, [1]), (false, []), (false, []), (false, [])] (by kernel_rfl) (by decide +kernel) ?_)) | simp +contextual -implicitDefEqProofs (disch := first | exact dsc _ | fail) only [go_sem, ↓reduceIte, Nat.reduceEqDiff, Nat.reduceAdd, Nat.reduceMul, Nat.reduceSub, Nat.reduceLT, Nat.reduceLeDiff, Nat.reduceBEq, reduceCtorEq, BEq.rfl, Int.reduceLT, Int.reduceLE, Int.reduceAdd, Int.reduceToNat, Int.reduceSub, Int.reduceMul, Int.reduceNeg, Int.reduceEq, *] | (with_reducible refine And.intro (by first | omega | assumption | rfl) ?_))
        refine wloopW (α := Option Id × List (List UInt8)) (fun p => ⟨[(1, .ptr r0 []), (2, .ptr r1 []), (3, .ptr r2 []), (24, .list (v.texts.map txtA)), (25, .int .i64 v.texts.length), (26, .int .i64 p.2.length)],
            match p.1 with
            | none => [(r0, .box (.agg [.list (v.votes.map sgnA), .list (v.texts.map txtA)])), (r1, .box (.agg [.nils, .nils])), (r2, .box (.agg [.own r [] 23 0 v.votes.length v.votes.length, .nils])), (r, .row 57 23 (v.votes.map sgnA) 0)]
            | some rr => [(r0, .box (.agg [.list (v.votes.map sgnA), .list (v.texts.map txtA)])), (r1, .box (.agg [.nils, .nils])), (r2, .box (.agg [.own r [] 23 0 v.votes.length v.votes.length, .own rr [] 1 0 p.2.length p.2.length])), (rr, .row 28 1 (p.2.map txtA) 0), (r, .row 57 23 (v.votes.map sgnA) 0)]⟩)
          (fun p => p.2.length ≤ v.texts.length ∧ v.texts.take p.2.length = p.2 ∧ (p.1 = none → p.2 = []) ∧ ∀ rr, p.1 = some rr → ((¬ rr = r0 ∧ ¬ r0 = rr) ∧ (¬ rr = r1 ∧ ¬ r1 = rr) ∧ (¬ rr = r2 ∧ ¬ r2 = rr) ∧ (¬ rr = r ∧ ¬ r = rr)) ∧ p.2 ≠ [])
          (fun p => v.texts.length - p.2.length) (none, []) ?_ ?_ ?_
        · simp
        · simp +contextual -implicitDefEqProofs (disch := first | exact dsc _ | fail) only [go_sem, push_cast, ↓reduceIte, Nat.reduceEqDiff, Nat.reduceAdd, Nat.reduceMul, Nat.reduceSub, Nat.reduceLT, Nat.reduceLeDiff, Nat.reduceBEq, reduceCtorEq, BEq.rfl, Int.reduceLT, Int.reduceLE, Int.reduceAdd, Int.reduceToNat, Int.reduceSub, Int.reduceMul, Int.reduceNeg, Int.reduceEq, *]
          all_goals simp
        · rintro ⟨q, tcc⟩ hC
          replace hC : tcc.length ≤ v.texts.length ∧ v.texts.take tcc.length = tcc ∧ (q = none → tcc = []) ∧ ∀ rr, q = some rr → ((¬ rr = r0 ∧ ¬ r0 = rr) ∧ (¬ rr = r1 ∧ ¬ r1 = rr) ∧ (¬ rr = r2 ∧ ¬ r2 = rr) ∧ (¬ rr = r ∧ ¬ r = rr)) ∧ tcc ≠ [] := hC
          obtain ⟨hj, hta2, hq, hqr⟩ := hC
          by_cases hlt : tcc.length < v.texts.length
          · obtain ⟨s, hs⟩ := get_lt hlt
            have hsig := h4 s (List.mem_of_getElem? hs)
            have hlt' : (tcc.length : Int) < (v.texts.length : Int) := by omega
            have htk : ∃ l, l = tcc ++ [s] ∧ v.texts.take (tcc ++ [s]).length = l := by
              refine ⟨_, rfl, ?_⟩
              rw [List.length_append]
              show v.texts.take (tcc.length + 1) = _
              rw [take_snoc hs, hta2]
            clear hta2
            rcases q with _ | rr
            · have hi0 := hq rfl
              subst hi0
              clear hq hqr hj
              have hs0 : v.texts[0]? = some s := hs
              have hl0 : (0 : Int) < (v.texts.length : Int) := hlt'
              clear hs hlt'
              repeat' (first | (with_reducible intro _) | (with_reducible refine wcond_not ?_) | ((with_reducible refine wcond_dec (fun _ => ?_) (fun _ => ?_)) <;> try (exfalso; omega)) | (with_reducible refine wcond_split (fun _ => ?_) (fun _ => ?_)) | (first | (with_reducible refine draw_we [(false, []), (true, []), (false, [1]), (false, [10000, 1]), (false, [1]), (false, []), (false, []), (false, [])] (by kernel_rfl) (by decide +kernel) ?_) | (with_reducible refine draw_we [(false, []), (true, []), (false, []), (false, [10000, 1]), (false, [1]), (false, []), (false, []), (false, [])] (by kernel_rfl) (by decide +kernel) ?_)) | simp +contextual -implicitDefEqProofs (disch := first | exact dsc _ | fail) only [go_sem, ↓reduceIte, Nat.reduceEqDiff, Nat.reduceAdd, Nat.reduceMul, Nat.reduceSub, Nat.reduceLT, Nat.reduceLeDiff, Nat.reduceBEq, reduceCtorEq, BEq.rfl, Int.reduceLT, Int.reduceLE, Int.reduceAdd, Int.reduceToNat, Int.reduceSub, Int.reduceMul, Int.reduceNeg, Int.reduceEq, *] | (with_reducible refine And.intro (by first | omega | assumption | rfl) ?_))
              rename_i r4 h9 r5 h10
              refine round_intro (some r5, [] ++ [s]) ⟨by show ([] ++ [s]).length ≤ v.texts.length; rw [List.length_append]; exact hlt, by obtain ⟨l, hl, htk⟩ := htk; rw [← hl]; rw [← hl] at htk; exact htk, by simp, by simp_all⟩ (by show v.texts.length - ([] ++ [s]).length < v.texts.length - List.length (α := List UInt8) []; rw [List.length_append]; have : List.length (α := List UInt8) [] < v.texts.length := hlt; simp only [List.length_cons, List.length_nil]; omega) ?_
              simp +contextual -implicitDefEqProofs (disch := first | exact dsc _ | fail) only [go_sem, push_cast, ↓reduceIte, Nat.reduceEqDiff, Nat.reduceAdd, Nat.reduceMul, Nat.reduceSub, Nat.reduceLT, Nat.reduceLeDiff, Nat.reduceBEq, reduceCtorEq, BEq.rfl, Int.reduceLT, Int.reduceLE, Int.reduceAdd, Int.reduceToNat, Int.reduceSub, Int.reduceMul, Int.reduceNeg, Int.reduceEq, *]
              all_goals first | omega | exact ⟨by omega, by rw [List.map_append]; rfl⟩ | rfl | (rw [List.map_append]; rfl)
            · obtain ⟨⟨k5, k6, k7, k8⟩, htne⟩ := hqr rr rfl
              clear hq hqr
              repeat' (first | (with_reducible intro _) | (with_reducible refine wcond_not ?_) | ((with_reducible refine wcond_dec (fun _ => ?_) (fun _ => ?_)) <;> try (exfalso; omega)) | (with_reducible refine wcond_split (fun _ => ?_) (fun _ => ?_)) | (first | (with_reducible refine draw_we [(false, []), (true, []), (false, [1]), (false, [10000, 1]), (false, [1]), (false, []), (false, []), (false, [])] (by kernel_rfl) (by decide +kernel) ?_) | (with_reducible refine draw_we [(false, []), (true, []), (false, []), (false, [10000, 1]), (false, [1]), (false, []), (false, []), (false, [])] (by kernel_rfl) (by decide +kernel) ?_)) | simp +contextual -implicitDefEqProofs (disch := first | exact dsc _ | fail) only [go_sem, ↓reduceIte, Nat.reduceEqDiff, Nat.reduceAdd, Nat.reduceMul, Nat.reduceSub, Nat.reduceLT, Nat.reduceLeDiff, Nat.reduceBEq, reduceCtorEq, BEq.rfl, Int.reduceLT, Int.reduceLE, Int.reduceAdd, Int.reduceToNat, Int.reduceSub, Int.reduceMul, Int.reduceNeg, Int.reduceEq, *] | (with_reducible refine And.intro (by first | omega | assumption | rfl) ?_))
              rename_i r4 h9 r5 h10
              refine round_intro (some r5, tcc ++ [s]) ⟨by show (tcc ++ [s]).length ≤ v.texts.length; rw [List.length_append]; exact hlt, by obtain ⟨l, hl, htk⟩ := htk; rw [← hl]; rw [← hl] at htk; exact htk, by simp, by simp_all⟩ (by show v.texts.length - (tcc ++ [s]).length < v.texts.length - List.length (α := List UInt8) tcc; rw [List.length_append]; have : List.length (α := List UInt8) tcc < v.texts.length := hlt; simp only [List.length_cons, List.length_nil]; omega) ?_
              simp +contextual -implicitDefEqProofs (disch := first | exact dsc _ | fail) only [go_sem, push_cast, ↓reduceIte, Nat.reduceEqDiff, Nat.reduceAdd, Nat.reduceMul, Nat.reduceSub, Nat.reduceLT, Nat.reduceLeDiff, Nat.reduceBEq, reduceCtorEq, BEq.rfl, Int.reduceLT, Int.reduceLE, Int.reduceAdd, Int.reduceToNat, Int.reduceSub, Int.reduceMul, Int.reduceNeg, Int.reduceEq, *]
              all_goals first | omega | exact ⟨by omega, by rw [List.map_append]; rfl⟩ | rfl | (rw [List.map_append]; rfl)
          · have htcc : tcc = v.texts := by rw [← hta2, List.take_of_length_le (by omega)]
            have hlt' : ¬ (tcc.length : Int) < (v.texts.length : Int) := by omega
            clear hta2
            rcases q with _ | rr
            · have hvt : v.texts = [] := by rw [← htcc]; exact hq rfl
              rw [hvt] at htcc
              subst htcc
              have ee : cloneOut v = clS v := by rw [cloneOut, if_neg hane, if_pos hvt]
              rw [ee]; clear ee
              repeat' (first | (with_reducible intro _) | (with_reducible refine wcond_not ?_) | ((with_reducible refine wcond_dec (fun _ => ?_) (fun _ => ?_)) <;> try (exfalso; omega)) | (with_reducible refine wcond_split (fun _ => ?_) (fun _ => ?_)) | (first | (with_reducible refine draw_we [(false, []), (true, []), (false, [1]), (false, [10000, 1]), (false, [1]), (false, []), (false, []), (false, [])] (by kernel_rfl) (by decide +kernel) ?_) | (with_reducible refine draw_we [(false, []), (true, []), (false, []), (false, [10000, 1]), (false, [1]), (false, []), (false, []), (false, [])] (by kernel_rfl) (by decide +kernel) ?_)) | simp +contextual -implicitDefEqProofs (disch := first | exact dsc _ | fail) only [go_sem, ↓reduceIte, Nat.reduceEqDiff, Nat.reduceAdd, Nat.reduceMul, Nat.reduceSub, Nat.reduceLT, Nat.reduceLeDiff, Nat.reduceBEq, reduceCtorEq, BEq.rfl, Int.reduceLT, Int.reduceLE, Int.reduceAdd, Int.reduceToNat, Int.reduceSub, Int.reduceMul, Int.reduceNeg, Int.reduceEq, *] | (with_reducible refine And.intro (by first | omega | assumption | rfl) ?_))
              all_goals ((first | refine Fin_v1 (by rfl) ?_ | refine Fin_vn (by intro h; cases h) ?_ | refine Fin_f1 (by rfl) ?_ | refine Fin_fn (by intro h; cases h) (fun _ => rfl) ?_ | refine Fin_u1 (by rfl) ?_ | refine Fin_un (by intro h; cases h) ?_); try simp +contextual -implicitDefEqProofs (disch := first | exact dsc _ | fail) only [go_sem, push_cast, ↓reduceIte, Nat.reduceEqDiff, Nat.reduceAdd, Nat.reduceMul, Nat.reduceSub, Nat.reduceLT, Nat.reduceLeDiff, Nat.reduceBEq, reduceCtorEq, BEq.rfl, Int.reduceLT, Int.reduceLE, Int.reduceAdd, Int.reduceToNat, Int.reduceSub, Int.reduceMul, Int.reduceNeg, Int.reduceEq, *])
            · obtain ⟨⟨k5, k6, k7, k8⟩, htne⟩ := hqr rr rfl
              subst htcc
              have ee : cloneOut v = clB v := by rw [cloneOut, if_neg hane, if_neg htne]
              rw [ee]; clear ee
              repeat' (first | (with_reducible intro _) | (with_reducible refine wcond_not ?_) | ((with_reducible refine wcond_dec (fun _ => ?_) (fun _ => ?_)) <;> try (exfalso; omega)) | (with_reducible refine wcond_split (fun _ => ?_) (fun _ => ?_)) | (first | (with_reducible refine draw_we [(false, []), (true, []), (false, [1]), (false, [10000, 1]), (false, [1]), (false, []), (false, []), (false, [])] (by kernel_rfl) (by decide +kernel) ?_) | (with_reducible refine draw_we [(false, []), (true, []), (false, []), (false, [10000, 1]), (false, [1]), (false, []), (false, []), (false, [])] (by kernel_rfl) (by decide +kernel) ?_)) | simp +contextual -implicitDefEqProofs (disch := first | exact dsc _ | fail) only [go_sem, ↓reduceIte, Nat.reduceEqDiff, Nat.reduceAdd, Nat.reduceMul, Nat.reduceSub, Nat.reduceLT, Nat.reduceLeDiff, Nat.reduceBEq, reduceCtorEq, BEq.rfl, Int.reduceLT, Int.reduceLE, Int.reduceAdd, Int.reduceToNat, Int.reduceSub, Int.reduceMul, Int.reduceNeg, Int.reduceEq, *] | (with_reducible refine And.intro (by first | omega | assumption | rfl) ?_))
              refine Fin_g1 r rr (by rfl) ?_
              simp +contextual -implicitDefEqProofs (disch := first | exact dsc _ | fail) only [go_sem, push_cast, ↓reduceIte, Nat.reduceEqDiff, Nat.reduceAdd, Nat.reduceMul, Nat.reduceSub, Nat.reduceLT, Nat.reduceLeDiff, Nat.reduceBEq, reduceCtorEq, BEq.rfl, Int.reduceLT, Int.reduceLE, Int.reduceAdd, Int.reduceToNat, Int.reduceSub, Int.reduceMul, Int.reduceNeg, Int.reduceEq, *, idsOk]
theorem t_snapshot_Clone_a {v : View} (ha : v.votes = []) (hb : v.texts = []) (h1 : v.votes.length ≤ 2000000000) (h2 : v.texts.length ≤ 2000000000) (h3 : ∀ s, s ∈ v.votes → s.sig.length ≤ 35184372080000) (h4 : ∀ t, t ∈ v.texts → t.length ≤ 35184372080000) : FnG Tryz.prog 66 [viewA v] [] cl0 = True := by
  have := snapClone_ok h1 h2 h3 h4
  rw [cloneOut, if_pos ha, if_pos hb] at this
  exact eq_true this
attribute [go_sem ↓] t_snapshot_Clone_a
theorem t_snapshot_Clone_b {v : View} (ha : v.votes = []) (hb : ¬ v.texts = []) (h1 : v.votes.length ≤ 2000000000) (h2 : v.texts.length ≤ 2000000000) (h3 : ∀ s, s ∈ v.votes → s.sig.length ≤ 35184372080000) (h4 : ∀ t, t ∈ v.texts → t.length ≤ 35184372080000) : FnG Tryz.prog 66 [viewA v] [] (clT v) = True := by
  have := snapClone_ok h1 h2 h3 h4
  rw [cloneOut, if_pos ha, if_neg hb] at this
  exact eq_true this
attribute [go_sem ↓] t_snapshot_Clone_b
theorem t_snapshot_Clone_c {v : View} (ha : ¬ v.votes = []) (hb : v.texts = []) (h1 : v.votes.length ≤ 2000000000) (h2 : v.texts.length ≤ 2000000000) (h3 : ∀ s, s ∈ v.votes → s.sig.length ≤ 35184372080000) (h4 : ∀ t, t ∈ v.texts → t.length ≤ 35184372080000) : FnG Tryz.prog 66 [viewA v] [] (clS v) = True := by
  have := snapClone_ok h1 h2 h3 h4
  rw [cloneOut, if_neg ha, if_pos hb] at this
  exact eq_true this
attribute [go_sem ↓] t_snapshot_Clone_c
theorem t_snapshot_Clone_d {v : View} (ha : ¬ v.votes = []) (hb : ¬ v.texts = []) (h1 : v.votes.length ≤ 2000000000) (h2 : v.texts.length ≤ 2000000000) (h3 : ∀ s, s ∈ v.votes → s.sig.length ≤ 35184372080000) (h4 : ∀ t, t ∈ v.texts → t.length ≤ 35184372080000) : FnG Tryz.prog 66 [viewA v] [] (clB v) = True := by
  have := snapClone_ok h1 h2 h3 h4
  rw [cloneOut, if_neg ha, if_neg hb] at this
  exact eq_true this
attribute [go_sem ↓] t_snapshot_Clone_d
end Go.Am.Tryz
set_option maxRecDepth 100000
set_option linter.unusedSimpArgs false
set_option linter.unusedVariables false
set_option pp.maxSteps 2000
set_option maxHeartbeats 1000000
namespace Go.Am.Tryz
open Go.Proofs
theorem arr_get {d : Array (List UInt8)} {i : Nat} (h : i < d.size) : d.toList[i]? = some d[i]! := by
  rw [Array.getElem?_toList, Array.getElem!_eq_getD, Array.getD_eq_getD_getElem?]
  simp [h]
theorem swp_row {d : Array (List UInt8)} {i j : Nat} {x y : List UInt8} (hx : d[i]! = x) (hy : d[j]! = y) : (Go.Sort.swp d i j).toList.map txtA = ((d.toList.map txtA).set i (.list (bys y))).set j (.list (bys x)) := by
  unfold Go.Sort.swp
  rw [Array.toList_setIfInBounds, Array.toList_setIfInBounds, List.map_set, List.map_set, hx, hy]; rfl
theorem swp_size {d : Array (List UInt8)} {i j : Nat} : (Go.Sort.swp d i j).size = d.size := by
  unfold Go.Sort.swp; simp
theorem insSortB_ok {r : Id} {cap a b : Nat} {d : Array (List UInt8)} (ha : a ≤ 1000000000) (hab : b ≤ d.size) (hs : d.size ≤ 1000000000) : FnG Tryz.prog 113 [.own r [] 1 0 d.size cap, .int .i64 a, .int .i64 b, .func 72 [] []] [(r, .row 28 1 (d.toList.map txtA) 0)] (.upd (.tup []) [(r, .row 28 1 ((Go.Sort.insertionSort txtLt d a b).toList.map txtA) 0)]) := by
  refine FnG_of_W (sp := spL [(72, sp_bytes_Compare)]) (tb := tbOf Tryz.prog) (tbOf_ok _) (by kernel_rfl) Tryz.func113 (c := _) rfl (by kernel_rfl) (by kernel_rfl) (Nat.le_of_ble_eq_true rfl) (rs := []) rfl ?_
  unfold FnW
  repeat' (first | (with_reducible intro _) | (with_reducible refine wcond_not ?_) | ((with_reducible refine wcond_dec (fun _ => ?_) (fun _ => ?_)) <;> try (exfalso; omega)) | (with_reducible refine wcond_split (fun _ => ?_) (fun _ => ?_)) | (first | (with_reducible refine draw_we [(false, []), (false, []), (false, []), (false, []), (false, []), (false, []), (false, []), (false, []), (false, []), (true, []), (false, []), (false, []), (false, []), (false, [9]), (false, []), (false, []), (false, []), (false, [])] (by kernel_rfl) (by decide +kernel) ?_) | (with_reducible refine draw_ro (by kernel_rfl) ?_)) | simp +contextual -implicitDefEqProofs (disch := first | exact dsc _ | fail) only [go_sem, ↓reduceIte, Nat.reduceEqDiff, Nat.reduceAdd, Nat.reduceMul, Nat.reduceSub, Nat.reduceLT, Nat.reduceLeDiff, Nat.reduceBEq, reduceCtorEq, BEq.rfl, Int.reduceLT, Int.reduceLE, Int.reduceAdd, Int.reduceToNat, Int.reduceSub, Int.reduceMul, Int.reduceNeg, Int.reduceEq, *] | (with_reducible refine And.intro (by first | omega | assumption | rfl) ?_))
  generalize hD : Go.Sort.insertionSort txtLt d a b = D
  have hD0 : Go.Sort.insOuter txtLt a b (a + 1) d = D := hD
  clear hD
  have hds : d.toList.length = d.size := Array.length_toList
  refine wloopW (α := Nat × Array (List UInt8)) (fun p => ⟨[(0, .own r [] 1 0 d.size cap), (1, .int .i64 a), (2, .int .i64 b), (3, .func 72 [] []), (8, .int .i64 p.1)], [(r, .row 28 1 (p.2.toList.map txtA) 0)]⟩)
    (fun p => a + 1 ≤ p.1 ∧ p.2.size = d.size ∧ Go.Sort.insOuter txtLt a b p.1 p.2 = D) (fun p => b - p.1) (a + 1, d) ?_ ?_ ?_
  · exact ⟨Nat.le_refl _, rfl, hD0⟩
  · simp +contextual -implicitDefEqProofs (disch := first | exact dsc _ | fail) only [go_sem, push_cast, ↓reduceIte, Nat.reduceEqDiff, Nat.reduceAdd, Nat.reduceMul, Nat.reduceSub, Nat.reduceLT, Nat.reduceLeDiff, Nat.reduceBEq, reduceCtorEq, BEq.rfl, Int.reduceLT, Int.reduceLE, Int.reduceAdd, Int.reduceToNat, Int.reduceSub, Int.reduceMul, Int.reduceNeg, Int.reduceEq, *]
    all_goals omega
  · rintro ⟨i, d1⟩ hC
    replace hC : a + 1 ≤ i ∧ d1.size = d.size ∧ Go.Sort.insOuter txtLt a b i d1 = D := hC
    obtain ⟨hi, hsz, hdec⟩ := hC
    by_cases hlt : i < b
    · have hlt' : (i : Int) < (b : Int) := by omega
      rw [Go.Sort.insOuter, if_pos hlt] at hdec
      repeat' (first | (with_reducible intro _) | (with_reducible refine wcond_not ?_) | ((with_reducible refine wcond_dec (fun _ => ?_) (fun _ => ?_)) <;> try (exfalso; omega)) | (with_reducible refine wcond_split (fun _ => ?_) (fun _ => ?_)) | (first | (with_reducible refine draw_we [(false, []), (false, []), (false, []), (false, []), (false, []), (false, []), (false, []), (false, []), (false, []), (true, []), (false, []), (false, []), (false, []), (false, [9]), (false, []), (false, []), (false, []), (false, [])] (by kernel_rfl) (by decide +kernel) ?_) | (with_reducible refine draw_ro (by kernel_rfl) ?_)) | simp +contextual -implicitDefEqProofs (disch := first | exact dsc _ | fail) only [go_sem, ↓reduceIte, Nat.reduceEqDiff, Nat.reduceAdd, Nat.reduceMul, Nat.reduceSub, Nat.reduceLT, Nat.reduceLeDiff, Nat.reduceBEq, reduceCtorEq, BEq.rfl, Int.reduceLT, Int.reduceLE, Int.reduceAdd, Int.reduceToNat, Int.reduceSub, Int.reduceMul, Int.reduceNeg, Int.reduceEq, *] | (with_reducible refine And.intro (by first | omega | assumption | rfl) ?_))
      refine wloopW (α := Nat × Array (List UInt8)) (fun p => ⟨[(0, .own r [] 1 0 d.size cap), (1, .int .i64 a), (2, .int .i64 b), (3, .func 72 [] []), (8, .int .i64 i), (9, .int .i64 p.1)], [(r, .row 28 1 (p.2.toList.map txtA) 0)]⟩)
        (fun p => a ≤ p.1 ∧ p.1 ≤ i ∧ p.2.size = d.size ∧ Go.Sort.insOuter txtLt a b (i + 1) (Go.Sort.insInner txtLt a p.1 p.2) = D) (fun p => p.1) (i, d1) ?_ ?_ ?_
      · exact ⟨by show a ≤ i; omega, Nat.le_refl _, hsz, hdec⟩
      · simp +contextual -implicitDefEqProofs (disch := first | exact dsc _ | fail) only [go_sem, push_cast, ↓reduceIte, Nat.reduceEqDiff, Nat.reduceAdd, Nat.reduceMul, Nat.reduceSub, Nat.reduceLT, Nat.reduceLeDiff, Nat.reduceBEq, reduceCtorEq, BEq.rfl, Int.reduceLT, Int.reduceLE, Int.reduceAdd, Int.reduceToNat, Int.reduceSub, Int.reduceMul, Int.reduceNeg, Int.reduceEq, *]
      · clear hdec hsz
        rintro ⟨j, d2⟩ hC
        replace hC : a ≤ j ∧ j ≤ i ∧ d2.size = d.size ∧ Go.Sort.insOuter txtLt a b (i + 1) (Go.Sort.insInner txtLt a j d2) = D := hC
        obtain ⟨hj1, hj2, hsz, hdec⟩ := hC
        by_cases hja : a < j
        · obtain ⟨k, rfl⟩ : ∃ k, j = k + 1 := ⟨j - 1, by omega⟩
          have e0 : d2.toList[k + 1]? = some d2[k + 1]! := arr_get (by omega)
          have e1 : d2.toList[k]? = some d2[k]! := arr_get (by omega)
          have hja' : (a : Int) < ((k + 1 : Nat) : Int) := by omega
          have hdl : d2.toList.length = d2.size := Array.length_toList
          have hun : Go.Sort.insInner txtLt a (k + 1) d2 = if (decide (k + 1 > a) && txtLt d2[k + 1]! d2[k]!) = true then Go.Sort.insInner txtLt a k (Go.Sort.swp d2 (k + 1) k) else d2 := by rw [Go.Sort.insInner]
          have hde : decide (k + 1 > a) = true := by simp; omega
          rw [hun, hde, Bool.true_and] at hdec
          clear hun hde
          generalize hx : d2[k + 1]! = x at *
          generalize hy : d2[k]! = y at *
          have n1 : ((k + 1 : Nat) : Int).toNat = k + 1 := by omega
          have n2 : (((k + 1 : Nat) : Int) - 1).toNat = k := by omega
          cases hl : txtLt x y with
          | true =>
            rw [hl, if_pos rfl] at hdec
            have hl' : Lib.compareBytes x y < 0 := by simpa [txtLt] using hl
            have hset : ((List.map txtA d2.toList).set (k + 1) (.list (bys y)))[k]? = some (.list (bys y)) := by
              rw [List.getElem?_set_ne (by omega), List.getElem?_map, e1]; rfl
            have hk0 : k < d2.size := by omega
            repeat' (first | (with_reducible intro _) | (with_reducible refine wcond_not ?_) | ((with_reducible refine wcond_dec (fun _ => ?_) (fun _ => ?_)) <;> try (exfalso; omega)) | (with_reducible refine wcond_split (fun _ => ?_) (fun _ => ?_)) | (first | (with_reducible refine draw_we [(false, []), (false, []), (false, []), (false, []), (false, []), (false, []), (false, []), (false, []), (false, []), (true, []), (false, []), (false, []), (false, []), (false, [9]), (false, []), (false, []), (false, []), (false, [])] (by kernel_rfl) (by decide +kernel) ?_) | (with_reducible refine draw_ro (by kernel_rfl) ?_)) | simp +contextual -implicitDefEqProofs (disch := first | exact dsc _ | fail) only [go_sem, ↓reduceIte, Nat.reduceEqDiff, Nat.reduceAdd, Nat.reduceMul, Nat.reduceSub, Nat.reduceLT, Nat.reduceLeDiff, Nat.reduceBEq, reduceCtorEq, BEq.rfl, Int.reduceLT, Int.reduceLE, Int.reduceAdd, Int.reduceToNat, Int.reduceSub, Int.reduceMul, Int.reduceNeg, Int.reduceEq, *, n1, n2, hset] | (with_reducible refine And.intro (by first | omega | assumption | rfl) ?_))
            all_goals
              refine round_intro (k, Go.Sort.swp d2 (k + 1) k) ⟨by show a ≤ k; omega, by show k ≤ i; omega, by show (Go.Sort.swp d2 (k + 1) k).size = _; rw [swp_size]; exact hsz, hdec⟩ (by show k < k + 1; omega) ?_
              simp +contextual -implicitDefEqProofs (disch := first | exact dsc _ | fail) only [go_sem, push_cast, ↓reduceIte, Nat.reduceEqDiff, Nat.reduceAdd, Nat.reduceMul, Nat.reduceSub, Nat.reduceLT, Nat.reduceLeDiff, Nat.reduceBEq, reduceCtorEq, BEq.rfl, Int.reduceLT, Int.reduceLE, Int.reduceAdd, Int.reduceToNat, Int.reduceSub, Int.reduceMul, Int.reduceNeg, Int.reduceEq, *]
              rw [swp_row hx hy]
              all_goals first | exact ⟨by omega, rfl⟩ | rfl
          | false =>
            rw [hl, if_neg (by decide)] at hdec
            have hl' : ¬ Lib.compareBytes x y < 0 := by simpa [txtLt] using hl
            repeat' (first | (with_reducible intro _) | (with_reducible refine wcond_not ?_) | ((with_reducible refine wcond_dec (fun _ => ?_) (fun _ => ?_)) <;> try (exfalso; omega)) | (with_reducible refine wcond_split (fun _ => ?_) (fun _ => ?_)) | (first | (with_reducible refine draw_we [(false, []), (false, []), (false, []), (false, []), (false, []), (false, []), (false, []), (false, []), (false, []), (true, []), (false, []), (false, []), (false, []), (false, [9]), (false, []), (false, []), (false, []), (false, [])] (by kernel_rfl) (by decide +kernel) ?_) | (with_reducible refine draw_ro (by kernel_rfl) ?_)) | simp +contextual -implicitDefEqProofs (disch := first | exact dsc _ | fail) only [go_sem, ↓reduceIte, Nat.reduceEqDiff, Nat.reduceAdd, Nat.reduceMul, Nat.reduceSub, Nat.reduceLT, Nat.reduceLeDiff, Nat.reduceBEq, reduceCtorEq, BEq.rfl, Int.reduceLT, Int.reduceLE, Int.reduceAdd, Int.reduceToNat, Int.reduceSub, Int.reduceMul, Int.reduceNeg, Int.reduceEq, *, n1, n2] | (with_reducible refine And.intro (by first | omega | assumption | rfl) ?_))
            all_goals
              refine round_intro (i + 1, d2) ⟨by show a + 1 ≤ i + 1; omega, hsz, hdec⟩ (by show b - (i + 1) < b - i; omega) ?_
              simp +contextual -implicitDefEqProofs (disch := first | exact dsc _ | fail) only [go_sem, push_cast, ↓reduceIte, Nat.reduceEqDiff, Nat.reduceAdd, Nat.reduceMul, Nat.reduceSub, Nat.reduceLT, Nat.reduceLeDiff, Nat.reduceBEq, reduceCtorEq, BEq.rfl, Int.reduceLT, Int.reduceLE, Int.reduceAdd, Int.reduceToNat, Int.reduceSub, Int.reduceMul, Int.reduceNeg, Int.reduceEq, *]
              try omega
        · have hja' : ¬ (a : Int) < (j : Int) := by omega
          have hun : Go.Sort.insInner txtLt a j d2 = d2 := by
            cases j with
            | zero => rw [Go.Sort.insInner]
            | succ k => rw [Go.Sort.insInner, show decide (k + 1 > a) = false from by simp; omega]; rfl
          rw [hun] at hdec
          clear hun
          repeat' (first | (with_reducible intro _) | (with_reducible refine wcond_not ?_) | ((with_reducible refine wcond_dec (fun _ => ?_) (fun _ => ?_)) <;> try (exfalso; omega)) | (with_reducible refine wcond_split (fun _ => ?_) (fun _ => ?_)) | (first | (with_reducible refine draw_we [(false, []), (false, []), (false, []), (false, []), (false, []), (false, []), (false, []), (false, []), (false, []), (true, []), (false, []), (false, []), (false, []), (false, [9]), (false, []), (false, []), (false, []), (false, [])] (by kernel_rfl) (by decide +kernel) ?_) | (with_reducible refine draw_ro (by kernel_rfl) ?_)) | simp +contextual -implicitDefEqProofs (disch := first | exact dsc _ | fail) only [go_sem, ↓reduceIte, Nat.reduceEqDiff, Nat.reduceAdd, Nat.reduceMul, Nat.reduceSub, Nat.reduceLT, Nat.reduceLeDiff, Nat.reduceBEq, reduceCtorEq, BEq.rfl, Int.reduceLT, Int.reduceLE, Int.reduceAdd, Int.reduceToNat, Int.reduceSub, Int.reduceMul, Int.reduceNeg, Int.reduceEq, *] | (with_reducible refine And.intro (by first | omega | assumption | rfl) ?_))
          all_goals
            refine round_intro (i + 1, d2) ⟨by show a + 1 ≤ i + 1; omega, hsz, hdec⟩ (by show b - (i + 1) < b - i; omega) ?_
            simp +contextual -implicitDefEqProofs (disch := first | exact dsc _ | fail) only [go_sem, push_cast, ↓reduceIte, Nat.reduceEqDiff, Nat.reduceAdd, Nat.reduceMul, Nat.reduceSub, Nat.reduceLT, Nat.reduceLeDiff, Nat.reduceBEq, reduceCtorEq, BEq.rfl, Int.reduceLT, Int.reduceLE, Int.reduceAdd, Int.reduceToNat, Int.reduceSub, Int.reduceMul, Int.reduceNeg, Int.reduceEq, *]
            try omega
    · have hlt' : ¬ (i : Int) < (b : Int) := by omega
      rw [Go.Sort.insOuter, if_neg hlt] at hdec
      subst hdec
      repeat' (first | (with_reducible intro _) | (with_reducible refine wcond_not ?_) | ((with_reducible refine wcond_dec (fun _ => ?_) (fun _ => ?_)) <;> try (exfalso; omega)) | (with_reducible refine wcond_split (fun _ => ?_) (fun _ => ?_)) | (first | (with_reducible refine draw_we [(false, []), (false, []), (false, []), (false, []), (false, []), (false, []), (false, []), (false, []), (false, []), (true, []), (false, []), (false, []), (false, []), (false, [9]), (false, []), (false, []), (false, []), (false, [])] (by kernel_rfl) (by decide +kernel) ?_) | (with_reducible refine draw_ro (by kernel_rfl) ?_)) | simp +contextual -implicitDefEqProofs (disch := first | exact dsc _ | fail) only [go_sem, ↓reduceIte, Nat.reduceEqDiff, Nat.reduceAdd, Nat.reduceMul, Nat.reduceSub, Nat.reduceLT, Nat.reduceLeDiff, Nat.reduceBEq, reduceCtorEq, BEq.rfl, Int.reduceLT, Int.reduceLE, Int.reduceAdd, Int.reduceToNat, Int.reduceSub, Int.reduceMul, Int.reduceNeg, Int.reduceEq, *] | (with_reducible refine And.intro (by first | omega | assumption | rfl) ?_))
      all_goals ((first | refine Fin_v1 (by rfl) ?_ | refine Fin_vn (by intro h; cases h) ?_ | refine Fin_f1 (by rfl) ?_ | refine Fin_fn (by intro h; cases h) (fun _ => rfl) ?_ | refine Fin_u1 (by rfl) ?_ | refine Fin_un (by intro h; cases h) ?_); try simp +contextual -implicitDefEqProofs (disch := first | exact dsc _ | fail) only [go_sem, push_cast, ↓reduceIte, Nat.reduceEqDiff, Nat.reduceAdd, Nat.reduceMul, Nat.reduceSub, Nat.reduceLT, Nat.reduceLeDiff, Nat.reduceBEq, reduceCtorEq, BEq.rfl, Int.reduceLT, Int.reduceLE, Int.reduceAdd, Int.reduceToNat, Int.reduceSub, Int.reduceMul, Int.reduceNeg, Int.reduceEq, *])
attribute [go_sem] List.size_toArray List.toList_toArray
def rowM (s : AV) (k : Id → List (List UInt8) → Nat → RM CallSpec) : RM CallSpec := match s with
  | .own r p sz off len cap => (match p with | [] => @getI _ r ⟨fun e => (match e with | some (.row _ _ xs _) => (txtsM (.list xs)).bind fun l => k r l cap | _ => .fail)⟩ | _ => .fail)
  | _ => .fail
attribute [go_sem] rowM
def srt (l : List (List UInt8)) (a b : Nat) : List (List UInt8) := (Go.Sort.insertionSort txtLt l.toArray a b).toList
theorem insInner_size {a : Nat} : ∀ {j : Nat} {d : Array (List UInt8)}, (Go.Sort.insInner txtLt a j d).size = d.size
  | 0, d => by rw [Go.Sort.insInner]
  | j + 1, d => by
    rw [Go.Sort.insInner]
    split
    · rw [insInner_size, swp_size]
    · rfl
theorem insOuter_size {a b : Nat} : ∀ (n : Nat) {i : Nat} {d : Array (List UInt8)}, b - i ≤ n → (Go.Sort.insOuter txtLt a b i d).size = d.size
  | 0, i, d, h => by
    rw [Go.Sort.insOuter, if_neg (by omega)]
  | n + 1, i, d, h => by
    rw [Go.Sort.insOuter]
    split
    · rw [insOuter_size n (by omega), insInner_size]
    · rfl
theorem srt_len {l : List (List UInt8)} {a b : Nat} : (srt l a b).length = l.length := by
  unfold srt Go.Sort.insertionSort
  rw [Array.length_toList, insOuter_size b (by omega)]; simp
def sp_slices_insertionSortCmpFunc_B (args : List AV) : RM CallSpec := match args with
  | [s, .int .i64 a, .int .i64 b, f] => rowM s fun r l cap => mkS [.own r [] 1 0 l.length cap, .int .i64 (a.toNat : Int), .int .i64 (b.toNat : Int), f] [(r, .row 28 1 (l.map txtA) 0)] (.upd (.tup []) [(r, .row 28 1 ((srt l a.toNat b.toNat).map txtA) 0)]) false
  | _ => .fail
attribute [go_sem] sp_slices_insertionSortCmpFunc_B
theorem t_slices_insertionSortCmpFunc_B {r : Id} {cap a b : Nat} {l : List (List UInt8)} (ha : a ≤ 1000000000) (hab : b ≤ l.length) (hs : l.length ≤ 1000000000) : FnG Tryz.prog 113 [.own r [] 1 0 l.length cap, .int .i64 (a : Int), .int .i64 (b : Int), .func 72 [] []] [(r, .row 28 1 (l.map txtA) 0)] (.upd (.tup []) [(r, .row 28 1 ((srt l a b).map txtA) 0)]) = True := by
  have := insSortB_ok (r := r) (cap := cap) (a := a) (b := b) (d := l.toArray) ha (by simpa using hab) (by simpa using hs)
  simp only [List.size_toArray, List.toList_toArray] at this
  exact eq_true this
attribute [go_sem ↓] t_slices_insertionSortCmpFunc_B
def sp_slices_pdqsortCmpFunc_B (args : List AV) : RM CallSpec := match args with
  | [s, .int .i64 a, .int .i64 b, lim, f] => rowM s fun r l cap => mkS [.own r [] 1 0 l.length cap, .int .i64 0, .int .i64 (l.length : Int), lim, f] [(r, .row 28 1 (l.map txtA) 0)] (.upd (.tup []) [(r, .row 28 1 ((srt l 0 l.length).map txtA) 0)]) false
  | _ => .fail
attribute [go_sem] sp_slices_pdqsortCmpFunc_B
theorem t_slices_pdqsortCmpFunc_B_s {r : Id} {cap : Nat} {l : List (List UInt8)} {lim : Int} (hs : l.length ≤ 12) (hcap : l.length ≤ cap) : FnG Tryz.prog 100 [.own r [] 1 0 l.length cap, .int .i64 0, .int .i64 (l.length : Int), .int .i64 lim, .func 72 [] []] [(r, .row 28 1 (l.map txtA) 0)] (.upd (.tup []) [(r, .row 28 1 ((srt l 0 l.length).map txtA) 0)]) = True := by
  refine eq_true ?_
  refine FnG_of_W (sp := spL [(113, sp_slices_insertionSortCmpFunc_B), (100, sp_slices_pdqsortCmpFunc_B), (72, sp_bytes_Compare)]) (tb := tbOf Tryz.prog) (tbOf_ok _) (by kernel_rfl) Tryz.func100 (c := _) rfl (by kernel_rfl) (by kernel_rfl) (Nat.le_of_ble_eq_true rfl) (rs := []) rfl ?_
  unfold FnW
  repeat' (first | (with_reducible intro _) | (with_reducible refine wcond_not ?_) | ((with_reducible refine wcond_dec (fun _ => ?_) (fun _ => ?_)) <;> try (exfalso; omega)) | (with_reducible refine wcond_split (fun _ => ?_) (fun _ => ?_)) | (with_reducible refine draw_ro (by kernel_rfl) ?_) | simp +contextual -implicitDefEqProofs (disch := first | exact dsc _ | fail) only [go_sem, ↓reduceIte, Nat.reduceEqDiff, Nat.reduceAdd, Nat.reduceMul, Nat.reduceSub, Nat.reduceLT, Nat.reduceLeDiff, Nat.reduceBEq, reduceCtorEq, BEq.rfl, Int.reduceLT, Int.reduceLE, Int.reduceAdd, Int.reduceToNat, Int.reduceSub, Int.reduceMul, Int.reduceNeg, Int.reduceEq, *] | (with_reducible refine And.intro (by first | omega | assumption | rfl) ?_))
  refine wloopW (α := Unit) (fun _ => ⟨[(0, .own r [] 1 0 l.length cap), (1, .int .i64 0), (2, .int .i64 l.length), (3, .int .i64 lim), (4, .func 72 [] []), (10, .bool true), (11, .bool true)], [(r, .row 28 1 (l.map txtA) 0)]⟩) (fun _ => True) (fun _ => 0) () ?_ ?_ ?_
  · trivial
  · simp +contextual -implicitDefEqProofs (disch := first | exact dsc _ | fail) only [go_sem, push_cast, ↓reduceIte, Nat.reduceEqDiff, Nat.reduceAdd, Nat.reduceMul, Nat.reduceSub, Nat.reduceLT, Nat.reduceLeDiff, Nat.reduceBEq, reduceCtorEq, BEq.rfl, Int.reduceLT, Int.reduceLE, Int.reduceAdd, Int.reduceToNat, Int.reduceSub, Int.reduceMul, Int.reduceNeg, Int.reduceEq, *]
  · rintro ⟨⟩ _
    have hle : (l.length : Int) - 0 ≤ 12 := by omega
    have hle' : (l.length : Int) ≤ 12 := by omega
    repeat' (first | (with_reducible intro _) | (with_reducible refine wcond_not ?_) | ((with_reducible refine wcond_dec (fun _ => ?_) (fun _ => ?_)) <;> try (exfalso; omega)) | (with_reducible refine wcond_split (fun _ => ?_) (fun _ => ?_)) | (with_reducible refine draw_ro (by kernel_rfl) ?_) | simp +contextual -implicitDefEqProofs (disch := first | exact dsc _ | fail) only [go_sem, ↓reduceIte, Nat.reduceEqDiff, Nat.reduceAdd, Nat.reduceMul, Nat.reduceSub, Nat.reduceLT, Nat.reduceLeDiff, Nat.reduceBEq, reduceCtorEq, BEq.rfl, Int.reduceLT, Int.reduceLE, Int.reduceAdd, Int.reduceToNat, Int.reduceSub, Int.reduceMul, Int.reduceNeg, Int.reduceEq, *] | (with_reducible refine And.intro (by first | omega | assumption | rfl) ?_))
    all_goals ((first | refine Fin_v1 (by rfl) ?_ | refine Fin_vn (by intro h; cases h) ?_ | refine Fin_f1 (by rfl) ?_ | refine Fin_fn (by intro h; cases h) (fun _ => rfl) ?_ | refine Fin_u1 (by rfl) ?_ | refine Fin_un (by intro h; cases h) ?_); try simp +contextual -implicitDefEqProofs (disch := first | exact dsc _ | fail) only [go_sem, push_cast, ↓reduceIte, Nat.reduceEqDiff, Nat.reduceAdd, Nat.reduceMul, Nat.reduceSub, Nat.reduceLT, Nat.reduceLeDiff, Nat.reduceBEq, reduceCtorEq, BEq.rfl, Int.reduceLT, Int.reduceLE, Int.reduceAdd, Int.reduceToNat, Int.reduceSub, Int.reduceMul, Int.reduceNeg, Int.reduceEq, *])
attribute [go_sem ↓] t_slices_pdqsortCmpFunc_B_s
end Go.Am.Tryz
set_option maxRecDepth 100000
set_option linter.unusedSimpArgs false
set_option linter.unusedVariables false
set_option pp.maxSteps 2000
set_option maxHeartbeats 1000000
namespace Go.Am.Tryz
open Go.Proofs
def lenV (x : Int) : Int := if x ≤ 0 then 0 else if x ≤ 1 then 1 else if x ≤ 3 then 2 else if x ≤ 7 then 3 else 4
theorem bitsLen64_ok {x : Int} (h0 : 0 ≤ x) (h : x ≤ 12) : FnG Tryz.prog 122 [.int .u64 x] [] (.val (.int .i64 (lenV x))) := by
  have hx : x = 0 ∨ x = 1 ∨ x = 2 ∨ x = 3 ∨ x = 4 ∨ x = 5 ∨ x = 6 ∨ x = 7 ∨ x = 8 ∨ x = 9 ∨ x = 10 ∨ x = 11 ∨ x = 12 := by omega
  refine FnG_of_W (sp := spL []) (tb := tbOf Tryz.prog) (tbOf_ok _) (by kernel_rfl) Tryz.func122 (c := _) rfl (by kernel_rfl) (by kernel_rfl) (Nat.le_of_ble_eq_true rfl) (rs := [.tmp 2]) rfl ?_
  unfold FnW
  rcases hx with rfl | rfl | rfl | rfl | rfl | rfl | rfl | rfl | rfl | rfl | rfl | rfl | rfl
  · have hb : (b8 0).toNat = 0 := by rfl
    have he : lenV 0 = 0 := by decide
    rw [he]
    repeat' (first | (with_reducible intro _) | (with_reducible refine wcond_not ?_) | ((with_reducible refine wcond_dec (fun _ => ?_) (fun _ => ?_)) <;> try (exfalso; omega)) | (with_reducible refine wcond_split (fun _ => ?_) (fun _ => ?_)) | (with_reducible refine draw_ro (by kernel_rfl) ?_) | simp +contextual -implicitDefEqProofs (disch := first | exact dsc _ | fail) only [go_sem, ↓reduceIte, Nat.reduceEqDiff, Nat.reduceAdd, Nat.reduceMul, Nat.reduceSub, Nat.reduceLT, Nat.reduceLeDiff, Nat.reduceBEq, reduceCtorEq, BEq.rfl, Int.reduceLT, Int.reduceLE, Int.reduceAdd, Int.reduceToNat, Int.reduceSub, Int.reduceMul, Int.reduceNeg, Int.reduceEq, *, hb, List.getElem?_cons_succ, List.getElem?_cons_zero] | (with_reducible refine And.intro (by first | omega | assumption | rfl) ?_))
    all_goals ((first | refine Fin_v1 (by rfl) ?_ | refine Fin_vn (by intro h; cases h) ?_ | refine Fin_f1 (by rfl) ?_ | refine Fin_fn (by intro h; cases h) (fun _ => rfl) ?_ | refine Fin_u1 (by rfl) ?_ | refine Fin_un (by intro h; cases h) ?_); try simp +contextual -implicitDefEqProofs (disch := first | exact dsc _ | fail) only [go_sem, push_cast, ↓reduceIte, Nat.reduceEqDiff, Nat.reduceAdd, Nat.reduceMul, Nat.reduceSub, Nat.reduceLT, Nat.reduceLeDiff, Nat.reduceBEq, reduceCtorEq, BEq.rfl, Int.reduceLT, Int.reduceLE, Int.reduceAdd, Int.reduceToNat, Int.reduceSub, Int.reduceMul, Int.reduceNeg, Int.reduceEq, *])
    all_goals decide
  · have hb : (b8 1).toNat = 1 := by rfl
    have he : lenV 1 = 1 := by decide
    rw [he]
    repeat' (first | (with_reducible intro _) | (with_reducible refine wcond_not ?_) | ((with_reducible refine wcond_dec (fun _ => ?_) (fun _ => ?_)) <;> try (exfalso; omega)) | (with_reducible refine wcond_split (fun _ => ?_) (fun _ => ?_)) | (with_reducible refine draw_ro (by kernel_rfl) ?_) | simp +contextual -implicitDefEqProofs (disch := first | exact dsc _ | fail) only [go_sem, ↓reduceIte, Nat.reduceEqDiff, Nat.reduceAdd, Nat.reduceMul, Nat.reduceSub, Nat.reduceLT, Nat.reduceLeDiff, Nat.reduceBEq, reduceCtorEq, BEq.rfl, Int.reduceLT, Int.reduceLE, Int.reduceAdd, Int.reduceToNat, Int.reduceSub, Int.reduceMul, Int.reduceNeg, Int.reduceEq, *, hb, List.getElem?_cons_succ, List.getElem?_cons_zero] | (with_reducible refine And.intro (by first | omega | assumption | rfl) ?_))
    all_goals ((first | refine Fin_v1 (by rfl) ?_ | refine Fin_vn (by intro h; cases h) ?_ | refine Fin_f1 (by rfl) ?_ | refine Fin_fn (by intro h; cases h) (fun _ => rfl) ?_ | refine Fin_u1 (by rfl) ?_ | refine Fin_un (by intro h; cases h) ?_); try simp +contextual -implicitDefEqProofs (disch := first | exact dsc _ | fail) only [go_sem, push_cast, ↓reduceIte, Nat.reduceEqDiff, Nat.reduceAdd, Nat.reduceMul, Nat.reduceSub, Nat.reduceLT, Nat.reduceLeDiff, Nat.reduceBEq, reduceCtorEq, BEq.rfl, Int.reduceLT, Int.reduceLE, Int.reduceAdd, Int.reduceToNat, Int.reduceSub, Int.reduceMul, Int.reduceNeg, Int.reduceEq, *])
    all_goals decide
  · have hb : (b8 2).toNat = 2 := by rfl
    have he : lenV 2 = 2 := by decide
    rw [he]
    repeat' (first | (with_reducible intro _) | (with_reducible refine wcond_not ?_) | ((with_reducible refine wcond_dec (fun _ => ?_) (fun _ => ?_)) <;> try (exfalso; omega)) | (with_reducible refine wcond_split (fun _ => ?_) (fun _ => ?_)) | (with_reducible refine draw_ro (by kernel_rfl) ?_) | simp +contextual -implicitDefEqProofs (disch := first | exact dsc _ | fail) only [go_sem, ↓reduceIte, Nat.reduceEqDiff, Nat.reduceAdd, Nat.reduceMul, Nat.reduceSub, Nat.reduceLT, Nat.reduceLeDiff, Nat.reduceBEq, reduceCtorEq, BEq.rfl, Int.reduceLT, Int.reduceLE, Int.reduceAdd, Int.reduceToNat, Int.reduceSub, Int.reduceMul, Int.reduceNeg, Int.reduceEq, *, hb, List.getElem?_cons_succ, List.getElem?_cons_zero] | (with_reducible refine And.intro (by first | omega | assumption | rfl) ?_))
    all_goals ((first | refine Fin_v1 (by rfl) ?_ | refine Fin_vn (by intro h; cases h) ?_ | refine Fin_f1 (by rfl) ?_ | refine Fin_fn (by intro h; cases h) (fun _ => rfl) ?_ | refine Fin_u1 (by rfl) ?_ | refine Fin_un (by intro h; cases h) ?_); try simp +contextual -implicitDefEqProofs (disch := first | exact dsc _ | fail) only [go_sem, push_cast, ↓reduceIte, Nat.reduceEqDiff, Nat.reduceAdd, Nat.reduceMul, Nat.reduceSub, Nat.reduceLT, Nat.reduceLeDiff, Nat.reduceBEq, reduceCtorEq, BEq.rfl, Int.reduceLT, Int.reduceLE, Int.reduceAdd, Int.reduceToNat, Int.reduceSub, Int.reduceMul, Int.reduceNeg, Int.reduceEq, *])
    all_goals decide
  · have hb : (b8 3).toNat = 3 := by rfl
    have he : lenV 3 = 2 := by decide
    rw [he]
    repeat' (first | (with_reducible intro _) | (with_reducible refine wcond_not ?_) | ((with_reducible refine wcond_dec (fun _ => ?_) (fun _ => ?_)) <;> try (exfalso; omega)) | (with_reducible refine wcond_split (fun _ => ?_) (fun _ => ?_)) | (with_reducible refine draw_ro (by kernel_rfl) ?_) | simp +contextual -implicitDefEqProofs (disch := first | exact dsc _ | fail) only [go_sem, ↓reduceIte, Nat.reduceEqDiff, Nat.reduceAdd, Nat.reduceMul, Nat.reduceSub, Nat.reduceLT, Nat.reduceLeDiff, Nat.reduceBEq, reduceCtorEq, BEq.rfl, Int.reduceLT, Int.reduceLE, Int.reduceAdd, Int.reduceToNat, Int.reduceSub, Int.reduceMul, Int.reduceNeg, Int.reduceEq, *, hb, List.getElem?_cons_succ, List.getElem?_cons_zero] | (with_reducible refine And.intro (by first | omega | assumption | rfl) ?_))
    all_goals ((first | refine Fin_v1 (by rfl) ?_ | refine Fin_vn (by intro h; cases h) ?_ | refine Fin_f1 (by rfl) ?_ | refine Fin_fn (by intro h; cases h) (fun _ => rfl) ?_ | refine Fin_u1 (by rfl) ?_ | refine Fin_un (by intro h; cases h) ?_); try simp +contextual -implicitDefEqProofs (disch := first | exact dsc _ | fail) only [go_sem, push_cast, ↓reduceIte, Nat.reduceEqDiff, Nat.reduceAdd, Nat.reduceMul, Nat.reduceSub, Nat.reduceLT, Nat.reduceLeDiff, Nat.reduceBEq, reduceCtorEq, BEq.rfl, Int.reduceLT, Int.reduceLE, Int.reduceAdd, Int.reduceToNat, Int.reduceSub, Int.reduceMul, Int.reduceNeg, Int.reduceEq, *])
    all_goals decide
  · have hb : (b8 4).toNat = 4 := by rfl
    have he : lenV 4 = 3 := by decide
    rw [he]
    repeat' (first | (with_reducible intro _) | (with_reducible refine wcond_not ?_) | ((with_reducible refine wcond_dec (fun _ => ?_) (fun _ => ?_)) <;> try (exfalso; omega)) | (with_reducible refine wcond_split (fun _ => ?_) (fun _ => ?_)) | (with_reducible refine draw_ro (by kernel_rfl) ?_) | simp +contextual -implicitDefEqProofs (disch := first | exact dsc _ | fail) only [go_sem, ↓reduceIte, Nat.reduceEqDiff, Nat.reduceAdd, Nat.reduceMul, Nat.reduceSub, Nat.reduceLT, Nat.reduceLeDiff, Nat.reduceBEq, reduceCtorEq, BEq.rfl, Int.reduceLT, Int.reduceLE, Int.reduceAdd, Int.reduceToNat, Int.reduceSub, Int.reduceMul, Int.reduceNeg, Int.reduceEq, *, hb, List.getElem?_cons_succ, List.getElem?_cons_zero] | (with_reducible refine And.intro (by first | omega | assumption | rfl) ?_))
    all_goals ((first | refine Fin_v1 (by rfl) ?_ | refine Fin_vn (by intro h; cases h) ?_ | refine Fin_f1 (by rfl) ?_ | refine Fin_fn (by intro h; cases h) (fun _ => rfl) ?_ | refine Fin_u1 (by rfl) ?_ | refine Fin_un (by intro h; cases h) ?_); try simp +contextual -implicitDefEqProofs (disch := first | exact dsc _ | fail) only [go_sem, push_cast, ↓reduceIte, Nat.reduceEqDiff, Nat.reduceAdd, Nat.reduceMul, Nat.reduceSub, Nat.reduceLT, Nat.reduceLeDiff, Nat.reduceBEq, reduceCtorEq, BEq.rfl, Int.reduceLT, Int.reduceLE, Int.reduceAdd, Int.reduceToNat, Int.reduceSub, Int.reduceMul, Int.reduceNeg, Int.reduceEq, *])
    all_goals decide
  · have hb : (b8 5).toNat = 5 := by rfl
    have he : lenV 5 = 3 := by decide
    rw [he]
    repeat' (first | (with_reducible intro _) | (with_reducible refine wcond_not ?_) | ((with_reducible refine wcond_dec (fun _ => ?_) (fun _ => ?_)) <;> try (exfalso; omega)) | (with_reducible refine wcond_split (fun _ => ?_) (fun _ => ?_)) | (with_reducible refine draw_ro (by kernel_rfl) ?_) | simp +contextual -implicitDefEqProofs (disch := first | exact dsc _ | fail) only [go_sem, ↓reduceIte, Nat.reduceEqDiff, Nat.reduceAdd, Nat.reduceMul, Nat.reduceSub, Nat.reduceLT, Nat.reduceLeDiff, Nat.reduceBEq, reduceCtorEq, BEq.rfl, Int.reduceLT, Int.reduceLE, Int.reduceAdd, Int.reduceToNat, Int.reduceSub, Int.reduceMul, Int.reduceNeg, Int.reduceEq, *, hb, List.getElem?_cons_succ, List.getElem?_cons_zero] | (with_reducible refine And.intro (by first | omega | assumption | rfl) ?_))
    all_goals ((first | refine Fin_v1 (by rfl) ?_ | refine Fin_vn (by intro h; cases h) ?_ | refine Fin_f1 (by rfl) ?_ | refine Fin_fn (by intro h; cases h) (fun _ => rfl) ?_ | refine Fin_u1 (by rfl) ?_ | refine Fin_un (by intro h; cases h) ?_); try simp +contextual -implicitDefEqProofs (disch := first | exact dsc _ | fail) only [go_sem, push_cast, ↓reduceIte, Nat.reduceEqDiff, Nat.reduceAdd, Nat.reduceMul, Nat.reduceSub, Nat.reduceLT, Nat.reduceLeDiff, Nat.reduceBEq, reduceCtorEq, BEq.rfl, Int.reduceLT, Int.reduceLE, Int.reduceAdd, Int.reduceToNat, Int.reduceSub, Int.reduceMul, Int.reduceNeg, Int.reduceEq, *])
    all_goals decide
  · have hb : (b8 6).toNat = 6 := by rfl
    have he : lenV 6 = 3 := by decide
    rw [he]
    repeat' (first | (with_reducible intro _) | (with_reducible refine wcond_not ?_) | ((with_reducible refine wcond_dec (fun _ => ?_) (fun _ => ?_)) <;> try (exfalso; omega)) | (with_reducible refine wcond_split (fun _ => ?_) (fun _ => ?_)) | (with_reducible refine draw_ro (by kernel_rfl) ?_) | simp +contextual -implicitDefEqProofs (disch := first | exact dsc _ | fail) only [go_sem, ↓reduceIte, Nat.reduceEqDiff, Nat.reduceAdd, Nat.reduceMul, Nat.reduceSub, Nat.reduceLT, Nat.reduceLeDiff, Nat.reduceBEq, reduceCtorEq, BEq.rfl, Int.reduceLT, Int.reduceLE, Int.reduceAdd, Int.reduceToNat, Int.reduceSub, Int.reduceMul, Int.reduceNeg, Int.reduceEq, *, hb, List.getElem?_cons_succ, List.getElem?_cons_zero] | (with_reducible refine And.intro (by first | omega | assumption | rfl) ?_))
    all_goals ((first | refine Fin_v1 (by rfl) ?_ | refine Fin_vn (by intro h; cases h) ?_ | refine Fin_f1 (by rfl) ?_ | refine Fin_fn (by intro h; cases h) (fun _ => rfl) ?_ | refine Fin_u1 (by rfl) ?_ | refine Fin_un (by intro h; cases h) ?_); try simp +contextual -implicitDefEqProofs (disch := first | exact dsc _ | fail) only [go_sem, push_cast, ↓reduceIte, Nat.reduceEqDiff, Nat.reduceAdd, Nat.reduceMul, Nat.reduceSub, Nat.reduceLT, Nat.reduceLeDiff, Nat.reduceBEq, reduceCtorEq, BEq.rfl, Int.reduceLT, Int.reduceLE, Int.reduceAdd, Int.reduceToNat, Int.reduceSub, Int.reduceMul, Int.reduceNeg, Int.reduceEq, *])
    all_goals decide
  · have hb : (b8 7).toNat = 7 := by rfl
    have he : lenV 7 = 3 := by decide
    rw [he]
    repeat' (first | (with_reducible intro _) | (with_reducible refine wcond_not ?_) | ((with_reducible refine wcond_dec (fun _ => ?_) (fun _ => ?_)) <;> try (exfalso; omega)) | (with_reducible refine wcond_split (fun _ => ?_) (fun _ => ?_)) | (with_reducible refine draw_ro (by kernel_rfl) ?_) | simp +contextual -implicitDefEqProofs (disch := first | exact dsc _ | fail) only [go_sem, ↓reduceIte, Nat.reduceEqDiff, Nat.reduceAdd, Nat.reduceMul, Nat.reduceSub, Nat.reduceLT, Nat.reduceLeDiff, Nat.reduceBEq, reduceCtorEq, BEq.rfl, Int.reduceLT, Int.reduceLE, Int.reduceAdd, Int.reduceToNat, Int.reduceSub, Int.reduceMul, Int.reduceNeg, Int.reduceEq, *, hb, List.getElem?_cons_succ, List.getElem?_cons_zero] | (with_reducible refine And.intro (by first | omega | assumption | rfl) ?_))
    all_goals ((first | refine Fin_v1 (by rfl) ?_ | refine Fin_vn (by intro h; cases h) ?_ | refine Fin_f1 (by rfl) ?_ | refine Fin_fn (by intro h; cases h) (fun _ => rfl) ?_ | refine Fin_u1 (by rfl) ?_ | refine Fin_un (by intro h; cases h) ?_); try simp +contextual -implicitDefEqProofs (disch := first | exact dsc _ | fail) only [go_sem, push_cast, ↓reduceIte, Nat.reduceEqDiff, Nat.reduceAdd, Nat.reduceMul, Nat.reduceSub, Nat.reduceLT, Nat.reduceLeDiff, Nat.reduceBEq, reduceCtorEq, BEq.rfl, Int.reduceLT, Int.reduceLE, Int.reduceAdd, Int.reduceToNat, Int.reduceSub, Int.reduceMul, Int.reduceNeg, Int.reduceEq, *])
    all_goals decide
  · have hb : (b8 8).toNat = 8 := by rfl
    have he : lenV 8 = 4 := by decide
    rw [he]
    repeat' (first | (with_reducible intro _) | (with_reducible refine wcond_not ?_) | ((with_reducible refine wcond_dec (fun _ => ?_) (fun _ => ?_)) <;> try (exfalso; omega)) | (with_reducible refine wcond_split (fun _ => ?_) (fun _ => ?_)) | (with_reducible refine draw_ro (by kernel_rfl) ?_) | simp +contextual -implicitDefEqProofs (disch := first | exact dsc _ | fail) only [go_sem, ↓reduceIte, Nat.reduceEqDiff, Nat.reduceAdd, Nat.reduceMul, Nat.reduceSub, Nat.reduceLT, Nat.reduceLeDiff, Nat.reduceBEq, reduceCtorEq, BEq.rfl, Int.reduceLT, Int.reduceLE, Int.reduceAdd, Int.reduceToNat, Int.reduceSub, Int.reduceMul, Int.reduceNeg, Int.reduceEq, *, hb, List.getElem?_cons_succ, List.getElem?_cons_zero] | (with_reducible refine And.intro (by first | omega | assumption | rfl) ?_))
    all_goals ((first | refine Fin_v1 (by rfl) ?_ | refine Fin_vn (by intro h; cases h) ?_ | refine Fin_f1 (by rfl) ?_ | refine Fin_fn (by intro h; cases h) (fun _ => rfl) ?_ | refine Fin_u1 (by rfl) ?_ | refine Fin_un (by intro h; cases h) ?_); try simp +contextual -implicitDefEqProofs (disch := first | exact dsc _ | fail) only [go_sem, push_cast, ↓reduceIte, Nat.reduceEqDiff, Nat.reduceAdd, Nat.reduceMul, Nat.reduceSub, Nat.reduceLT, Nat.reduceLeDiff, Nat.reduceBEq, reduceCtorEq, BEq.rfl, Int.reduceLT, Int.reduceLE, Int.reduceAdd, Int.reduceToNat, Int.reduceSub, Int.reduceMul, Int.reduceNeg, Int.reduceEq, *])
    all_goals decide
  · have hb : (b8 9).toNat = 9 := by rfl
    have he : lenV 9 = 4 := by decide
    rw [he]
    repeat' (first | (with_reducible intro _) | (with_reducible refine wcond_not ?_) | ((with_reducible refine wcond_dec (fun _ => ?_) (fun _ => ?_)) <;> try (exfalso; omega)) | (with_reducible refine wcond_split (fun _ => ?_) (fun _ => ?_)) | (with_reducible refine draw_ro (by kernel_rfl) ?_) | simp +contextual -implicitDefEqProofs (disch := first | exact dsc _ | fail) only [go_sem, ↓reduceIte, Nat.reduceEqDiff, Nat.reduceAdd, Nat.reduceMul, Nat.reduceSub, Nat.reduceLT, Nat.reduceLeDiff, Nat.reduceBEq, reduceCtorEq, BEq.rfl, Int.reduceLT, Int.reduceLE, Int.reduceAdd, Int.reduceToNat, Int.reduceSub, Int.reduceMul, Int.reduceNeg, Int.reduceEq, *, hb, List.getElem?_cons_succ, List.getElem?_cons_zero] | (with_reducible refine And.intro (by first | omega | assumption | rfl) ?_))
    all_goals ((first | refine Fin_v1 (by rfl) ?_ | refine Fin_vn (by intro h; cases h) ?_ | refine Fin_f1 (by rfl) ?_ | refine Fin_fn (by intro h; cases h) (fun _ => rfl) ?_ | refine Fin_u1 (by rfl) ?_ | refine Fin_un (by intro h; cases h) ?_); try simp +contextual -implicitDefEqProofs (disch := first | exact dsc _ | fail) only [go_sem, push_cast, ↓reduceIte, Nat.reduceEqDiff, Nat.reduceAdd, Nat.reduceMul, Nat.reduceSub, Nat.reduceLT, Nat.reduceLeDiff, Nat.reduceBEq, reduceCtorEq, BEq.rfl, Int.reduceLT, Int.reduceLE, Int.reduceAdd, Int.reduceToNat, Int.reduceSub, Int.reduceMul, Int.reduceNeg, Int.reduceEq, *])
    all_goals decide
  · have hb : (b8 10).toNat = 10 := by rfl
    have he : lenV 10 = 4 := by decide
    rw [he]
    repeat' (first | (with_reducible intro _) | (with_reducible refine wcond_not ?_) | ((with_reducible refine wcond_dec (fun _ => ?_) (fun _ => ?_)) <;> try (exfalso; omega)) | (with_reducible refine wcond_split (fun _ => ?_) (fun _ => ?_)) | (with_reducible refine draw_ro (by kernel_rfl) ?_) | simp +contextual -implicitDefEqProofs (disch := first | exact dsc _ | fail) only [go_sem, ↓reduceIte, Nat.reduceEqDiff, Nat.reduceAdd, Nat.reduceMul, Nat.reduceSub, Nat.reduceLT, Nat.reduceLeDiff, Nat.reduceBEq, reduceCtorEq, BEq.rfl, Int.reduceLT, Int.reduceLE, Int.reduceAdd, Int.reduceToNat, Int.reduceSub, Int.reduceMul, Int.reduceNeg, Int.reduceEq, *, hb, List.getElem?_cons_succ, List.getElem?_cons_zero] | (with_reducible refine And.intro (by first | omega | assumption | rfl) ?_))
    all_goals ((first | refine Fin_v1 (by rfl) ?_ | refine Fin_vn (by intro h; cases h) ?_ | refine Fin_f1 (by rfl) ?_ | refine Fin_fn (by intro h; cases h) (fun _ => rfl) ?_ | refine Fin_u1 (by rfl) ?_ | refine Fin_un (by intro h; cases h) ?_); try simp +contextual -implicitDefEqProofs (disch := first | exact dsc _ | fail) only [go_sem, push_cast, ↓reduceIte, Nat.reduceEqDiff, Nat.reduceAdd, Nat.reduceMul, Nat.reduceSub, Nat.reduceLT, Nat.reduceLeDiff, Nat.reduceBEq, reduceCtorEq, BEq.rfl, Int.reduceLT, Int.reduceLE, Int.reduceAdd, Int.reduceToNat, Int.reduceSub, Int.reduceMul, Int.reduceNeg, Int.reduceEq, *])
    all_goals decide
  · have hb : (b8 11).toNat = 11 := by rfl
    have he : lenV 11 = 4 := by decide
    rw [he]
    repeat' (first | (with_reducible intro _) | (with_reducible refine wcond_not ?_) | ((with_reducible refine wcond_dec (fun _ => ?_) (fun _ => ?_)) <;> try (exfalso; omega)) | (with_reducible refine wcond_split (fun _ => ?_) (fun _ => ?_)) | (with_reducible refine draw_ro (by kernel_rfl) ?_) | simp +contextual -implicitDefEqProofs (disch := first | exact dsc _ | fail) only [go_sem, ↓reduceIte, Nat.reduceEqDiff, Nat.reduceAdd, Nat.reduceMul, Nat.reduceSub, Nat.reduceLT, Nat.reduceLeDiff, Nat.reduceBEq, reduceCtorEq, BEq.rfl, Int.reduceLT, Int.reduceLE, Int.reduceAdd, Int.reduceToNat, Int.reduceSub, Int.reduceMul, Int.reduceNeg, Int.reduceEq, *, hb, List.getElem?_cons_succ, List.getElem?_cons_zero] | (with_reducible refine And.intro (by first | omega | assumption | rfl) ?_))
    all_goals ((first | refine Fin_v1 (by rfl) ?_ | refine Fin_vn (by intro h; cases h) ?_ | refine Fin_f1 (by rfl) ?_ | refine Fin_fn (by intro h; cases h) (fun _ => rfl) ?_ | refine Fin_u1 (by rfl) ?_ | refine Fin_un (by intro h; cases h) ?_); try simp +contextual -implicitDefEqProofs (disch := first | exact dsc _ | fail) only [go_sem, push_cast, ↓reduceIte, Nat.reduceEqDiff, Nat.reduceAdd, Nat.reduceMul, Nat.reduceSub, Nat.reduceLT, Nat.reduceLeDiff, Nat.reduceBEq, reduceCtorEq, BEq.rfl, Int.reduceLT, Int.reduceLE, Int.reduceAdd, Int.reduceToNat, Int.reduceSub, Int.reduceMul, Int.reduceNeg, Int.reduceEq, *])
    all_goals decide
  · have hb : (b8 12).toNat = 12 := by rfl
    have he : lenV 12 = 4 := by decide
    rw [he]
    repeat' (first | (with_reducible intro _) | (with_reducible refine wcond_not ?_) | ((with_reducible refine wcond_dec (fun _ => ?_) (fun _ => ?_)) <;> try (exfalso; omega)) | (with_reducible refine wcond_split (fun _ => ?_) (fun _ => ?_)) | (with_reducible refine draw_ro (by kernel_rfl) ?_) | simp +contextual -implicitDefEqProofs (disch := first | exact dsc _ | fail) only [go_sem, ↓reduceIte, Nat.reduceEqDiff, Nat.reduceAdd, Nat.reduceMul, Nat.reduceSub, Nat.reduceLT, Nat.reduceLeDiff, Nat.reduceBEq, reduceCtorEq, BEq.rfl, Int.reduceLT, Int.reduceLE, Int.reduceAdd, Int.reduceToNat, Int.reduceSub, Int.reduceMul, Int.reduceNeg, Int.reduceEq, *, hb, List.getElem?_cons_succ, List.getElem?_cons_zero] | (with_reducible refine And.intro (by first | omega | assumption | rfl) ?_))
    all_goals ((first | refine Fin_v1 (by rfl) ?_ | refine Fin_vn (by intro h; cases h) ?_ | refine Fin_f1 (by rfl) ?_ | refine Fin_fn (by intro h; cases h) (fun _ => rfl) ?_ | refine Fin_u1 (by rfl) ?_ | refine Fin_un (by intro h; cases h) ?_); try simp +contextual -implicitDefEqProofs (disch := first | exact dsc _ | fail) only [go_sem, push_cast, ↓reduceIte, Nat.reduceEqDiff, Nat.reduceAdd, Nat.reduceMul, Nat.reduceSub, Nat.reduceLT, Nat.reduceLeDiff, Nat.reduceBEq, reduceCtorEq, BEq.rfl, Int.reduceLT, Int.reduceLE, Int.reduceAdd, Int.reduceToNat, Int.reduceSub, Int.reduceMul, Int.reduceNeg, Int.reduceEq, *])
    all_goals decide
def sp_math_bits_Len64 (args : List AV) : RM CallSpec := match args with
  | [.int .u64 x] => pureS [.int .u64 x] (.int .i64 (lenV x))
  | _ => .fail
attribute [go_sem] sp_math_bits_Len64
theorem t_math_bits_Len64 {x : Int} (h0 : 0 ≤ x) (h : x ≤ 12) : FnG Tryz.prog 122 [.int .u64 x] [] (.val (.int .i64 (lenV x))) = True := eq_true (bitsLen64_ok h0 h)
attribute [go_sem ↓] t_math_bits_Len64
def sp_math_bits_Len (args : List AV) : RM CallSpec := match args with
  | [.int .u64 x] => pureS [.int .u64 x] (.int .i64 (lenV x))
  | _ => .fail
attribute [go_sem] sp_math_bits_Len
theorem t_math_bits_Len {x : Int} (h0 : 0 ≤ x) (h : x ≤ 12) : FnG Tryz.prog 101 [.int .u64 x] [] (.val (.int .i64 (lenV x))) = True := by
  refine eq_true ?_
  refine FnG_of_W (sp := spL [(122, sp_math_bits_Len64)]) (tb := tbOf Tryz.prog) (tbOf_ok _) (by kernel_rfl) Tryz.func101 (c := _) rfl (by kernel_rfl) (by kernel_rfl) (Nat.le_of_ble_eq_true rfl) (rs := [.tmp 2]) rfl ?_
  unfold FnW
  repeat' (first | (with_reducible intro _) | (with_reducible refine wcond_not ?_) | ((with_reducible refine wcond_dec (fun _ => ?_) (fun _ => ?_)) <;> try (exfalso; omega)) | (with_reducible refine wcond_split (fun _ => ?_) (fun _ => ?_)) | (with_reducible refine draw_ro (by kernel_rfl) ?_) | simp +contextual -implicitDefEqProofs (disch := first | exact dsc _ | fail) only [go_sem, ↓reduceIte, Nat.reduceEqDiff, Nat.reduceAdd, Nat.reduceMul, Nat.reduceSub, Nat.reduceLT, Nat.reduceLeDiff, Nat.reduceBEq, reduceCtorEq, BEq.rfl, Int.reduceLT, Int.reduceLE, Int.reduceAdd, Int.reduceToNat, Int.reduceSub, Int.reduceMul, Int.reduceNeg, Int.reduceEq, *] | (with_reducible refine And.intro (by first | omega | assumption | rfl) ?_))
  all_goals ((first | refine Fin_v1 (by rfl) ?_ | refine Fin_vn (by intro h; cases h) ?_ | refine Fin_f1 (by rfl) ?_ | refine Fin_fn (by intro h; cases h) (fun _ => rfl) ?_ | refine Fin_u1 (by rfl) ?_ | refine Fin_un (by intro h; cases h) ?_); try simp +contextual -implicitDefEqProofs (disch := first | exact dsc _ | fail) only [go_sem, push_cast, ↓reduceIte, Nat.reduceEqDiff, Nat.reduceAdd, Nat.reduceMul, Nat.reduceSub, Nat.reduceLT, Nat.reduceLeDiff, Nat.reduceBEq, reduceCtorEq, BEq.rfl, Int.reduceLT, Int.reduceLE, Int.reduceAdd, Int.reduceToNat, Int.reduceSub, Int.reduceMul, Int.reduceNeg, Int.reduceEq, *])
attribute [go_sem ↓] t_math_bits_Len
def sp_slices_SortFunc_B (args : List AV) : RM CallSpec := match args with
  | [s, f] => rowM s fun r l cap => mkS [.own r [] 1 0 l.length cap, f] [(r, .row 28 1 (l.map txtA) 0)] (.upd (.tup []) [(r, .row 28 1 ((srt l 0 l.length).map txtA) 0)]) false
  | _ => .fail
attribute [go_sem] sp_slices_SortFunc_B
theorem t_slices_SortFunc_B_s {r : Id} {cap : Nat} {l : List (List UInt8)} (hs : l.length ≤ 12) (hcap : l.length ≤ cap) : FnG Tryz.prog 71 [.own r [] 1 0 l.length cap, .func 72 [] []] [(r, .row 28 1 (l.map txtA) 0)] (.upd (.tup []) [(r, .row 28 1 ((srt l 0 l.length).map txtA) 0)]) = True := by
  refine eq_true ?_
  refine FnG_of_W (sp := spL [(101, sp_math_bits_Len), (100, sp_slices_pdqsortCmpFunc_B), (72, sp_bytes_Compare)]) (tb := tbOf Tryz.prog) (tbOf_ok _) (by kernel_rfl) Tryz.func71 (c := _) rfl (by kernel_rfl) (by kernel_rfl) (Nat.le_of_ble_eq_true rfl) (rs := []) rfl ?_
  unfold FnW
  repeat' (first | (with_reducible intro _) | (with_reducible refine wcond_not ?_) | ((with_reducible refine wcond_dec (fun _ => ?_) (fun _ => ?_)) <;> try (exfalso; omega)) | (with_reducible refine wcond_split (fun _ => ?_) (fun _ => ?_)) | (with_reducible refine draw_ro (by kernel_rfl) ?_) | simp +contextual -implicitDefEqProofs (disch := first | exact dsc _ | fail) only [go_sem, ↓reduceIte, Nat.reduceEqDiff, Nat.reduceAdd, Nat.reduceMul, Nat.reduceSub, Nat.reduceLT, Nat.reduceLeDiff, Nat.reduceBEq, reduceCtorEq, BEq.rfl, Int.reduceLT, Int.reduceLE, Int.reduceAdd, Int.reduceToNat, Int.reduceSub, Int.reduceMul, Int.reduceNeg, Int.reduceEq, *] | (with_reducible refine And.intro (by first | omega | assumption | rfl) ?_))
  all_goals ((first | refine Fin_v1 (by rfl) ?_ | refine Fin_vn (by intro h; cases h) ?_ | refine Fin_f1 (by rfl) ?_ | refine Fin_fn (by intro h; cases h) (fun _ => rfl) ?_ | refine Fin_u1 (by rfl) ?_ | refine Fin_un (by intro h; cases h) ?_); try simp +contextual -implicitDefEqProofs (disch := first | exact dsc _ | fail) only [go_sem, push_cast, ↓reduceIte, Nat.reduceEqDiff, Nat.reduceAdd, Nat.reduceMul, Nat.reduceSub, Nat.reduceLT, Nat.reduceLeDiff, Nat.reduceBEq, reduceCtorEq, BEq.rfl, Int.reduceLT, Int.reduceLE, Int.reduceAdd, Int.reduceToNat, Int.reduceSub, Int.reduceMul, Int.reduceNeg, Int.reduceEq, *])
attribute [go_sem ↓] t_slices_SortFunc_B_s
end Go.Am.Tryz
