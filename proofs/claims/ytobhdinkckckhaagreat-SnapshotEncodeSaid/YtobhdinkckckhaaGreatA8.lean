/- A part of the proof of the laws of layer 32: abstract values and contracts of functions; no statement of its own. -/
import Derived.Test.YtobhdinkckckhaaGreatA7
set_option linter.unusedSimpArgs false
set_option linter.unusedVariables false
set_option maxRecDepth 100000
set_option linter.unusedSimpArgs false
set_option linter.unusedVariables false
set_option pp.maxSteps 2000
set_option maxHeartbeats 4000000
namespace Go.Am
theorem Fin_g1 {tb : Nat → Option TyA} {Hin : Heap} {st : St} {rs : List ResultVar} {f : Id → Id → AV × Heap} (r r' : Id) (hl : rs.length = 1) (h : (resA tb st.T rs).run st.H fun vs => (passAll vs [(f r r').1]).run st.H fun fz => idsOk Hin (fz ++ st.H) [none, none] [] [r, r'] ∧ entsOk (fz ++ st.H) [] ((f r r').2 ++ Hin)) : @FinI tb rs Hin (.fresh2 f) ⟨st⟩ :=
  Fin_intro [r, r'] (by rw [hl]; rfl) h
theorem nc_nilm2 : ncells AV.nilm = 1 := by simp [ncells]
attribute [go_sem] nc_nilm2 nc_map
end Go.Am
namespace Go.Am.Tryz
open Go.Proofs
abbrev filesA := List (List UInt8 × Id)
def mapA (M : filesA) : List (AV × AV) := M.map fun p => (.str p.1, .ptr p.2 [])
def diskA (rm : Id) (off armed : Bool) (left : Int) : AV := .agg [.map rm, .bool off, .bool armed, .int .i64 left]
attribute [go_sem] diskA
def newOut : Out := .fresh2 fun rd rm => (.ptr rd [], [(rd, .box (diskA rm false false 0)), (rm, .map 9 81 [])])
def sp_disk_New (args : List AV) : RM CallSpec := match args with
  | [] => mkS [] [] newOut false
  | _ => .fail
attribute [go_sem] sp_disk_New
theorem t_disk_New : FnG Tryz.prog 14 [] [] newOut = True := by
  refine eq_true ?_
  refine FnG_of_W (sp := spL []) (tb := tbOf Tryz.prog) (tbOf_ok _) (by kernel_rfl) Tryz.func14 (c := _) rfl (by kernel_rfl) (by kernel_rfl) (Nat.le_of_ble_eq_true rfl) (rs := [.tmp 0]) rfl ?_
  unfold FnW
  repeat' (first | (with_reducible intro _) | (with_reducible refine wcond_not ?_) | ((with_reducible refine wcond_dec (fun _ => ?_) (fun _ => ?_)) <;> try (exfalso; omega)) | (with_reducible refine wcond_split (fun _ => ?_) (fun _ => ?_)) | (with_reducible refine draw_ro (by kernel_rfl) ?_) | simp +contextual -implicitDefEqProofs (disch := first | exact dsc _ | fail) only [go_sem, ↓reduceIte, Nat.reduceEqDiff, Nat.reduceAdd, Nat.reduceMul, Nat.reduceSub, Nat.reduceLT, Nat.reduceLeDiff, Nat.reduceBEq, reduceCtorEq, BEq.rfl, Int.reduceLT, Int.reduceLE, Int.reduceAdd, Int.reduceToNat, Int.reduceSub, Int.reduceMul, Int.reduceNeg, Int.reduceEq, *] | (with_reducible refine And.intro (by first | omega | assumption | rfl) ?_))
  rename_i r0 r1 h01
  refine Fin_g1 r1 r0 (by rfl) ?_
  simp +contextual -implicitDefEqProofs (disch := first | exact dsc _ | fail) only [go_sem, push_cast, ↓reduceIte, Nat.reduceEqDiff, Nat.reduceAdd, Nat.reduceMul, Nat.reduceSub, Nat.reduceLT, Nat.reduceLeDiff, Nat.reduceBEq, reduceCtorEq, BEq.rfl, Int.reduceLT, Int.reduceLE, Int.reduceAdd, Int.reduceToNat, Int.reduceSub, Int.reduceMul, Int.reduceNeg, Int.reduceEq, *, newOut, idsOk]
attribute [go_sem ↓] t_disk_New
def look (M : filesA) (n : List UInt8) : Option Id := match M with
  | [] => none
  | (k, r) :: M => if n = k then some r else look M n
def fp (o : Option Id) : AV := match o with | some r => .ptr r [] | none => .nilp
theorem lkK_mapA {n : List UInt8} : ∀ {M : filesA}, lkK .str (.str n) (mapA M) = .ret ((look M n).map fun r => .ptr r [])
  | [] => rfl
  | (k, r) :: M => by
    show lkK .str (.str n) ((.str k, .ptr r []) :: mapA M) = _
    unfold lkK look
    rw [eqT_str]
    by_cases h : n = k
    · simp [h]
    · simp [h, lkK_mapA]
attribute [go_sem] lkK_mapA
def diskH (rd rm : Id) (M : filesA) (off armed : Bool) (left : Int) : Heap := [(rd, .box (diskA rm off armed left)), (rm, .map 9 81 (mapA M))]
def mapD : List (AV × AV) → Option filesA
  | [] => some []
  | (.str k, .ptr r []) :: l => (match mapD l with | some M => some ((k, r) :: M) | none => none)
  | _ => none
theorem mapD_mapA : ∀ {M : filesA}, mapD (mapA M) = some M
  | [] => rfl
  | (k, r) :: M => by
    show mapD ((.str k, .ptr r []) :: mapA M) = _
    simp [mapD, mapD_mapA]
theorem mapD_nil : mapD [] = some [] := rfl
theorem mapD_cons {k r l} : mapD ((.str k, .ptr r []) :: l) = (match mapD l with | some M => some ((k, r) :: M) | none => none) := rfl
theorem mapA_nil : mapA [] = [] := rfl
theorem mapA_cons {k r l} : mapA ((k, r) :: l) = (.str k, .ptr r []) :: mapA l := rfl
def put (M : filesA) (n : List UInt8) (f : Id) : filesA := match M with
  | [] => [(n, f)]
  | (k, r) :: M => if n = k then (k, f) :: M else (k, r) :: put M n f
def del (M : filesA) (n : List UInt8) : filesA := match M with
  | [] => []
  | (k, r) :: M => if n = k then M else (k, r) :: del M n
theorem updK_mapA {n : List UInt8} {f : Id} : ∀ {M : filesA}, updK .str (.str n) (.ptr f []) (mapA M) = .ret (mapA (put M n f))
  | [] => rfl
  | (k, r) :: M => by
    show updK .str (.str n) (.ptr f []) ((.str k, .ptr r []) :: mapA M) = _
    unfold updK put
    rw [eqT_str]
    by_cases h : n = k
    · simp [h, mapA]
    · simp only [h, decide_false, Bool.false_eq_true, if_false, updK_mapA]; rfl
theorem delK_mapA {n : List UInt8} : ∀ {M : filesA}, delK .str (.str n) (mapA M) = .ret (mapA (del M n))
  | [] => rfl
  | (k, r) :: M => by
    show delK .str (.str n) ((.str k, .ptr r []) :: mapA M) = _
    unfold delK del
    rw [eqT_str]
    by_cases h : n = k
    · simp [h, mapA]
    · simp only [h, decide_false, Bool.false_eq_true, if_false, delK_mapA]; rfl
attribute [go_sem] mapD_nil mapD_cons mapD_mapA mapA_nil mapA_cons updK_mapA delK_mapA diskH
def diskM (x : AV) (k : Id → Id → filesA → Bool → Bool → Int → RM CallSpec) : RM CallSpec := match x with
  | .ptr r p => (match p with | [] => @getI _ r ⟨fun e => (match e with | some (.box v) => (match v with | .agg [m, .bool off, .bool armed, .int .i64 left] => (match m with | .map rm => @getI _ rm ⟨fun e' => (match e' with | some (.map _ _ l) => (match mapD l with | some M => k r rm M off armed left | none => .fail) | _ => .fail)⟩ | _ => .fail) | _ => .fail) | _ => .fail)⟩ | _ => .fail)
  | _ => .fail
attribute [go_sem] diskM
def sp_disk_Disk_open (args : List AV) : RM CallSpec := match args with
  | [d, .str n] => diskM d fun rd rm M off armed left => if off = false then mkS [.ptr rd [], .str n] (diskH rd rm M false armed left) (.val (.tup [fp (look M n), .int .i64 0])) false else .fail
  | _ => .fail
attribute [go_sem] sp_disk_Disk_open
theorem t_disk_Disk_open {rd rm : Id} {M : filesA} {n : List UInt8} {armed : Bool} {left : Int} (hne : ¬ rd = rm ∧ ¬ rm = rd) (hn : ¬ n = []) : FnG Tryz.prog 47 [.ptr rd [], .str n] (diskH rd rm M false armed left) (.val (.tup [fp (look M n), .int .i64 0])) = True := by
  refine eq_true ?_
  refine FnG_of_W (sp := spL []) (tb := tbOf Tryz.prog) (tbOf_ok _) (by kernel_rfl) Tryz.func47 (c := _) rfl (by kernel_rfl) (by kernel_rfl) (Nat.le_of_ble_eq_true rfl) (rs := [.tmp 4, .tmp 5]) rfl ?_
  unfold FnW
  unfold diskH
  cases hl : look M n <;> simp only [fp]
  all_goals repeat' (first | (with_reducible intro _) | (with_reducible refine wcond_not ?_) | ((with_reducible refine wcond_dec (fun _ => ?_) (fun _ => ?_)) <;> try (exfalso; omega)) | (with_reducible refine wcond_split (fun _ => ?_) (fun _ => ?_)) | (with_reducible refine draw_ro (by kernel_rfl) ?_) | simp +contextual -implicitDefEqProofs (disch := first | exact dsc _ | fail) only [go_sem, ↓reduceIte, Nat.reduceEqDiff, Nat.reduceAdd, Nat.reduceMul, Nat.reduceSub, Nat.reduceLT, Nat.reduceLeDiff, Nat.reduceBEq, reduceCtorEq, BEq.rfl, Int.reduceLT, Int.reduceLE, Int.reduceAdd, Int.reduceToNat, Int.reduceSub, Int.reduceMul, Int.reduceNeg, Int.reduceEq, *] | (with_reducible refine And.intro (by first | omega | assumption | rfl) ?_))
  all_goals ((first | refine Fin_v1 (by rfl) ?_ | refine Fin_vn (by intro h; cases h) ?_ | refine Fin_f1 (by rfl) ?_ | refine Fin_fn (by intro h; cases h) (fun _ => rfl) ?_ | refine Fin_u1 (by rfl) ?_ | refine Fin_un (by intro h; cases h) ?_); try simp +contextual -implicitDefEqProofs (disch := first | exact dsc _ | fail) only [go_sem, push_cast, ↓reduceIte, Nat.reduceEqDiff, Nat.reduceAdd, Nat.reduceMul, Nat.reduceSub, Nat.reduceLT, Nat.reduceLeDiff, Nat.reduceBEq, reduceCtorEq, BEq.rfl, Int.reduceLT, Int.reduceLE, Int.reduceAdd, Int.reduceToNat, Int.reduceSub, Int.reduceMul, Int.reduceNeg, Int.reduceEq, *])
attribute [go_sem ↓] t_disk_Disk_open
def existV (M : filesA) (n : List UInt8) : AV := match look M n with | some r => .tup [.ptr r [], .int .i64 0] | none => .tup [.nilp, .int .i64 6]
def sp_disk_Disk_existing (args : List AV) : RM CallSpec := match args with
  | [d, .str n] => diskM d fun rd rm M off armed left => if off = false then mkS [.ptr rd [], .str n] (diskH rd rm M false armed left) (.val (existV M n)) false else .fail
  | _ => .fail
attribute [go_sem] sp_disk_Disk_existing
theorem t_disk_Disk_existing {rd rm : Id} {M : filesA} {n : List UInt8} {armed : Bool} {left : Int} (hne : ¬ rd = rm ∧ ¬ rm = rd) (hn : ¬ n = []) : FnG Tryz.prog 85 [.ptr rd [], .str n] (diskH rd rm M false armed left) (.val (existV M n)) = True := by
  refine eq_true ?_
  refine FnG_of_W (sp := spL [(47, sp_disk_Disk_open)]) (tb := tbOf Tryz.prog) (tbOf_ok _) (by kernel_rfl) Tryz.func85 (c := _) rfl (by kernel_rfl) (by kernel_rfl) (Nat.le_of_ble_eq_true rfl) (rs := [.tmp 4, .tmp 5]) rfl ?_
  unfold FnW
  unfold diskH existV
  cases hl : look M n
  all_goals repeat' (first | (with_reducible intro _) | (with_reducible refine wcond_not ?_) | ((with_reducible refine wcond_dec (fun _ => ?_) (fun _ => ?_)) <;> try (exfalso; omega)) | (with_reducible refine wcond_split (fun _ => ?_) (fun _ => ?_)) | (with_reducible refine draw_ro (by kernel_rfl) ?_) | simp +contextual -implicitDefEqProofs (disch := first | exact dsc _ | fail) only [go_sem, ↓reduceIte, Nat.reduceEqDiff, Nat.reduceAdd, Nat.reduceMul, Nat.reduceSub, Nat.reduceLT, Nat.reduceLeDiff, Nat.reduceBEq, reduceCtorEq, BEq.rfl, Int.reduceLT, Int.reduceLE, Int.reduceAdd, Int.reduceToNat, Int.reduceSub, Int.reduceMul, Int.reduceNeg, Int.reduceEq, *, fp] | (with_reducible refine And.intro (by first | omega | assumption | rfl) ?_))
  all_goals ((first | refine Fin_v1 (by rfl) ?_ | refine Fin_vn (by intro h; cases h) ?_ | refine Fin_f1 (by rfl) ?_ | refine Fin_fn (by intro h; cases h) (fun _ => rfl) ?_ | refine Fin_u1 (by rfl) ?_ | refine Fin_un (by intro h; cases h) ?_); try simp +contextual -implicitDefEqProofs (disch := first | exact dsc _ | fail) only [go_sem, push_cast, ↓reduceIte, Nat.reduceEqDiff, Nat.reduceAdd, Nat.reduceMul, Nat.reduceSub, Nat.reduceLT, Nat.reduceLeDiff, Nat.reduceBEq, reduceCtorEq, BEq.rfl, Int.reduceLT, Int.reduceLE, Int.reduceAdd, Int.reduceToNat, Int.reduceSub, Int.reduceMul, Int.reduceNeg, Int.reduceEq, *])
attribute [go_sem ↓] t_disk_Disk_existing
def sp_disk_Disk_write (args : List AV) : RM CallSpec := match args with
  | [d] => diskM d fun rd rm M off armed left => if armed = false then mkS [.ptr rd []] [(rd, .box (diskA rm off false left))] (.upd (.bool true) [(rd, .box (diskA rm off false left))]) false else .fail
  | _ => .fail
attribute [go_sem] sp_disk_Disk_write
theorem t_disk_Disk_write {rd rm : Id} {off : Bool} {left : Int} : FnG Tryz.prog 48 [.ptr rd []] [(rd, .box (diskA rm off false left))] (.upd (.bool true) [(rd, .box (diskA rm off false left))]) = True := by
  refine eq_true ?_
  refine FnG_of_W (sp := spL []) (tb := tbOf Tryz.prog) (tbOf_ok _) (by kernel_rfl) Tryz.func48 (c := _) rfl (by kernel_rfl) (by kernel_rfl) (Nat.le_of_ble_eq_true rfl) (rs := [.tmp 2]) rfl ?_
  unfold FnW
  repeat' (first | (with_reducible intro _) | (with_reducible refine wcond_not ?_) | ((with_reducible refine wcond_dec (fun _ => ?_) (fun _ => ?_)) <;> try (exfalso; omega)) | (with_reducible refine wcond_split (fun _ => ?_) (fun _ => ?_)) | (with_reducible refine draw_ro (by kernel_rfl) ?_) | simp +contextual -implicitDefEqProofs (disch := first | exact dsc _ | fail) only [go_sem, ↓reduceIte, Nat.reduceEqDiff, Nat.reduceAdd, Nat.reduceMul, Nat.reduceSub, Nat.reduceLT, Nat.reduceLeDiff, Nat.reduceBEq, reduceCtorEq, BEq.rfl, Int.reduceLT, Int.reduceLE, Int.reduceAdd, Int.reduceToNat, Int.reduceSub, Int.reduceMul, Int.reduceNeg, Int.reduceEq, *] | (with_reducible refine And.intro (by first | omega | assumption | rfl) ?_))
  all_goals ((first | refine Fin_v1 (by rfl) ?_ | refine Fin_vn (by intro h; cases h) ?_ | refine Fin_f1 (by rfl) ?_ | refine Fin_fn (by intro h; cases h) (fun _ => rfl) ?_ | refine Fin_u1 (by rfl) ?_ | refine Fin_un (by intro h; cases h) ?_); try simp +contextual -implicitDefEqProofs (disch := first | exact dsc _ | fail) only [go_sem, push_cast, ↓reduceIte, Nat.reduceEqDiff, Nat.reduceAdd, Nat.reduceMul, Nat.reduceSub, Nat.reduceLT, Nat.reduceLeDiff, Nat.reduceBEq, reduceCtorEq, BEq.rfl, Int.reduceLT, Int.reduceLE, Int.reduceAdd, Int.reduceToNat, Int.reduceSub, Int.reduceMul, Int.reduceNeg, Int.reduceEq, *])
attribute [go_sem ↓] t_disk_Disk_write
end Go.Am.Tryz
set_option maxRecDepth 100000
set_option linter.unusedSimpArgs false
set_option linter.unusedVariables false
set_option pp.maxSteps 2000
set_option maxHeartbeats 4000000
namespace Go.Am.Tryz
open Go.Proofs
theorem nilA_bysc {x : UInt8} {l : List UInt8} : nilA (.list (bys (x :: l))) = .ret false := rfl
def sp_bytes_Clone (args : List AV) : RM CallSpec := match args with
  | [x] => (match x with
    | .own r [] 1 0 len mc => @getI _ r ⟨fun e => (match e with | some (.row _ _ xs fz) => (match bytesA xs with | some b => if len = b.length then mkS [.own r [] 1 0 b.length mc] [(r, .row 5 1 (bys b) fz)] (.upd (.list (bys b)) [(r, .row 5 1 (bys b) fz)]) false else .fail | none => .fail) | _ => .fail)⟩
    | x => (bysM x).bind fun l => mkS [.list (bys l)] [] (.val (.list (bys l))) false)
  | _ => .fail
attribute [go_sem] sp_bytes_Clone
theorem t_bytes_Clone_o {r : Id} {b : List UInt8} {mc fz : Nat} (hb : b.length ≤ 35184372080000) : FnG Tryz.prog 86 [.own r [] 1 0 b.length mc] [(r, .row 5 1 (bys b) fz)] (.upd (.list (bys b)) [(r, .row 5 1 (bys b) fz)]) = True := by
  refine eq_true ?_
  refine FnG_of_W (sp := spL []) (tb := tbOf Tryz.prog) (tbOf_ok _) (by kernel_rfl) Tryz.func86 (c := _) rfl (by kernel_rfl) (by kernel_rfl) (Nat.le_of_ble_eq_true rfl) (rs := [.tmp 2]) rfl ?_
  unfold FnW
  by_cases h0 : 0 < b.length
  · repeat' (first | (with_reducible intro _) | (with_reducible refine wcond_not ?_) | ((with_reducible refine wcond_dec (fun _ => ?_) (fun _ => ?_)) <;> try (exfalso; omega)) | (with_reducible refine wcond_split (fun _ => ?_) (fun _ => ?_)) | (with_reducible refine draw_ro (by kernel_rfl) ?_) | simp +contextual -implicitDefEqProofs (disch := first | exact dsc _ | fail) only [go_sem, ↓reduceIte, Nat.reduceEqDiff, Nat.reduceAdd, Nat.reduceMul, Nat.reduceSub, Nat.reduceLT, Nat.reduceLeDiff, Nat.reduceBEq, reduceCtorEq, BEq.rfl, Int.reduceLT, Int.reduceLE, Int.reduceAdd, Int.reduceToNat, Int.reduceSub, Int.reduceMul, Int.reduceNeg, Int.reduceEq, *, r_run_dem] | (with_reducible refine And.intro (by first | omega | assumption | rfl) ?_))
    all_goals ((first | refine Fin_v1 (by rfl) ?_ | refine Fin_vn (by intro h; cases h) ?_ | refine Fin_f1 (by rfl) ?_ | refine Fin_fn (by intro h; cases h) (fun _ => rfl) ?_ | refine Fin_u1 (by rfl) ?_ | refine Fin_un (by intro h; cases h) ?_); try simp +contextual -implicitDefEqProofs (disch := first | exact dsc _ | fail) only [go_sem, push_cast, ↓reduceIte, Nat.reduceEqDiff, Nat.reduceAdd, Nat.reduceMul, Nat.reduceSub, Nat.reduceLT, Nat.reduceLeDiff, Nat.reduceBEq, reduceCtorEq, BEq.rfl, Int.reduceLT, Int.reduceLE, Int.reduceAdd, Int.reduceToNat, Int.reduceSub, Int.reduceMul, Int.reduceNeg, Int.reduceEq, *])
  · have hb0 : b = [] := List.eq_nil_of_length_eq_zero (by omega)
    subst hb0
    repeat' (first | (with_reducible intro _) | (with_reducible refine wcond_not ?_) | ((with_reducible refine wcond_dec (fun _ => ?_) (fun _ => ?_)) <;> try (exfalso; omega)) | (with_reducible refine wcond_split (fun _ => ?_) (fun _ => ?_)) | (with_reducible refine draw_ro (by kernel_rfl) ?_) | simp +contextual -implicitDefEqProofs (disch := first | exact dsc _ | fail) only [go_sem, ↓reduceIte, Nat.reduceEqDiff, Nat.reduceAdd, Nat.reduceMul, Nat.reduceSub, Nat.reduceLT, Nat.reduceLeDiff, Nat.reduceBEq, reduceCtorEq, BEq.rfl, Int.reduceLT, Int.reduceLE, Int.reduceAdd, Int.reduceToNat, Int.reduceSub, Int.reduceMul, Int.reduceNeg, Int.reduceEq, *, r_run_dem] | (with_reducible refine And.intro (by first | omega | assumption | rfl) ?_))
    all_goals ((first | refine Fin_v1 (by rfl) ?_ | refine Fin_vn (by intro h; cases h) ?_ | refine Fin_f1 (by rfl) ?_ | refine Fin_fn (by intro h; cases h) (fun _ => rfl) ?_ | refine Fin_u1 (by rfl) ?_ | refine Fin_un (by intro h; cases h) ?_); try simp +contextual -implicitDefEqProofs (disch := first | exact dsc _ | fail) only [go_sem, push_cast, ↓reduceIte, Nat.reduceEqDiff, Nat.reduceAdd, Nat.reduceMul, Nat.reduceSub, Nat.reduceLT, Nat.reduceLeDiff, Nat.reduceBEq, reduceCtorEq, BEq.rfl, Int.reduceLT, Int.reduceLE, Int.reduceAdd, Int.reduceToNat, Int.reduceSub, Int.reduceMul, Int.reduceNeg, Int.reduceEq, *])
attribute [go_sem ↓] t_bytes_Clone_o
theorem t_bytes_Clone {l : List UInt8} (hl : l.length ≤ 35184372080000) : FnG Tryz.prog 86 [.list (bys l)] [] (.val (.list (bys l))) = True := by
  refine eq_true ?_
  refine FnG_of_W (sp := spL []) (tb := tbOf Tryz.prog) (tbOf_ok _) (by kernel_rfl) Tryz.func86 (c := _) rfl (by kernel_rfl) (by kernel_rfl) (Nat.le_of_ble_eq_true rfl) (rs := [.tmp 2]) rfl ?_
  unfold FnW
  by_cases h0 : 0 < l.length
  · have hnil : nilA (.list (bys l)) = .ret false := by
      cases l with
      | nil => simp at h0
      | cons x l => rfl
    repeat' (first | (with_reducible intro _) | (with_reducible refine wcond_not ?_) | ((with_reducible refine wcond_dec (fun _ => ?_) (fun _ => ?_)) <;> try (exfalso; omega)) | (with_reducible refine wcond_split (fun _ => ?_) (fun _ => ?_)) | (with_reducible refine draw_ro (by kernel_rfl) ?_) | simp +contextual -implicitDefEqProofs (disch := first | exact dsc _ | fail) only [go_sem, ↓reduceIte, Nat.reduceEqDiff, Nat.reduceAdd, Nat.reduceMul, Nat.reduceSub, Nat.reduceLT, Nat.reduceLeDiff, Nat.reduceBEq, reduceCtorEq, BEq.rfl, Int.reduceLT, Int.reduceLE, Int.reduceAdd, Int.reduceToNat, Int.reduceSub, Int.reduceMul, Int.reduceNeg, Int.reduceEq, *, ↓hnil] | (with_reducible refine And.intro (by first | omega | assumption | rfl) ?_))
    all_goals ((first | refine Fin_v1 (by rfl) ?_ | refine Fin_vn (by intro h; cases h) ?_ | refine Fin_f1 (by rfl) ?_ | refine Fin_fn (by intro h; cases h) (fun _ => rfl) ?_ | refine Fin_u1 (by rfl) ?_ | refine Fin_un (by intro h; cases h) ?_); try simp +contextual -implicitDefEqProofs (disch := first | exact dsc _ | fail) only [go_sem, push_cast, ↓reduceIte, Nat.reduceEqDiff, Nat.reduceAdd, Nat.reduceMul, Nat.reduceSub, Nat.reduceLT, Nat.reduceLeDiff, Nat.reduceBEq, reduceCtorEq, BEq.rfl, Int.reduceLT, Int.reduceLE, Int.reduceAdd, Int.reduceToNat, Int.reduceSub, Int.reduceMul, Int.reduceNeg, Int.reduceEq, *])
  · have hb0 : l = [] := List.eq_nil_of_length_eq_zero (by omega)
    subst hb0
    repeat' (first | (with_reducible intro _) | (with_reducible refine wcond_not ?_) | ((with_reducible refine wcond_dec (fun _ => ?_) (fun _ => ?_)) <;> try (exfalso; omega)) | (with_reducible refine wcond_split (fun _ => ?_) (fun _ => ?_)) | (with_reducible refine draw_ro (by kernel_rfl) ?_) | simp +contextual -implicitDefEqProofs (disch := first | exact dsc _ | fail) only [go_sem, ↓reduceIte, Nat.reduceEqDiff, Nat.reduceAdd, Nat.reduceMul, Nat.reduceSub, Nat.reduceLT, Nat.reduceLeDiff, Nat.reduceBEq, reduceCtorEq, BEq.rfl, Int.reduceLT, Int.reduceLE, Int.reduceAdd, Int.reduceToNat, Int.reduceSub, Int.reduceMul, Int.reduceNeg, Int.reduceEq, *, r_run_dem] | (with_reducible refine And.intro (by first | omega | assumption | rfl) ?_))
    all_goals ((first | refine Fin_v1 (by rfl) ?_ | refine Fin_vn (by intro h; cases h) ?_ | refine Fin_f1 (by rfl) ?_ | refine Fin_fn (by intro h; cases h) (fun _ => rfl) ?_ | refine Fin_u1 (by rfl) ?_ | refine Fin_un (by intro h; cases h) ?_); try simp +contextual -implicitDefEqProofs (disch := first | exact dsc _ | fail) only [go_sem, push_cast, ↓reduceIte, Nat.reduceEqDiff, Nat.reduceAdd, Nat.reduceMul, Nat.reduceSub, Nat.reduceLT, Nat.reduceLeDiff, Nat.reduceBEq, reduceCtorEq, BEq.rfl, Int.reduceLT, Int.reduceLE, Int.reduceAdd, Int.reduceToNat, Int.reduceSub, Int.reduceMul, Int.reduceNeg, Int.reduceEq, *])
attribute [go_sem ↓] t_bytes_Clone
def fileH (rf rr : Id) (b : List UInt8) (dur : Int) : Heap := [(rf, .box (.agg [.own rr [] 1 0 b.length b.length, .int .i64 dur])), (rr, .row 5 1 (bys b) 0)]
attribute [go_sem] fileH
def appOut (rd rm : Id) (M : filesA) (left : Int) (n b : List UInt8) : Out := .fresh2 fun rf rr => (.int .i64 0, [(rf, .box (.agg [.own rr [] 1 0 b.length b.length, .int .i64 0])), (rr, .row 5 1 (bys b) 0), (rd, .box (diskA rm false false left)), (rm, .map 9 81 (mapA (put M n rf)))])
def sp_disk_Disk_Append (args : List AV) : RM CallSpec := match args with
  | [d, .str n, b] => diskM d fun rd rm M off armed left => (bysM b).bind fun l => if look M n = none then mkS [.ptr rd [], .str n, .list (bys l)] (diskH rd rm M false false left) (appOut rd rm M left n l) false else .fail
  | _ => .fail
attribute [go_sem] sp_disk_Disk_Append
theorem t_disk_Disk_Append {rd rm : Id} {M : filesA} {n b : List UInt8} {left : Int} (hl : look M n = none) (hne : ¬ rd = rm ∧ ¬ rm = rd) (hn : ¬ n = []) (hb : b.length ≤ 35184372080000) : FnG Tryz.prog 16 [.ptr rd [], .str n, .list (bys b)] (diskH rd rm M false false left) (appOut rd rm M left n b) = True := by
  refine eq_true ?_
  refine FnG_of_W (sp := spL [(47, sp_disk_Disk_open), (48, sp_disk_Disk_write)]) (tb := tbOf Tryz.prog) (tbOf_ok _) (by kernel_rfl) Tryz.func16 (c := _) rfl (by kernel_rfl) (by kernel_rfl) (Nat.le_of_ble_eq_true rfl) (rs := [.tmp 6]) rfl ?_
  unfold FnW
  unfold diskH
  repeat' (first | (with_reducible intro _) | (with_reducible refine wcond_not ?_) | ((with_reducible refine wcond_dec (fun _ => ?_) (fun _ => ?_)) <;> try (exfalso; omega)) | (with_reducible refine wcond_split (fun _ => ?_) (fun _ => ?_)) | (with_reducible refine draw_ro (by kernel_rfl) ?_) | simp +contextual -implicitDefEqProofs (disch := first | exact dsc _ | fail) only [go_sem, ↓reduceIte, Nat.reduceEqDiff, Nat.reduceAdd, Nat.reduceMul, Nat.reduceSub, Nat.reduceLT, Nat.reduceLeDiff, Nat.reduceBEq, reduceCtorEq, BEq.rfl, Int.reduceLT, Int.reduceLE, Int.reduceAdd, Int.reduceToNat, Int.reduceSub, Int.reduceMul, Int.reduceNeg, Int.reduceEq, *, fp] | (with_reducible refine And.intro (by first | omega | assumption | rfl) ?_))
  rename_i r0 h0 r1 h1
  refine Fin_g1 r0 r1 (by rfl) ?_
  simp +contextual -implicitDefEqProofs (disch := first | exact dsc _ | fail) only [go_sem, push_cast, ↓reduceIte, Nat.reduceEqDiff, Nat.reduceAdd, Nat.reduceMul, Nat.reduceSub, Nat.reduceLT, Nat.reduceLeDiff, Nat.reduceBEq, reduceCtorEq, BEq.rfl, Int.reduceLT, Int.reduceLE, Int.reduceAdd, Int.reduceToNat, Int.reduceSub, Int.reduceMul, Int.reduceNeg, Int.reduceEq, *, appOut, idsOk]
attribute [go_sem ↓] t_disk_Disk_Append
def sp_disk_Disk_Read (args : List AV) : RM CallSpec := match args with
  | [d, .str n] => diskM d fun rd rm M off armed left => (match look M n with
    | none => mkS [.ptr rd [], .str n] (diskH rd rm M false armed left) (.val (.tup [.nils, .int .i64 6])) false
    | some rf => @getI _ rf ⟨fun e => (match e with | some (.box v) => (match v with | .agg [c, .int .i64 dur] => (match c with | .own rr [] 1 0 len mc => @getI _ rr ⟨fun e' => (match e' with | some (.row _ _ xs _) => (match bytesA xs with | some b => mkS [.ptr rd [], .str n] (diskH rd rm M false armed left ++ fileH rf rr b dur) (.val (.tup [.list (bys b), .int .i64 0])) false | none => .fail) | _ => .fail)⟩ | _ => .fail) | _ => .fail) | _ => .fail)⟩)
  | _ => .fail
attribute [go_sem] sp_disk_Disk_Read
theorem t_disk_Disk_Read_n {rd rm : Id} {M : filesA} {n : List UInt8} {armed : Bool} {left : Int} (hl : look M n = none) (hne : ¬ rd = rm ∧ ¬ rm = rd) (hn : ¬ n = []) : FnG Tryz.prog 46 [.ptr rd [], .str n] (diskH rd rm M false armed left) (.val (.tup [.nils, .int .i64 6])) = True := by
  refine eq_true ?_
  refine FnG_of_W (sp := spL [(85, sp_disk_Disk_existing), (86, sp_bytes_Clone)]) (tb := tbOf Tryz.prog) (tbOf_ok _) (by kernel_rfl) Tryz.func46 (c := _) rfl (by kernel_rfl) (by kernel_rfl) (Nat.le_of_ble_eq_true rfl) (rs := [.tmp 4, .tmp 5]) rfl ?_
  unfold FnW
  unfold diskH
  repeat' (first | (with_reducible intro _) | (with_reducible refine wcond_not ?_) | ((with_reducible refine wcond_dec (fun _ => ?_) (fun _ => ?_)) <;> try (exfalso; omega)) | (with_reducible refine wcond_split (fun _ => ?_) (fun _ => ?_)) | (with_reducible refine draw_ro (by kernel_rfl) ?_) | simp +contextual -implicitDefEqProofs (disch := first | exact dsc _ | fail) only [go_sem, ↓reduceIte, Nat.reduceEqDiff, Nat.reduceAdd, Nat.reduceMul, Nat.reduceSub, Nat.reduceLT, Nat.reduceLeDiff, Nat.reduceBEq, reduceCtorEq, BEq.rfl, Int.reduceLT, Int.reduceLE, Int.reduceAdd, Int.reduceToNat, Int.reduceSub, Int.reduceMul, Int.reduceNeg, Int.reduceEq, *, existV] | (with_reducible refine And.intro (by first | omega | assumption | rfl) ?_))
  all_goals ((first | refine Fin_v1 (by rfl) ?_ | refine Fin_vn (by intro h; cases h) ?_ | refine Fin_f1 (by rfl) ?_ | refine Fin_fn (by intro h; cases h) (fun _ => rfl) ?_ | refine Fin_u1 (by rfl) ?_ | refine Fin_un (by intro h; cases h) ?_); try simp +contextual -implicitDefEqProofs (disch := first | exact dsc _ | fail) only [go_sem, push_cast, ↓reduceIte, Nat.reduceEqDiff, Nat.reduceAdd, Nat.reduceMul, Nat.reduceSub, Nat.reduceLT, Nat.reduceLeDiff, Nat.reduceBEq, reduceCtorEq, BEq.rfl, Int.reduceLT, Int.reduceLE, Int.reduceAdd, Int.reduceToNat, Int.reduceSub, Int.reduceMul, Int.reduceNeg, Int.reduceEq, *])
attribute [go_sem ↓] t_disk_Disk_Read_n
theorem t_disk_Disk_Read_y {rd rm rf rr : Id} {M : filesA} {n b : List UInt8} {armed : Bool} {left dur : Int} (hl : look M n = some rf) (hb : b.length ≤ 35184372080000) (hne : ¬ rd = rm ∧ ¬ rm = rd) (hn : ¬ n = []) (h1 : ¬ rf = rd ∧ ¬ rd = rf) (h2 : ¬ rf = rm ∧ ¬ rm = rf) (h3 : ¬ rr = rd ∧ ¬ rd = rr) (h4 : ¬ rr = rm ∧ ¬ rm = rr) (h5 : ¬ rr = rf ∧ ¬ rf = rr) : FnG Tryz.prog 46 [.ptr rd [], .str n] (diskH rd rm M false armed left ++ fileH rf rr b dur) (.val (.tup [.list (bys b), .int .i64 0])) = True := by
  refine eq_true ?_
  refine FnG_of_W (sp := spL [(85, sp_disk_Disk_existing), (86, sp_bytes_Clone)]) (tb := tbOf Tryz.prog) (tbOf_ok _) (by kernel_rfl) Tryz.func46 (c := _) rfl (by kernel_rfl) (by kernel_rfl) (Nat.le_of_ble_eq_true rfl) (rs := [.tmp 4, .tmp 5]) rfl ?_
  unfold FnW
  unfold diskH fileH
  repeat' (first | (with_reducible intro _) | (with_reducible refine wcond_not ?_) | ((with_reducible refine wcond_dec (fun _ => ?_) (fun _ => ?_)) <;> try (exfalso; omega)) | (with_reducible refine wcond_split (fun _ => ?_) (fun _ => ?_)) | (with_reducible refine draw_ro (by kernel_rfl) ?_) | simp +contextual -implicitDefEqProofs (disch := first | exact dsc _ | fail) only [go_sem, ↓reduceIte, Nat.reduceEqDiff, Nat.reduceAdd, Nat.reduceMul, Nat.reduceSub, Nat.reduceLT, Nat.reduceLeDiff, Nat.reduceBEq, reduceCtorEq, BEq.rfl, Int.reduceLT, Int.reduceLE, Int.reduceAdd, Int.reduceToNat, Int.reduceSub, Int.reduceMul, Int.reduceNeg, Int.reduceEq, *, existV] | (with_reducible refine And.intro (by first | omega | assumption | rfl) ?_))
  all_goals ((first | refine Fin_v1 (by rfl) ?_ | refine Fin_vn (by intro h; cases h) ?_ | refine Fin_f1 (by rfl) ?_ | refine Fin_fn (by intro h; cases h) (fun _ => rfl) ?_ | refine Fin_u1 (by rfl) ?_ | refine Fin_un (by intro h; cases h) ?_); try simp +contextual -implicitDefEqProofs (disch := first | exact dsc _ | fail) only [go_sem, push_cast, ↓reduceIte, Nat.reduceEqDiff, Nat.reduceAdd, Nat.reduceMul, Nat.reduceSub, Nat.reduceLT, Nat.reduceLeDiff, Nat.reduceBEq, reduceCtorEq, BEq.rfl, Int.reduceLT, Int.reduceLE, Int.reduceAdd, Int.reduceToNat, Int.reduceSub, Int.reduceMul, Int.reduceNeg, Int.reduceEq, *])
attribute [go_sem ↓] t_disk_Disk_Read_y
end Go.Am.Tryz
set_option maxRecDepth 100000
set_option linter.unusedSimpArgs false
set_option linter.unusedVariables false
set_option pp.maxSteps 2000
set_option maxHeartbeats 4000000
namespace Go.Am.Tryz
open Go.Proofs
def fileM (rf : Id) (k : Id → List UInt8 → Int → RM CallSpec) : RM CallSpec := @getI _ rf ⟨fun e => (match e with | some (.box v) => (match v with | .agg [c, .int .i64 dur] => (match c with | .own rr [] 1 0 len mc => @getI _ rr ⟨fun e' => (match e' with | some (.row _ _ xs _) => (match bytesA xs with | some b => k rr b dur | none => .fail) | _ => .fail)⟩ | _ => .fail) | _ => .fail) | _ => .fail)⟩
attribute [go_sem] fileM
def rdV (b : List UInt8) : View × Int := if (decW b).2 = 0 then ((decW b).1, 0) else (⟨[], []⟩, 104)
def sp_snapshot_Read (args : List AV) : RM CallSpec := match args with
  | [d, .str n] => diskM d fun rd rm M off armed left => (match look M n with
    | none => mkS [.ptr rd [], .str n] (diskH rd rm M false armed left) (.val (.tup [viewA ⟨[], []⟩, .int .i64 6])) false
    | some rf => fileM rf fun rr b dur => mkS [.ptr rd [], .str n] (diskH rd rm M false armed left ++ fileH rf rr b dur) (.val (.tup [viewA (rdV b).1, .int .i64 (rdV b).2])) false)
  | _ => .fail
attribute [go_sem] sp_snapshot_Read
theorem t_snapshot_Read_n {rd rm : Id} {M : filesA} {n : List UInt8} {armed : Bool} {left : Int} (hl : look M n = none) (hne : ¬ rd = rm ∧ ¬ rm = rd) (hn : ¬ n = []) : FnG Tryz.prog 15 [.ptr rd [], .str n] (diskH rd rm M false armed left) (.val (.tup [viewA ⟨[], []⟩, .int .i64 6])) = True := by
  refine eq_true ?_
  refine FnG_of_W (sp := spL [(46, sp_disk_Disk_Read), (11, sp_snapshot_Decode)]) (tb := tbOf Tryz.prog) (tbOf_ok _) (by kernel_rfl) Tryz.func15 (c := _) rfl (by kernel_rfl) (by kernel_rfl) (Nat.le_of_ble_eq_true rfl) (rs := [.cell 4 25, .tmp 5]) rfl ?_
  unfold FnW
  unfold diskH
  repeat' (first | (with_reducible intro _) | (with_reducible refine wcond_not ?_) | ((with_reducible refine wcond_dec (fun _ => ?_) (fun _ => ?_)) <;> try (exfalso; omega)) | (with_reducible refine wcond_split (fun _ => ?_) (fun _ => ?_)) | (with_reducible refine draw_ro (by kernel_rfl) ?_) | simp +contextual -implicitDefEqProofs (disch := first | exact dsc _ | fail) only [go_sem, ↓reduceIte, Nat.reduceEqDiff, Nat.reduceAdd, Nat.reduceMul, Nat.reduceSub, Nat.reduceLT, Nat.reduceLeDiff, Nat.reduceBEq, reduceCtorEq, BEq.rfl, Int.reduceLT, Int.reduceLE, Int.reduceAdd, Int.reduceToNat, Int.reduceSub, Int.reduceMul, Int.reduceNeg, Int.reduceEq, *] | (with_reducible refine And.intro (by first | omega | assumption | rfl) ?_))
  all_goals ((first | refine Fin_v1 (by rfl) ?_ | refine Fin_vn (by intro h; cases h) ?_ | refine Fin_f1 (by rfl) ?_ | refine Fin_fn (by intro h; cases h) (fun _ => rfl) ?_ | refine Fin_u1 (by rfl) ?_ | refine Fin_un (by intro h; cases h) ?_); try simp +contextual -implicitDefEqProofs (disch := first | exact dsc _ | fail) only [go_sem, push_cast, ↓reduceIte, Nat.reduceEqDiff, Nat.reduceAdd, Nat.reduceMul, Nat.reduceSub, Nat.reduceLT, Nat.reduceLeDiff, Nat.reduceBEq, reduceCtorEq, BEq.rfl, Int.reduceLT, Int.reduceLE, Int.reduceAdd, Int.reduceToNat, Int.reduceSub, Int.reduceMul, Int.reduceNeg, Int.reduceEq, *])
attribute [go_sem ↓] t_snapshot_Read_n
theorem t_snapshot_Read_y {rd rm rf rr : Id} {M : filesA} {n b : List UInt8} {armed : Bool} {left dur : Int} (hl : look M n = some rf) (hb : b.length ≤ 1000000000) (hne : ¬ rd = rm ∧ ¬ rm = rd) (hn : ¬ n = []) (h1 : ¬ rf = rd ∧ ¬ rd = rf) (h2 : ¬ rf = rm ∧ ¬ rm = rf) (h3 : ¬ rr = rd ∧ ¬ rd = rr) (h4 : ¬ rr = rm ∧ ¬ rm = rr) (h5 : ¬ rr = rf ∧ ¬ rf = rr) : FnG Tryz.prog 15 [.ptr rd [], .str n] (diskH rd rm M false armed left ++ fileH rf rr b dur) (.val (.tup [viewA (rdV b).1, .int .i64 (rdV b).2])) = True := by
  refine eq_true ?_
  refine FnG_of_W (sp := spL [(46, sp_disk_Disk_Read), (11, sp_snapshot_Decode)]) (tb := tbOf Tryz.prog) (tbOf_ok _) (by kernel_rfl) Tryz.func15 (c := _) rfl (by kernel_rfl) (by kernel_rfl) (Nat.le_of_ble_eq_true rfl) (rs := [.cell 4 25, .tmp 5]) rfl ?_
  unfold FnW
  unfold diskH fileH
  by_cases h : (decW b).2 = 0
  · have e : rdV b = ((decW b).1, 0) := if_pos h
    rw [e]
    clear e
    repeat' (first | (with_reducible intro _) | (with_reducible refine wcond_not ?_) | ((with_reducible refine wcond_dec (fun _ => ?_) (fun _ => ?_)) <;> try (exfalso; omega)) | (with_reducible refine wcond_split (fun _ => ?_) (fun _ => ?_)) | (with_reducible refine draw_ro (by kernel_rfl) ?_) | simp +contextual -implicitDefEqProofs (disch := first | exact dsc _ | fail) only [go_sem, ↓reduceIte, Nat.reduceEqDiff, Nat.reduceAdd, Nat.reduceMul, Nat.reduceSub, Nat.reduceLT, Nat.reduceLeDiff, Nat.reduceBEq, reduceCtorEq, BEq.rfl, Int.reduceLT, Int.reduceLE, Int.reduceAdd, Int.reduceToNat, Int.reduceSub, Int.reduceMul, Int.reduceNeg, Int.reduceEq, *] | (with_reducible refine And.intro (by first | omega | assumption | rfl) ?_))
    all_goals ((first | refine Fin_v1 (by rfl) ?_ | refine Fin_vn (by intro h; cases h) ?_ | refine Fin_f1 (by rfl) ?_ | refine Fin_fn (by intro h; cases h) (fun _ => rfl) ?_ | refine Fin_u1 (by rfl) ?_ | refine Fin_un (by intro h; cases h) ?_); try simp +contextual -implicitDefEqProofs (disch := first | exact dsc _ | fail) only [go_sem, push_cast, ↓reduceIte, Nat.reduceEqDiff, Nat.reduceAdd, Nat.reduceMul, Nat.reduceSub, Nat.reduceLT, Nat.reduceLeDiff, Nat.reduceBEq, reduceCtorEq, BEq.rfl, Int.reduceLT, Int.reduceLE, Int.reduceAdd, Int.reduceToNat, Int.reduceSub, Int.reduceMul, Int.reduceNeg, Int.reduceEq, *])
  · have e : rdV b = (⟨[], []⟩, 104) := if_neg h
    rw [e]
    clear e
    repeat' (first | (with_reducible intro _) | (with_reducible refine wcond_not ?_) | ((with_reducible refine wcond_dec (fun _ => ?_) (fun _ => ?_)) <;> try (exfalso; omega)) | (with_reducible refine wcond_split (fun _ => ?_) (fun _ => ?_)) | (with_reducible refine draw_ro (by kernel_rfl) ?_) | simp +contextual -implicitDefEqProofs (disch := first | exact dsc _ | fail) only [go_sem, ↓reduceIte, Nat.reduceEqDiff, Nat.reduceAdd, Nat.reduceMul, Nat.reduceSub, Nat.reduceLT, Nat.reduceLeDiff, Nat.reduceBEq, reduceCtorEq, BEq.rfl, Int.reduceLT, Int.reduceLE, Int.reduceAdd, Int.reduceToNat, Int.reduceSub, Int.reduceMul, Int.reduceNeg, Int.reduceEq, *] | (with_reducible refine And.intro (by first | omega | assumption | rfl) ?_))
    all_goals ((first | refine Fin_v1 (by rfl) ?_ | refine Fin_vn (by intro h; cases h) ?_ | refine Fin_f1 (by rfl) ?_ | refine Fin_fn (by intro h; cases h) (fun _ => rfl) ?_ | refine Fin_u1 (by rfl) ?_ | refine Fin_un (by intro h; cases h) ?_); try simp +contextual -implicitDefEqProofs (disch := first | exact dsc _ | fail) only [go_sem, push_cast, ↓reduceIte, Nat.reduceEqDiff, Nat.reduceAdd, Nat.reduceMul, Nat.reduceSub, Nat.reduceLT, Nat.reduceLeDiff, Nat.reduceBEq, reduceCtorEq, BEq.rfl, Int.reduceLT, Int.reduceLE, Int.reduceAdd, Int.reduceToNat, Int.reduceSub, Int.reduceMul, Int.reduceNeg, Int.reduceEq, *])
attribute [go_sem ↓] t_snapshot_Read_y
end Go.Am.Tryz
set_option maxRecDepth 100000
set_option linter.unusedSimpArgs false
set_option linter.unusedVariables false
set_option pp.maxSteps 2000
set_option maxHeartbeats 4000000
namespace Go.Am.Tryz
open Go.Proofs
def rmH (c1 c2 rd : Id) (n : List UInt8) : Heap := [(c1, .box (.ptr rd [])), (c2, .box (.str n))]
def mvH (c1 c2 c3 rd : Id) (n m : List UInt8) : Heap := [(c1, .box (.ptr rd [])), (c2, .box (.str n)), (c3, .box (.str m))]
attribute [go_sem] rmH mvH
theorem t_disk_Disk_Sync_1 {rf rr : Id} {b : List UInt8} {dur : Int} (hb : b.length ≤ 35184372080000) (h5 : ¬ rr = rf ∧ ¬ rf = rr) : FnG Tryz.prog 89 [.ptr rf []] (fileH rf rr b dur) (.upd (.tup []) (fileH rf rr b b.length)) = True := by
  refine eq_true ?_
  refine FnG_of_W (sp := spL []) (tb := tbOf Tryz.prog) (tbOf_ok _) (by kernel_rfl) Tryz.func89 (c := _) rfl (by kernel_rfl) (by kernel_rfl) (Nat.le_of_ble_eq_true rfl) (rs := []) rfl ?_
  unfold FnW
  unfold fileH
  repeat' (first | (with_reducible intro _) | (with_reducible refine wcond_not ?_) | ((with_reducible refine wcond_dec (fun _ => ?_) (fun _ => ?_)) <;> try (exfalso; omega)) | (with_reducible refine wcond_split (fun _ => ?_) (fun _ => ?_)) | (with_reducible refine draw_ro (by kernel_rfl) ?_) | simp +contextual -implicitDefEqProofs (disch := first | exact dsc _ | fail) only [go_sem, ↓reduceIte, Nat.reduceEqDiff, Nat.reduceAdd, Nat.reduceMul, Nat.reduceSub, Nat.reduceLT, Nat.reduceLeDiff, Nat.reduceBEq, reduceCtorEq, BEq.rfl, Int.reduceLT, Int.reduceLE, Int.reduceAdd, Int.reduceToNat, Int.reduceSub, Int.reduceMul, Int.reduceNeg, Int.reduceEq, *] | (with_reducible refine And.intro (by first | omega | assumption | rfl) ?_))
  all_goals ((first | refine Fin_v1 (by rfl) ?_ | refine Fin_vn (by intro h; cases h) ?_ | refine Fin_f1 (by rfl) ?_ | refine Fin_fn (by intro h; cases h) (fun _ => rfl) ?_ | refine Fin_u1 (by rfl) ?_ | refine Fin_un (by intro h; cases h) ?_); try simp +contextual -implicitDefEqProofs (disch := first | exact dsc _ | fail) only [go_sem, push_cast, ↓reduceIte, Nat.reduceEqDiff, Nat.reduceAdd, Nat.reduceMul, Nat.reduceSub, Nat.reduceLT, Nat.reduceLeDiff, Nat.reduceBEq, reduceCtorEq, BEq.rfl, Int.reduceLT, Int.reduceLE, Int.reduceAdd, Int.reduceToNat, Int.reduceSub, Int.reduceMul, Int.reduceNeg, Int.reduceEq, *])
attribute [go_sem ↓] t_disk_Disk_Sync_1
theorem t_disk_Disk_Remove_1 {rf rd rm c1 c2 : Id} {M : filesA} {n : List UInt8} {off armed : Bool} {left : Int} (h1 : ¬ rd = rm ∧ ¬ rm = rd) (h2 : ¬ c1 = rm ∧ ¬ rm = c1) (h3 : ¬ c2 = rm ∧ ¬ rm = c2) (h4 : ¬ c1 = rd ∧ ¬ rd = c1) (h5 : ¬ c2 = rd ∧ ¬ rd = c2) (h6 : ¬ c1 = c2 ∧ ¬ c2 = c1) : FnG Tryz.prog 88 [.ptr rf [], .ptr c1 [], .ptr c2 []] (rmH c1 c2 rd n ++ diskH rd rm M off armed left) (.upd (.tup []) (diskH rd rm (del M n) off armed left)) = True := by
  refine eq_true ?_
  refine FnG_of_W (sp := spL []) (tb := tbOf Tryz.prog) (tbOf_ok _) (by kernel_rfl) Tryz.func88 (c := _) rfl (by kernel_rfl) (by kernel_rfl) (Nat.le_of_ble_eq_true rfl) (rs := []) rfl ?_
  unfold FnW
  unfold rmH diskH
  repeat' (first | (with_reducible intro _) | (with_reducible refine wcond_not ?_) | ((with_reducible refine wcond_dec (fun _ => ?_) (fun _ => ?_)) <;> try (exfalso; omega)) | (with_reducible refine wcond_split (fun _ => ?_) (fun _ => ?_)) | (with_reducible refine draw_we [(true, []), (false, []), (false, []), (true, []), (false, [0, 3]), (false, [])] (by kernel_rfl) (by decide +kernel) ?_) | simp +contextual -implicitDefEqProofs (disch := first | exact dsc _ | fail) only [go_sem, ↓reduceIte, Nat.reduceEqDiff, Nat.reduceAdd, Nat.reduceMul, Nat.reduceSub, Nat.reduceLT, Nat.reduceLeDiff, Nat.reduceBEq, reduceCtorEq, BEq.rfl, Int.reduceLT, Int.reduceLE, Int.reduceAdd, Int.reduceToNat, Int.reduceSub, Int.reduceMul, Int.reduceNeg, Int.reduceEq, *] | (with_reducible refine And.intro (by first | omega | assumption | rfl) ?_))
  all_goals ((first | refine Fin_v1 (by rfl) ?_ | refine Fin_vn (by intro h; cases h) ?_ | refine Fin_f1 (by rfl) ?_ | refine Fin_fn (by intro h; cases h) (fun _ => rfl) ?_ | refine Fin_u1 (by rfl) ?_ | refine Fin_un (by intro h; cases h) ?_); try simp +contextual -implicitDefEqProofs (disch := first | exact dsc _ | fail) only [go_sem, push_cast, ↓reduceIte, Nat.reduceEqDiff, Nat.reduceAdd, Nat.reduceMul, Nat.reduceSub, Nat.reduceLT, Nat.reduceLeDiff, Nat.reduceBEq, reduceCtorEq, BEq.rfl, Int.reduceLT, Int.reduceLE, Int.reduceAdd, Int.reduceToNat, Int.reduceSub, Int.reduceMul, Int.reduceNeg, Int.reduceEq, *])
attribute [go_sem ↓] t_disk_Disk_Remove_1
theorem t_disk_Disk_Rename_1 {rf rd rm c1 c2 c3 : Id} {M : filesA} {n m : List UInt8} {off armed : Bool} {left : Int} (h1 : ¬ rd = rm ∧ ¬ rm = rd) (h2 : ¬ c1 = rm ∧ ¬ rm = c1) (h3 : ¬ c2 = rm ∧ ¬ rm = c2) (h4 : ¬ c1 = rd ∧ ¬ rd = c1) (h5 : ¬ c2 = rd ∧ ¬ rd = c2) (h6 : ¬ c1 = c2 ∧ ¬ c2 = c1)
   (h7 : ¬ c3 = rm ∧ ¬ rm = c3) (h8 : ¬ c3 = rd ∧ ¬ rd = c3) (h9 : ¬ c3 = c1 ∧ ¬ c1 = c3) (h10 : ¬ c3 = c2 ∧ ¬ c2 = c3) : FnG Tryz.prog 90 [.ptr rf [], .ptr c1 [], .ptr c2 [], .ptr c3 []] (mvH c1 c2 c3 rd n m ++ diskH rd rm M off armed left) (.upd (.tup []) (diskH rd rm (put (del M n) m rf) off armed left)) = True := by
  refine eq_true ?_
  refine FnG_of_W (sp := spL []) (tb := tbOf Tryz.prog) (tbOf_ok _) (by kernel_rfl) Tryz.func90 (c := _) rfl (by kernel_rfl) (by kernel_rfl) (Nat.le_of_ble_eq_true rfl) (rs := []) rfl ?_
  unfold FnW
  unfold mvH diskH
  repeat' (first | (with_reducible intro _) | (with_reducible refine wcond_not ?_) | ((with_reducible refine wcond_dec (fun _ => ?_) (fun _ => ?_)) <;> try (exfalso; omega)) | (with_reducible refine wcond_split (fun _ => ?_) (fun _ => ?_)) | (with_reducible refine draw_we [(true, []), (false, []), (false, []), (true, []), (false, [0, 3]), (false, []), (false, [])] (by kernel_rfl) (by decide +kernel) ?_) | simp +contextual -implicitDefEqProofs (disch := first | exact dsc _ | fail) only [go_sem, ↓reduceIte, Nat.reduceEqDiff, Nat.reduceAdd, Nat.reduceMul, Nat.reduceSub, Nat.reduceLT, Nat.reduceLeDiff, Nat.reduceBEq, reduceCtorEq, BEq.rfl, Int.reduceLT, Int.reduceLE, Int.reduceAdd, Int.reduceToNat, Int.reduceSub, Int.reduceMul, Int.reduceNeg, Int.reduceEq, *] | (with_reducible refine And.intro (by first | omega | assumption | rfl) ?_))
  all_goals ((first | refine Fin_v1 (by rfl) ?_ | refine Fin_vn (by intro h; cases h) ?_ | refine Fin_f1 (by rfl) ?_ | refine Fin_fn (by intro h; cases h) (fun _ => rfl) ?_ | refine Fin_u1 (by rfl) ?_ | refine Fin_un (by intro h; cases h) ?_); try simp +contextual -implicitDefEqProofs (disch := first | exact dsc _ | fail) only [go_sem, push_cast, ↓reduceIte, Nat.reduceEqDiff, Nat.reduceAdd, Nat.reduceMul, Nat.reduceSub, Nat.reduceLT, Nat.reduceLeDiff, Nat.reduceBEq, reduceCtorEq, BEq.rfl, Int.reduceLT, Int.reduceLE, Int.reduceAdd, Int.reduceToNat, Int.reduceSub, Int.reduceMul, Int.reduceNeg, Int.reduceEq, *])
attribute [go_sem ↓] t_disk_Disk_Rename_1
def boxM (c : AV) (k : Id → AV → RM CallSpec) : RM CallSpec := match c with
  | .ptr r p => (match p with | [] => @getI _ r ⟨fun e => (match e with | some (.box v) => k r v | _ => .fail)⟩ | _ => .fail)
  | _ => .fail
attribute [go_sem] boxM
def sp_disk_Disk_Sync_1 (args : List AV) : RM CallSpec := match args with
  | [f] => (match f with | .ptr rf p => (match p with | [] => fileM rf fun rr b dur => mkS [.ptr rf []] (fileH rf rr b dur) (.upd (.tup []) (fileH rf rr b b.length)) false | _ => .fail) | _ => .fail)
  | _ => .fail
attribute [go_sem] sp_disk_Disk_Sync_1
def sp_disk_Disk_Remove_1 (args : List AV) : RM CallSpec := match args with
  | [f, c1, c2] => (match f with | .ptr rf p => (match p with | [] => boxM c1 fun r1 d => boxM c2 fun r2 s => (match s with | .str n => diskM d fun rd rm M off armed left => mkS [.ptr rf [], .ptr r1 [], .ptr r2 []] (rmH r1 r2 rd n ++ diskH rd rm M off armed left) (.upd (.tup []) (diskH rd rm (del M n) off armed left)) false | _ => .fail) | _ => .fail) | _ => .fail)
  | _ => .fail
attribute [go_sem] sp_disk_Disk_Remove_1
def sp_disk_Disk_Rename_1 (args : List AV) : RM CallSpec := match args with
  | [f, c1, c2, c3] => (match f with | .ptr rf p => (match p with | [] => boxM c1 fun r1 d => boxM c2 fun r2 s => boxM c3 fun r3 s' => (match s with | .str n => (match s' with | .str m => diskM d fun rd rm M off armed left => mkS [.ptr rf [], .ptr r1 [], .ptr r2 [], .ptr r3 []] (mvH r1 r2 r3 rd n m ++ diskH rd rm M off armed left) (.upd (.tup []) (diskH rd rm (put (del M n) m rf) off armed left)) false | _ => .fail) | _ => .fail) | _ => .fail) | _ => .fail)
  | _ => .fail
attribute [go_sem] sp_disk_Disk_Rename_1
def sp_disk_Disk_change (args : List AV) : RM CallSpec := match args with
  | [d, .str n, .func f fi ca] => diskM d fun rd rm M off armed left => (match look M n with
    | none => mkS [.ptr rd [], .str n, .func f fi ca] (diskH rd rm M false armed left) (.val (.int .i64 6)) false
    | some rf => (match ca with
      | [] => fileM rf fun rr b dur => mkS [.ptr rd [], .str n, .func 89 [] []] (diskH rd rm M false false left ++ fileH rf rr b dur) (.upd (.int .i64 0) (diskH rd rm M false false left ++ fileH rf rr b b.length)) false
      | [c1, c2] => boxM c1 fun r1 _ => boxM c2 fun r2 _ => mkS [.ptr rd [], .str n, .func 88 [] [.ptr r1 [], .ptr r2 []]] (rmH r1 r2 rd n ++ diskH rd rm M false false left) (.upd (.int .i64 0) (diskH rd rm (del M n) false false left)) false
      | [c1, c2, c3] => boxM c1 fun r1 _ => boxM c2 fun r2 _ => boxM c3 fun r3 s => (match s with | .str m => mkS [.ptr rd [], .str n, .func 90 [] [.ptr r1 [], .ptr r2 [], .ptr r3 []]] (mvH r1 r2 r3 rd n m ++ diskH rd rm M false false left) (.upd (.int .i64 0) (diskH rd rm (put (del M n) m rf) false false left)) false | _ => .fail)
      | _ => .fail))
  | _ => .fail
attribute [go_sem] sp_disk_Disk_change
theorem t_disk_Disk_change_n {rd rm : Id} {M : filesA} {n : List UInt8} {armed : Bool} {left : Int} {f : FuncId} {fi ca : List AV} (hl : look M n = none) (hne : ¬ rd = rm ∧ ¬ rm = rd) (hn : ¬ n = []) : FnG Tryz.prog 87 [.ptr rd [], .str n, .func f fi ca] (diskH rd rm M false armed left) (.val (.int .i64 6)) = True := by
  refine eq_true ?_
  refine FnG_of_W (sp := spL [(85, sp_disk_Disk_existing), (48, sp_disk_Disk_write), (89, sp_disk_Disk_Sync_1), (88, sp_disk_Disk_Remove_1), (90, sp_disk_Disk_Rename_1)]) (tb := tbOf Tryz.prog) (tbOf_ok _) (by kernel_rfl) Tryz.func87 (c := _) rfl (by kernel_rfl) (by kernel_rfl) (Nat.le_of_ble_eq_true rfl) (rs := [.tmp 6]) rfl ?_
  unfold FnW
  unfold diskH
  repeat' (first | (with_reducible intro _) | (with_reducible refine wcond_not ?_) | ((with_reducible refine wcond_dec (fun _ => ?_) (fun _ => ?_)) <;> try (exfalso; omega)) | (with_reducible refine wcond_split (fun _ => ?_) (fun _ => ?_)) | (with_reducible refine draw_ro (by kernel_rfl) ?_) | simp +contextual -implicitDefEqProofs (disch := first | exact dsc _ | fail) only [go_sem, ↓reduceIte, Nat.reduceEqDiff, Nat.reduceAdd, Nat.reduceMul, Nat.reduceSub, Nat.reduceLT, Nat.reduceLeDiff, Nat.reduceBEq, reduceCtorEq, BEq.rfl, Int.reduceLT, Int.reduceLE, Int.reduceAdd, Int.reduceToNat, Int.reduceSub, Int.reduceMul, Int.reduceNeg, Int.reduceEq, *, existV] | (with_reducible refine And.intro (by first | omega | assumption | rfl) ?_))
  all_goals ((first | refine Fin_v1 (by rfl) ?_ | refine Fin_vn (by intro h; cases h) ?_ | refine Fin_f1 (by rfl) ?_ | refine Fin_fn (by intro h; cases h) (fun _ => rfl) ?_ | refine Fin_u1 (by rfl) ?_ | refine Fin_un (by intro h; cases h) ?_); try simp +contextual -implicitDefEqProofs (disch := first | exact dsc _ | fail) only [go_sem, push_cast, ↓reduceIte, Nat.reduceEqDiff, Nat.reduceAdd, Nat.reduceMul, Nat.reduceSub, Nat.reduceLT, Nat.reduceLeDiff, Nat.reduceBEq, reduceCtorEq, BEq.rfl, Int.reduceLT, Int.reduceLE, Int.reduceAdd, Int.reduceToNat, Int.reduceSub, Int.reduceMul, Int.reduceNeg, Int.reduceEq, *])
attribute [go_sem ↓] t_disk_Disk_change_n
theorem t_disk_Disk_change_s {rd rm rf rr : Id} {M : filesA} {n b : List UInt8} {left dur : Int} (hl : look M n = some rf) (hb : b.length ≤ 35184372080000) (hne : ¬ rd = rm ∧ ¬ rm = rd) (hn : ¬ n = []) (h1 : ¬ rf = rd ∧ ¬ rd = rf) (h2 : ¬ rf = rm ∧ ¬ rm = rf) (h3 : ¬ rr = rd ∧ ¬ rd = rr) (h4 : ¬ rr = rm ∧ ¬ rm = rr) (h5 : ¬ rr = rf ∧ ¬ rf = rr) : FnG Tryz.prog 87 [.ptr rd [], .str n, .func 89 [] []] (diskH rd rm M false false left ++ fileH rf rr b dur) (.upd (.int .i64 0) (diskH rd rm M false false left ++ fileH rf rr b b.length)) = True := by
  refine eq_true ?_
  refine FnG_of_W (sp := spL [(85, sp_disk_Disk_existing), (48, sp_disk_Disk_write), (89, sp_disk_Disk_Sync_1), (88, sp_disk_Disk_Remove_1), (90, sp_disk_Disk_Rename_1)]) (tb := tbOf Tryz.prog) (tbOf_ok _) (by kernel_rfl) Tryz.func87 (c := _) rfl (by kernel_rfl) (by kernel_rfl) (Nat.le_of_ble_eq_true rfl) (rs := [.tmp 6]) rfl ?_
  unfold FnW
  unfold diskH fileH
  repeat' (first | (with_reducible intro _) | (with_reducible refine wcond_not ?_) | ((with_reducible refine wcond_dec (fun _ => ?_) (fun _ => ?_)) <;> try (exfalso; omega)) | (with_reducible refine wcond_split (fun _ => ?_) (fun _ => ?_)) | (with_reducible refine draw_ro (by kernel_rfl) ?_) | simp +contextual -implicitDefEqProofs (disch := first | exact dsc _ | fail) only [go_sem, ↓reduceIte, Nat.reduceEqDiff, Nat.reduceAdd, Nat.reduceMul, Nat.reduceSub, Nat.reduceLT, Nat.reduceLeDiff, Nat.reduceBEq, reduceCtorEq, BEq.rfl, Int.reduceLT, Int.reduceLE, Int.reduceAdd, Int.reduceToNat, Int.reduceSub, Int.reduceMul, Int.reduceNeg, Int.reduceEq, *, existV] | (with_reducible refine And.intro (by first | omega | assumption | rfl) ?_))
  all_goals ((first | refine Fin_v1 (by rfl) ?_ | refine Fin_vn (by intro h; cases h) ?_ | refine Fin_f1 (by rfl) ?_ | refine Fin_fn (by intro h; cases h) (fun _ => rfl) ?_ | refine Fin_u1 (by rfl) ?_ | refine Fin_un (by intro h; cases h) ?_); try simp +contextual -implicitDefEqProofs (disch := first | exact dsc _ | fail) only [go_sem, push_cast, ↓reduceIte, Nat.reduceEqDiff, Nat.reduceAdd, Nat.reduceMul, Nat.reduceSub, Nat.reduceLT, Nat.reduceLeDiff, Nat.reduceBEq, reduceCtorEq, BEq.rfl, Int.reduceLT, Int.reduceLE, Int.reduceAdd, Int.reduceToNat, Int.reduceSub, Int.reduceMul, Int.reduceNeg, Int.reduceEq, *])
attribute [go_sem ↓] t_disk_Disk_change_s
theorem t_disk_Disk_change_r {rf rd rm c1 c2 : Id} {M : filesA} {n : List UInt8} {left : Int} (hl : look M n = some rf) (hn : ¬ n = []) (h1 : ¬ rd = rm ∧ ¬ rm = rd) (h2 : ¬ c1 = rm ∧ ¬ rm = c1) (h3 : ¬ c2 = rm ∧ ¬ rm = c2) (h4 : ¬ c1 = rd ∧ ¬ rd = c1) (h5 : ¬ c2 = rd ∧ ¬ rd = c2) (h6 : ¬ c1 = c2 ∧ ¬ c2 = c1) : FnG Tryz.prog 87 [.ptr rd [], .str n, .func 88 [] [.ptr c1 [], .ptr c2 []]] (rmH c1 c2 rd n ++ diskH rd rm M false false left) (.upd (.int .i64 0) (diskH rd rm (del M n) false false left)) = True := by
  refine eq_true ?_
  refine FnG_of_W (sp := spL [(85, sp_disk_Disk_existing), (48, sp_disk_Disk_write), (89, sp_disk_Disk_Sync_1), (88, sp_disk_Disk_Remove_1), (90, sp_disk_Disk_Rename_1)]) (tb := tbOf Tryz.prog) (tbOf_ok _) (by kernel_rfl) Tryz.func87 (c := _) rfl (by kernel_rfl) (by kernel_rfl) (Nat.le_of_ble_eq_true rfl) (rs := [.tmp 6]) rfl ?_
  unfold FnW
  unfold diskH rmH
  repeat' (first | (with_reducible intro _) | (with_reducible refine wcond_not ?_) | ((with_reducible refine wcond_dec (fun _ => ?_) (fun _ => ?_)) <;> try (exfalso; omega)) | (with_reducible refine wcond_split (fun _ => ?_) (fun _ => ?_)) | (with_reducible refine draw_ro (by kernel_rfl) ?_) | simp +contextual -implicitDefEqProofs (disch := first | exact dsc _ | fail) only [go_sem, ↓reduceIte, Nat.reduceEqDiff, Nat.reduceAdd, Nat.reduceMul, Nat.reduceSub, Nat.reduceLT, Nat.reduceLeDiff, Nat.reduceBEq, reduceCtorEq, BEq.rfl, Int.reduceLT, Int.reduceLE, Int.reduceAdd, Int.reduceToNat, Int.reduceSub, Int.reduceMul, Int.reduceNeg, Int.reduceEq, *, existV] | (with_reducible refine And.intro (by first | omega | assumption | rfl) ?_))
  all_goals ((first | refine Fin_v1 (by rfl) ?_ | refine Fin_vn (by intro h; cases h) ?_ | refine Fin_f1 (by rfl) ?_ | refine Fin_fn (by intro h; cases h) (fun _ => rfl) ?_ | refine Fin_u1 (by rfl) ?_ | refine Fin_un (by intro h; cases h) ?_); try simp +contextual -implicitDefEqProofs (disch := first | exact dsc _ | fail) only [go_sem, push_cast, ↓reduceIte, Nat.reduceEqDiff, Nat.reduceAdd, Nat.reduceMul, Nat.reduceSub, Nat.reduceLT, Nat.reduceLeDiff, Nat.reduceBEq, reduceCtorEq, BEq.rfl, Int.reduceLT, Int.reduceLE, Int.reduceAdd, Int.reduceToNat, Int.reduceSub, Int.reduceMul, Int.reduceNeg, Int.reduceEq, *])
attribute [go_sem ↓] t_disk_Disk_change_r
theorem t_disk_Disk_change_m {rf rd rm c1 c2 c3 : Id} {M : filesA} {n m : List UInt8} {left : Int} (hl : look M n = some rf) (hn : ¬ n = []) (h1 : ¬ rd = rm ∧ ¬ rm = rd) (h2 : ¬ c1 = rm ∧ ¬ rm = c1) (h3 : ¬ c2 = rm ∧ ¬ rm = c2) (h4 : ¬ c1 = rd ∧ ¬ rd = c1) (h5 : ¬ c2 = rd ∧ ¬ rd = c2) (h6 : ¬ c1 = c2 ∧ ¬ c2 = c1)
   (h7 : ¬ c3 = rm ∧ ¬ rm = c3) (h8 : ¬ c3 = rd ∧ ¬ rd = c3) (h9 : ¬ c3 = c1 ∧ ¬ c1 = c3) (h10 : ¬ c3 = c2 ∧ ¬ c2 = c3) : FnG Tryz.prog 87 [.ptr rd [], .str n, .func 90 [] [.ptr c1 [], .ptr c2 [], .ptr c3 []]] (mvH c1 c2 c3 rd n m ++ diskH rd rm M false false left) (.upd (.int .i64 0) (diskH rd rm (put (del M n) m rf) false false left)) = True := by
  refine eq_true ?_
  refine FnG_of_W (sp := spL [(85, sp_disk_Disk_existing), (48, sp_disk_Disk_write), (89, sp_disk_Disk_Sync_1), (88, sp_disk_Disk_Remove_1), (90, sp_disk_Disk_Rename_1)]) (tb := tbOf Tryz.prog) (tbOf_ok _) (by kernel_rfl) Tryz.func87 (c := _) rfl (by kernel_rfl) (by kernel_rfl) (Nat.le_of_ble_eq_true rfl) (rs := [.tmp 6]) rfl ?_
  unfold FnW
  unfold diskH mvH
  repeat' (first | (with_reducible intro _) | (with_reducible refine wcond_not ?_) | ((with_reducible refine wcond_dec (fun _ => ?_) (fun _ => ?_)) <;> try (exfalso; omega)) | (with_reducible refine wcond_split (fun _ => ?_) (fun _ => ?_)) | (with_reducible refine draw_ro (by kernel_rfl) ?_) | simp +contextual -implicitDefEqProofs (disch := first | exact dsc _ | fail) only [go_sem, ↓reduceIte, Nat.reduceEqDiff, Nat.reduceAdd, Nat.reduceMul, Nat.reduceSub, Nat.reduceLT, Nat.reduceLeDiff, Nat.reduceBEq, reduceCtorEq, BEq.rfl, Int.reduceLT, Int.reduceLE, Int.reduceAdd, Int.reduceToNat, Int.reduceSub, Int.reduceMul, Int.reduceNeg, Int.reduceEq, *, existV] | (with_reducible refine And.intro (by first | omega | assumption | rfl) ?_))
  all_goals ((first | refine Fin_v1 (by rfl) ?_ | refine Fin_vn (by intro h; cases h) ?_ | refine Fin_f1 (by rfl) ?_ | refine Fin_fn (by intro h; cases h) (fun _ => rfl) ?_ | refine Fin_u1 (by rfl) ?_ | refine Fin_un (by intro h; cases h) ?_); try simp +contextual -implicitDefEqProofs (disch := first | exact dsc _ | fail) only [go_sem, push_cast, ↓reduceIte, Nat.reduceEqDiff, Nat.reduceAdd, Nat.reduceMul, Nat.reduceSub, Nat.reduceLT, Nat.reduceLeDiff, Nat.reduceBEq, reduceCtorEq, BEq.rfl, Int.reduceLT, Int.reduceLE, Int.reduceAdd, Int.reduceToNat, Int.reduceSub, Int.reduceMul, Int.reduceNeg, Int.reduceEq, *])
attribute [go_sem ↓] t_disk_Disk_change_m
end Go.Am.Tryz
set_option maxRecDepth 100000
set_option linter.unusedSimpArgs false
set_option linter.unusedVariables false
set_option pp.maxSteps 2000
set_option maxHeartbeats 4000000
namespace Go.Am.Tryz
open Go.Proofs
theorem nt_nil : notTups [] = true := rfl
theorem nt_ptr {r : Id} {p : List Stp} {l : List AV} : notTups (.ptr r p :: l) = notTups l := by simp [notTups, notTup]
attribute [go_sem] nt_nil nt_ptr
def sp_disk_Disk_Remove (args : List AV) : RM CallSpec := match args with
  | [d, .str n] => diskM d fun rd rm M off armed left => (match look M n with
    | none => mkS [.ptr rd [], .str n] (diskH rd rm M false armed left) (.val (.int .i64 6)) false
    | some rf => mkS [.ptr rd [], .str n] (diskH rd rm M false false left) (.upd (.int .i64 0) (diskH rd rm (del M n) false false left)) false)
  | _ => .fail
attribute [go_sem] sp_disk_Disk_Remove
theorem t_disk_Disk_Remove_n {rd rm : Id} {M : filesA} {n : List UInt8} {armed : Bool} {left : Int} (hl : look M n = none) (hne : ¬ rd = rm ∧ ¬ rm = rd) (hn : ¬ n = []) : FnG Tryz.prog 49 [.ptr rd [], .str n] (diskH rd rm M false armed left) (.val (.int .i64 6)) = True := by
  refine eq_true ?_
  refine FnG_of_W (sp := spL [(87, sp_disk_Disk_change)]) (tb := tbOf Tryz.prog) (tbOf_ok _) (by kernel_rfl) Tryz.func49 (c := _) rfl (by kernel_rfl) (by kernel_rfl) (Nat.le_of_ble_eq_true rfl) (rs := [.tmp 4]) rfl ?_
  unfold FnW
  unfold diskH
  repeat' (first | (with_reducible intro _) | (with_reducible refine wcond_not ?_) | ((with_reducible refine wcond_dec (fun _ => ?_) (fun _ => ?_)) <;> try (exfalso; omega)) | (with_reducible refine wcond_split (fun _ => ?_) (fun _ => ?_)) | (with_reducible refine draw_ro (by kernel_rfl) ?_) | simp +contextual -implicitDefEqProofs (disch := first | exact dsc _ | fail) only [go_sem, ↓reduceIte, Nat.reduceEqDiff, Nat.reduceAdd, Nat.reduceMul, Nat.reduceSub, Nat.reduceLT, Nat.reduceLeDiff, Nat.reduceBEq, reduceCtorEq, BEq.rfl, Int.reduceLT, Int.reduceLE, Int.reduceAdd, Int.reduceToNat, Int.reduceSub, Int.reduceMul, Int.reduceNeg, Int.reduceEq, *] | (with_reducible refine And.intro (by first | omega | assumption | rfl) ?_))
  all_goals ((first | refine Fin_v1 (by rfl) ?_ | refine Fin_vn (by intro h; cases h) ?_ | refine Fin_f1 (by rfl) ?_ | refine Fin_fn (by intro h; cases h) (fun _ => rfl) ?_ | refine Fin_u1 (by rfl) ?_ | refine Fin_un (by intro h; cases h) ?_); try simp +contextual -implicitDefEqProofs (disch := first | exact dsc _ | fail) only [go_sem, push_cast, ↓reduceIte, Nat.reduceEqDiff, Nat.reduceAdd, Nat.reduceMul, Nat.reduceSub, Nat.reduceLT, Nat.reduceLeDiff, Nat.reduceBEq, reduceCtorEq, BEq.rfl, Int.reduceLT, Int.reduceLE, Int.reduceAdd, Int.reduceToNat, Int.reduceSub, Int.reduceMul, Int.reduceNeg, Int.reduceEq, *])
attribute [go_sem ↓] t_disk_Disk_Remove_n
theorem t_disk_Disk_Remove_y {rd rm rf : Id} {M : filesA} {n : List UInt8} {left : Int} (hl : look M n = some rf) (hne : ¬ rd = rm ∧ ¬ rm = rd) (hn : ¬ n = []) : FnG Tryz.prog 49 [.ptr rd [], .str n] (diskH rd rm M false false left) (.upd (.int .i64 0) (diskH rd rm (del M n) false false left)) = True := by
  refine eq_true ?_
  refine FnG_of_W (sp := spL [(87, sp_disk_Disk_change)]) (tb := tbOf Tryz.prog) (tbOf_ok _) (by kernel_rfl) Tryz.func49 (c := _) rfl (by kernel_rfl) (by kernel_rfl) (Nat.le_of_ble_eq_true rfl) (rs := [.tmp 4]) rfl ?_
  unfold FnW
  unfold diskH
  repeat' (first | (with_reducible intro _) | (with_reducible refine wcond_not ?_) | ((with_reducible refine wcond_dec (fun _ => ?_) (fun _ => ?_)) <;> try (exfalso; omega)) | (with_reducible refine wcond_split (fun _ => ?_) (fun _ => ?_)) | (with_reducible refine draw_ro (by kernel_rfl) ?_) | simp +contextual -implicitDefEqProofs (disch := first | exact dsc _ | fail) only [go_sem, ↓reduceIte, Nat.reduceEqDiff, Nat.reduceAdd, Nat.reduceMul, Nat.reduceSub, Nat.reduceLT, Nat.reduceLeDiff, Nat.reduceBEq, reduceCtorEq, BEq.rfl, Int.reduceLT, Int.reduceLE, Int.reduceAdd, Int.reduceToNat, Int.reduceSub, Int.reduceMul, Int.reduceNeg, Int.reduceEq, *] | (with_reducible refine And.intro (by first | omega | assumption | rfl) ?_))
  all_goals ((first | refine Fin_v1 (by rfl) ?_ | refine Fin_vn (by intro h; cases h) ?_ | refine Fin_f1 (by rfl) ?_ | refine Fin_fn (by intro h; cases h) (fun _ => rfl) ?_ | refine Fin_u1 (by rfl) ?_ | refine Fin_un (by intro h; cases h) ?_); try simp +contextual -implicitDefEqProofs (disch := first | exact dsc _ | fail) only [go_sem, push_cast, ↓reduceIte, Nat.reduceEqDiff, Nat.reduceAdd, Nat.reduceMul, Nat.reduceSub, Nat.reduceLT, Nat.reduceLeDiff, Nat.reduceBEq, reduceCtorEq, BEq.rfl, Int.reduceLT, Int.reduceLE, Int.reduceAdd, Int.reduceToNat, Int.reduceSub, Int.reduceMul, Int.reduceNeg, Int.reduceEq, *])
attribute [go_sem ↓] t_disk_Disk_Remove_y
def sp_disk_Disk_Sync (args : List AV) : RM CallSpec := match args with
  | [d, .str n] => diskM d fun rd rm M off armed left => (match look M n with
    | none => mkS [.ptr rd [], .str n] (diskH rd rm M false armed left) (.val (.int .i64 6)) false
    | some rf => fileM rf fun rr b dur => mkS [.ptr rd [], .str n] (diskH rd rm M false false left ++ fileH rf rr b dur) (.upd (.int .i64 0) (diskH rd rm M false false left ++ fileH rf rr b b.length)) false)
  | _ => .fail
attribute [go_sem] sp_disk_Disk_Sync
theorem t_disk_Disk_Sync_y {rd rm rf rr : Id} {M : filesA} {n b : List UInt8} {left dur : Int} (hl : look M n = some rf) (hb : b.length ≤ 35184372080000) (hne : ¬ rd = rm ∧ ¬ rm = rd) (hn : ¬ n = []) (h1 : ¬ rf = rd ∧ ¬ rd = rf) (h2 : ¬ rf = rm ∧ ¬ rm = rf) (h3 : ¬ rr = rd ∧ ¬ rd = rr) (h4 : ¬ rr = rm ∧ ¬ rm = rr) (h5 : ¬ rr = rf ∧ ¬ rf = rr) : FnG Tryz.prog 50 [.ptr rd [], .str n] (diskH rd rm M false false left ++ fileH rf rr b dur) (.upd (.int .i64 0) (diskH rd rm M false false left ++ fileH rf rr b b.length)) = True := by
  refine eq_true ?_
  refine FnG_of_W (sp := spL [(87, sp_disk_Disk_change), (89, sp_disk_Disk_Sync_1)]) (tb := tbOf Tryz.prog) (tbOf_ok _) (by kernel_rfl) Tryz.func50 (c := _) rfl (by kernel_rfl) (by kernel_rfl) (Nat.le_of_ble_eq_true rfl) (rs := [.tmp 4]) rfl ?_
  unfold FnW
  unfold diskH fileH
  repeat' (first | (with_reducible intro _) | (with_reducible refine wcond_not ?_) | ((with_reducible refine wcond_dec (fun _ => ?_) (fun _ => ?_)) <;> try (exfalso; omega)) | (with_reducible refine wcond_split (fun _ => ?_) (fun _ => ?_)) | (with_reducible refine draw_ro (by kernel_rfl) ?_) | simp +contextual -implicitDefEqProofs (disch := first | exact dsc _ | fail) only [go_sem, ↓reduceIte, Nat.reduceEqDiff, Nat.reduceAdd, Nat.reduceMul, Nat.reduceSub, Nat.reduceLT, Nat.reduceLeDiff, Nat.reduceBEq, reduceCtorEq, BEq.rfl, Int.reduceLT, Int.reduceLE, Int.reduceAdd, Int.reduceToNat, Int.reduceSub, Int.reduceMul, Int.reduceNeg, Int.reduceEq, *] | (with_reducible refine And.intro (by first | omega | assumption | rfl) ?_))
  all_goals ((first | refine Fin_v1 (by rfl) ?_ | refine Fin_vn (by intro h; cases h) ?_ | refine Fin_f1 (by rfl) ?_ | refine Fin_fn (by intro h; cases h) (fun _ => rfl) ?_ | refine Fin_u1 (by rfl) ?_ | refine Fin_un (by intro h; cases h) ?_); try simp +contextual -implicitDefEqProofs (disch := first | exact dsc _ | fail) only [go_sem, push_cast, ↓reduceIte, Nat.reduceEqDiff, Nat.reduceAdd, Nat.reduceMul, Nat.reduceSub, Nat.reduceLT, Nat.reduceLeDiff, Nat.reduceBEq, reduceCtorEq, BEq.rfl, Int.reduceLT, Int.reduceLE, Int.reduceAdd, Int.reduceToNat, Int.reduceSub, Int.reduceMul, Int.reduceNeg, Int.reduceEq, *])
attribute [go_sem ↓] t_disk_Disk_Sync_y
def sp_disk_Disk_Rename (args : List AV) : RM CallSpec := match args with
  | [d, .str n, .str m] => diskM d fun rd rm M off armed left => (match look M n with
    | none => mkS [.ptr rd [], .str n, .str m] (diskH rd rm M false armed left) (.val (.int .i64 6)) false
    | some rf => mkS [.ptr rd [], .str n, .str m] (diskH rd rm M false false left) (.upd (.int .i64 0) (diskH rd rm (put (del M n) m rf) false false left)) false)
  | _ => .fail
attribute [go_sem] sp_disk_Disk_Rename
theorem t_disk_Disk_Rename_y {rd rm rf : Id} {M : filesA} {n m : List UInt8} {left : Int} (hl : look M n = some rf) (hne : ¬ rd = rm ∧ ¬ rm = rd) (hn : ¬ n = []) (hm : ¬ m = []) : FnG Tryz.prog 51 [.ptr rd [], .str n, .str m] (diskH rd rm M false false left) (.upd (.int .i64 0) (diskH rd rm (put (del M n) m rf) false false left)) = True := by
  refine eq_true ?_
  refine FnG_of_W (sp := spL [(87, sp_disk_Disk_change)]) (tb := tbOf Tryz.prog) (tbOf_ok _) (by kernel_rfl) Tryz.func51 (c := _) rfl (by kernel_rfl) (by kernel_rfl) (Nat.le_of_ble_eq_true rfl) (rs := [.tmp 6]) rfl ?_
  unfold FnW
  unfold diskH
  repeat' (first | (with_reducible intro _) | (with_reducible refine wcond_not ?_) | ((with_reducible refine wcond_dec (fun _ => ?_) (fun _ => ?_)) <;> try (exfalso; omega)) | (with_reducible refine wcond_split (fun _ => ?_) (fun _ => ?_)) | (with_reducible refine draw_ro (by kernel_rfl) ?_) | simp +contextual -implicitDefEqProofs (disch := first | exact dsc _ | fail) only [go_sem, ↓reduceIte, Nat.reduceEqDiff, Nat.reduceAdd, Nat.reduceMul, Nat.reduceSub, Nat.reduceLT, Nat.reduceLeDiff, Nat.reduceBEq, reduceCtorEq, BEq.rfl, Int.reduceLT, Int.reduceLE, Int.reduceAdd, Int.reduceToNat, Int.reduceSub, Int.reduceMul, Int.reduceNeg, Int.reduceEq, *] | (with_reducible refine And.intro (by first | omega | assumption | rfl) ?_))
  all_goals ((first | refine Fin_v1 (by rfl) ?_ | refine Fin_vn (by intro h; cases h) ?_ | refine Fin_f1 (by rfl) ?_ | refine Fin_fn (by intro h; cases h) (fun _ => rfl) ?_ | refine Fin_u1 (by rfl) ?_ | refine Fin_un (by intro h; cases h) ?_); try simp +contextual -implicitDefEqProofs (disch := first | exact dsc _ | fail) only [go_sem, push_cast, ↓reduceIte, Nat.reduceEqDiff, Nat.reduceAdd, Nat.reduceMul, Nat.reduceSub, Nat.reduceLT, Nat.reduceLeDiff, Nat.reduceBEq, reduceCtorEq, BEq.rfl, Int.reduceLT, Int.reduceLE, Int.reduceAdd, Int.reduceToNat, Int.reduceSub, Int.reduceMul, Int.reduceNeg, Int.reduceEq, *])
attribute [go_sem ↓] t_disk_Disk_Rename_y
end Go.Am.Tryz
set_option maxRecDepth 100000
set_option linter.unusedSimpArgs false
set_option linter.unusedVariables false
set_option pp.maxSteps 2000
set_option maxHeartbeats 4000000
namespace Go.Am
theorem r_pick2 {H : Heap} {K : List Id → Prop} : pickIds H [none, none] [] K = ∀ r, freshBut none H r → ∀ r', freshBut none H r' → (¬ r = r' ∧ ¬ r' = r) → K [r, r'] := by
  simp only [pickIds, notIn]
  apply propext
  constructor
  · intro h r h1 r' h2 h3
    exact h r h1 (by simp) r' h2 ⟨h3, trivial⟩
  · intro h r h1 _ r' h2 h3
    exact h r h1 r' h2 h3.1
theorem f2_ch {f : Id → Id → AV × Heap} : (Out.fresh2 f).ch = [none, none] := rfl
theorem f2_f {f : Id → Id → AV × Heap} {r r' : Id} : (Out.fresh2 f).f [r, r'] = f r r' := rfl
theorem r_fresh2 {T H d f K} : evalOut ⟨T, H⟩ (some d) (.fresh2 f) K = ∀ r, freshBut none H r → ∀ r', freshBut none H r' → (¬ r = r' ∧ ¬ r' = r) → K ⟨(d, (f r r').1) :: T, (f r r').2 ++ H⟩ := by
  exact r_pick2 (K := fun ids => K ⟨(d, (f (id0 ids) (id1 ids)).1) :: T, (f (id0 ids) (id1 ids)).2 ++ H⟩)
attribute [go_sem] r_pick2 f2_ch f2_f r_fresh2
end Go.Am
namespace Go.Am.Tryz
open Go.Proofs
theorem look_put {n : List UInt8} {f : Id} : ∀ {M : filesA}, look (put M n f) n = some f
  | [] => by simp [put, look]
  | (k, r) :: M => by
    unfold put
    by_cases h : n = k
    · simp [h, look]
    · simp [h, look, look_put]
theorem del_put {n : List UInt8} {f : Id} : ∀ {M : filesA}, look M n = none → del (put M n f) n = M
  | [], _ => by simp [put, del]
  | (k, r) :: M, hl => by
    unfold put
    by_cases h : n = k
    · simp [look, h] at hl
    · simp [look, h] at hl
      simp [h, del, del_put hl]
attribute [go_sem] look_put
theorem t_disk_Disk_Sync_p {rd rm rf rr : Id} {M : filesA} {n b : List UInt8} {left dur : Int} (hb : b.length ≤ 35184372080000) (hne : ¬ rd = rm ∧ ¬ rm = rd) (hn : ¬ n = []) (h1 : ¬ rf = rd ∧ ¬ rd = rf) (h2 : ¬ rf = rm ∧ ¬ rm = rf) (h3 : ¬ rr = rd ∧ ¬ rd = rr) (h4 : ¬ rr = rm ∧ ¬ rm = rr) (h5 : ¬ rr = rf ∧ ¬ rf = rr) : FnG Tryz.prog 50 [.ptr rd [], .str n] (diskH rd rm (put M n rf) false false left ++ fileH rf rr b dur) (.upd (.int .i64 0) (diskH rd rm (put M n rf) false false left ++ fileH rf rr b b.length)) = True :=
  t_disk_Disk_Sync_y look_put hb hne hn h1 h2 h3 h4 h5
attribute [go_sem ↓] t_disk_Disk_Sync_p
theorem t_disk_Disk_Rename_p {rd rm rf : Id} {M : filesA} {n m : List UInt8} {left : Int} (hne : ¬ rd = rm ∧ ¬ rm = rd) (hn : ¬ n = []) (hm : ¬ m = []) : FnG Tryz.prog 51 [.ptr rd [], .str n, .str m] (diskH rd rm (put M n rf) false false left) (.upd (.int .i64 0) (diskH rd rm (put (del (put M n rf) n) m rf) false false left)) = True :=
  t_disk_Disk_Rename_y look_put hne hn hm
attribute [go_sem ↓] t_disk_Disk_Rename_p
theorem flat_le {α β : Type} {f : α → List β} {c : Nat} : ∀ {l : List α}, (∀ x, x ∈ l → (f x).length ≤ c) → (l.flatMap f).length ≤ l.length * c
  | [], _ => by simp
  | x :: l, h => by
    rw [List.flatMap_cons, List.length_append, List.length_cons, Nat.succ_mul]
    have h1 := h x (List.mem_cons_self ..)
    have h2 := flat_le (l := l) (f := f) (c := c) fun y hy => h y (List.mem_cons_of_mem _ hy)
    omega
theorem bytesW_small {v : View} (h : smallW v) : (bytesW v).length ≤ 35184372080000 := by
  obtain ⟨h1, h2, h3, h4⟩ := h
  have e1 := flat_le (l := v.votes) (f := encS) (c := 1000023) fun s hs => by rw [encS_len]; have := h3 s hs; omega
  have e2 := flat_le (l := v.texts) (f := encT) (c := 10000002) fun s hs => by rw [encT_len]; have := h4 s hs; omega
  have e3 : v.votes.length * 1000023 ≤ 1000000 * 1000023 := Nat.mul_le_mul_right _ h1
  have e4 : v.texts.length * 10000002 ≤ 1000000 * 10000002 := Nat.mul_le_mul_right _ h2
  simp only [bytesW, List.length_append, be_len]
  omega
def dotNew : List UInt8 := [46, 110, 101, 119]
def wrOut (rd rm : Id) (M : filesA) (left : Int) (n : List UInt8) (v : View) : Out := .fresh2 fun rf rr => (.int .i64 0, fileH rf rr (bytesW v) (bytesW v).length ++ diskH rd rm (put M n rf) false false left)
def sp_snapshot_Write (args : List AV) : RM CallSpec := match args with
  | [d, .str n, w] => diskM d fun rd rm M off armed left => (viewM w).bind fun v => mkS [.ptr rd [], .str n, viewA v] (diskH rd rm M false false left) (wrOut rd rm M left n v) false
  | _ => .fail
attribute [go_sem] sp_snapshot_Write
theorem t_snapshot_Write_y {rd rm : Id} {M : filesA} {n : List UInt8} {left : Int} {v : View} (he : errW v = 0) (hs : smallW v) (hl : look M (n ++ [46, 110, 101, 119]) = none) (hne : ¬ rd = rm ∧ ¬ rm = rd) (hn : ¬ n = []) (hnl : n.length ≤ 1000000) : FnG Tryz.prog 17 [.ptr rd [], .str n, viewA v] (diskH rd rm M false false left) (wrOut rd rm M left n v) = True := by
  refine eq_true ?_
  refine FnG_of_W (sp := spL [(9, sp_snapshot_Encode), (49, sp_disk_Disk_Remove), (16, sp_disk_Disk_Append), (50, sp_disk_Disk_Sync), (51, sp_disk_Disk_Rename)]) (tb := tbOf Tryz.prog) (tbOf_ok _) (by kernel_rfl) Tryz.func17 (c := _) rfl (by kernel_rfl) (by kernel_rfl) (Nat.le_of_ble_eq_true rfl) (rs := [.tmp 6]) rfl ?_
  unfold FnW
  unfold diskH
  have ht : ¬ n ++ [46, 110, 101, 119] = [] := by simp
  have hd : ∀ f, del (put M (n ++ [46, 110, 101, 119]) f) (n ++ [46, 110, 101, 119]) = M := fun f => del_put hl
  have hbl : (bytesW v).length ≤ 35184372080000 := bytesW_small hs
  generalize hT : n ++ [46, 110, 101, 119] = tmp at *
  generalize hB : bytesW v = b at *
  repeat' (first | (with_reducible intro _) | (with_reducible refine wcond_not ?_) | ((with_reducible refine wcond_dec (fun _ => ?_) (fun _ => ?_)) <;> try (exfalso; omega)) | (with_reducible refine wcond_split (fun _ => ?_) (fun _ => ?_)) | (with_reducible refine draw_ro (by kernel_rfl) ?_) | simp +contextual -implicitDefEqProofs (disch := first | exact dsc _ | fail) only [go_sem, ↓reduceIte, Nat.reduceEqDiff, Nat.reduceAdd, Nat.reduceMul, Nat.reduceSub, Nat.reduceLT, Nat.reduceLeDiff, Nat.reduceBEq, reduceCtorEq, BEq.rfl, Int.reduceLT, Int.reduceLE, Int.reduceAdd, Int.reduceToNat, Int.reduceSub, Int.reduceMul, Int.reduceNeg, Int.reduceEq, *, appOut] | (with_reducible refine And.intro (by first | omega | assumption | rfl) ?_))
  rename_i rf h1 rr h2 h3
  refine Fin_g1 rf rr (by rfl) ?_
  simp +contextual -implicitDefEqProofs (disch := first | exact dsc _ | fail) only [go_sem, push_cast, ↓reduceIte, Nat.reduceEqDiff, Nat.reduceAdd, Nat.reduceMul, Nat.reduceSub, Nat.reduceLT, Nat.reduceLeDiff, Nat.reduceBEq, reduceCtorEq, BEq.rfl, Int.reduceLT, Int.reduceLE, Int.reduceAdd, Int.reduceToNat, Int.reduceSub, Int.reduceMul, Int.reduceNeg, Int.reduceEq, *, wrOut, idsOk, fileH]
attribute [go_sem ↓] t_snapshot_Write_y
end Go.Am.Tryz
set_option maxRecDepth 100000
set_option linter.unusedSimpArgs false
set_option linter.unusedVariables false
set_option pp.maxSteps 2000
set_option maxHeartbeats 4000000
namespace Go.Am.Tryz
open Go.Proofs
def sp_bytes_Equal (args : List AV) : RM CallSpec := match args with
  | [x0, x1] => (bysM x0).bind fun a => (bysM x1).bind fun b => pureS [.list (bys a), .list (bys b)] (.bool (decide (a = b)))
  | _ => .fail
attribute [go_sem] sp_bytes_Equal
theorem t_bytes_Equal (a : List UInt8) (b : List UInt8)  : FnG Tryz.prog 65 [.list (bys a), .list (bys b)] [] (.val (.bool (decide (a = b)))) = True := by
  refine eq_true ?_
  refine FnG_of_W (sp := spL []) (tb := tbOf Tryz.prog) (tbOf_ok _) (by kernel_rfl) Tryz.func65 (c := _) rfl (by kernel_rfl) (by kernel_rfl) (Nat.le_of_ble_eq_true rfl) (rs := [.tmp 4]) rfl ?_
  unfold FnW
  repeat' (first | (with_reducible intro _) | (with_reducible refine wcond_not ?_) | ((with_reducible refine wcond_dec (fun _ => ?_) (fun _ => ?_)) <;> try (exfalso; omega)) | (with_reducible refine wcond_split (fun _ => ?_) (fun _ => ?_)) | (with_reducible refine draw_ro (by kernel_rfl) ?_) | simp +contextual -implicitDefEqProofs (disch := first | exact dsc _ | fail) only [go_sem, ↓reduceIte, Nat.reduceEqDiff, Nat.reduceAdd, Nat.reduceMul, Nat.reduceSub, Nat.reduceLT, Nat.reduceLeDiff, Nat.reduceBEq, reduceCtorEq, BEq.rfl, Int.reduceLT, Int.reduceLE, Int.reduceAdd, Int.reduceToNat, Int.reduceSub, Int.reduceMul, Int.reduceNeg, Int.reduceEq, *] | (with_reducible refine And.intro (by first | omega | assumption | rfl) ?_))
  all_goals ((first | refine Fin_v1 (by rfl) ?_ | refine Fin_vn (by intro h; cases h) ?_ | refine Fin_f1 (by rfl) ?_ | refine Fin_fn (by intro h; cases h) (fun _ => rfl) ?_ | refine Fin_u1 (by rfl) ?_ | refine Fin_un (by intro h; cases h) ?_); try simp +contextual -implicitDefEqProofs (disch := first | exact dsc _ | fail) only [go_sem, push_cast, ↓reduceIte, Nat.reduceEqDiff, Nat.reduceAdd, Nat.reduceMul, Nat.reduceSub, Nat.reduceLT, Nat.reduceLeDiff, Nat.reduceBEq, reduceCtorEq, BEq.rfl, Int.reduceLT, Int.reduceLE, Int.reduceAdd, Int.reduceToNat, Int.reduceSub, Int.reduceMul, Int.reduceNeg, Int.reduceEq, *])
attribute [go_sem ↓] t_bytes_Equal
def sp_snapshot_equalVotes (args : List AV) : RM CallSpec := match args with
  | [x0, x1] => (opt (sgnD x0)).bind fun a => (opt (sgnD x1)).bind fun b => pureS [sgnA a, sgnA b] (.bool (decide (a.vote = b.vote) && decide (a.sig = b.sig)))
  | _ => .fail
attribute [go_sem] sp_snapshot_equalVotes
theorem t_snapshot_equalVotes (a : Sgn) (b : Sgn)  : FnG Tryz.prog 63 [sgnA a, sgnA b] [] (.val (.bool (decide (a.vote = b.vote) && decide (a.sig = b.sig)))) = True := by
  refine eq_true ?_
  refine FnG_of_W (sp := spL [(65, sp_bytes_Equal)]) (tb := tbOf Tryz.prog) (tbOf_ok _) (by kernel_rfl) Tryz.func63 (c := _) rfl (by kernel_rfl) (by kernel_rfl) (Nat.le_of_ble_eq_true rfl) (rs := [.tmp 4]) rfl ?_
  unfold FnW
  repeat' (first | (with_reducible intro _) | (with_reducible refine wcond_not ?_) | ((with_reducible refine wcond_dec (fun _ => ?_) (fun _ => ?_)) <;> try (exfalso; omega)) | (with_reducible refine wcond_split (fun _ => ?_) (fun _ => ?_)) | (with_reducible refine draw_ro (by kernel_rfl) ?_) | simp +contextual -implicitDefEqProofs (disch := first | exact dsc _ | fail) only [go_sem, ↓reduceIte, Nat.reduceEqDiff, Nat.reduceAdd, Nat.reduceMul, Nat.reduceSub, Nat.reduceLT, Nat.reduceLeDiff, Nat.reduceBEq, reduceCtorEq, BEq.rfl, Int.reduceLT, Int.reduceLE, Int.reduceAdd, Int.reduceToNat, Int.reduceSub, Int.reduceMul, Int.reduceNeg, Int.reduceEq, *] | (with_reducible refine And.intro (by first | omega | assumption | rfl) ?_))
  all_goals ((first | refine Fin_v1 (by rfl) ?_ | refine Fin_vn (by intro h; cases h) ?_ | refine Fin_f1 (by rfl) ?_ | refine Fin_fn (by intro h; cases h) (fun _ => rfl) ?_ | refine Fin_u1 (by rfl) ?_ | refine Fin_un (by intro h; cases h) ?_); try simp +contextual -implicitDefEqProofs (disch := first | exact dsc _ | fail) only [go_sem, push_cast, ↓reduceIte, Nat.reduceEqDiff, Nat.reduceAdd, Nat.reduceMul, Nat.reduceSub, Nat.reduceLT, Nat.reduceLeDiff, Nat.reduceBEq, reduceCtorEq, BEq.rfl, Int.reduceLT, Int.reduceLE, Int.reduceAdd, Int.reduceToNat, Int.reduceSub, Int.reduceMul, Int.reduceNeg, Int.reduceEq, *])
attribute [go_sem ↓] t_snapshot_equalVotes
def sp_slices_EqualFunc_S (args : List AV) : RM CallSpec := match args with
  | [x0, x1, f] => (sgnsM x0).bind fun a => (sgnsM x1).bind fun b => pureS [.list (a.map sgnA), .list (b.map sgnA), f] (.bool (decide (a = b)))
  | _ => .fail
attribute [go_sem] sp_slices_EqualFunc_S
def sp_slices_EqualFunc_B (args : List AV) : RM CallSpec := match args with
  | [x0, x1, f] => (txtsM x0).bind fun a => (txtsM x1).bind fun b => pureS [.list (a.map txtA), .list (b.map txtA), f] (.bool (decide (a = b)))
  | _ => .fail
attribute [go_sem] sp_slices_EqualFunc_B
theorem t_slices_EqualFunc_S {a b : List Sgn} (h1 : a.length ≤ 1000000000) (h2 : b.length ≤ 1000000000) : FnG Tryz.prog 62 [.list (a.map sgnA), .list (b.map sgnA), .func 63 [] []] [] (.val (.bool (decide (a = b)))) = True := by
  refine eq_true ?_
  refine FnG_of_W (sp := spL [(63, sp_snapshot_equalVotes)]) (tb := tbOf Tryz.prog) (tbOf_ok _) (by kernel_rfl) Tryz.func62 (c := _) rfl (by kernel_rfl) (by kernel_rfl) (Nat.le_of_ble_eq_true rfl) (rs := [.tmp 6]) rfl ?_
  unfold FnW
  by_cases hl : a.length = b.length
  · repeat' (first | (with_reducible intro _) | (with_reducible refine wcond_not ?_) | ((with_reducible refine wcond_dec (fun _ => ?_) (fun _ => ?_)) <;> try (exfalso; omega)) | (with_reducible refine wcond_split (fun _ => ?_) (fun _ => ?_)) | (with_reducible refine draw_ro (by kernel_rfl) ?_) | simp +contextual -implicitDefEqProofs (disch := first | exact dsc _ | fail) only [go_sem, ↓reduceIte, Nat.reduceEqDiff, Nat.reduceAdd, Nat.reduceMul, Nat.reduceSub, Nat.reduceLT, Nat.reduceLeDiff, Nat.reduceBEq, reduceCtorEq, BEq.rfl, Int.reduceLT, Int.reduceLE, Int.reduceAdd, Int.reduceToNat, Int.reduceSub, Int.reduceMul, Int.reduceNeg, Int.reduceEq, *] | (with_reducible refine And.intro (by first | omega | assumption | rfl) ?_))
    refine wloopW (α := Nat) (fun i => ⟨[(0, .list (a.map sgnA)), (1, .list (b.map sgnA)), (2, .func 63 [] []), (6, .bool false), (15, .list (a.map sgnA)), (16, .int .i64 a.length), (17, .int .i64 i)], []⟩) (fun i => i ≤ a.length ∧ a.take i = b.take i) (fun i => a.length - i) 0 ?_ ?_ ?_
    · simp
    · simp +contextual -implicitDefEqProofs (disch := first | exact dsc _ | fail) only [go_sem, push_cast, ↓reduceIte, Nat.reduceEqDiff, Nat.reduceAdd, Nat.reduceMul, Nat.reduceSub, Nat.reduceLT, Nat.reduceLeDiff, Nat.reduceBEq, reduceCtorEq, BEq.rfl, Int.reduceLT, Int.reduceLE, Int.reduceAdd, Int.reduceToNat, Int.reduceSub, Int.reduceMul, Int.reduceNeg, Int.reduceEq, *]
      all_goals simp
    · rintro i ⟨hi, he⟩
      have hi : i ≤ a.length := hi
      have he : a.take i = b.take i := he
      by_cases hlt : i < a.length
      · obtain ⟨x, hx⟩ := get_lt hlt
        obtain ⟨y, hy⟩ := get_lt (l := b) (n := i) (by omega)
        have hlt' : (i : Int) < (b.length : Int) := by omega
        repeat' (first | (with_reducible intro _) | (with_reducible refine wcond_not ?_) | ((with_reducible refine wcond_dec (fun _ => ?_) (fun _ => ?_)) <;> try (exfalso; omega)) | (with_reducible refine wcond_split (fun _ => ?_) (fun _ => ?_)) | (with_reducible refine draw_ro (by kernel_rfl) ?_) | simp +contextual -implicitDefEqProofs (disch := first | exact dsc _ | fail) only [go_sem, ↓reduceIte, Nat.reduceEqDiff, Nat.reduceAdd, Nat.reduceMul, Nat.reduceSub, Nat.reduceLT, Nat.reduceLeDiff, Nat.reduceBEq, reduceCtorEq, BEq.rfl, Int.reduceLT, Int.reduceLE, Int.reduceAdd, Int.reduceToNat, Int.reduceSub, Int.reduceMul, Int.reduceNeg, Int.reduceEq, *] | (with_reducible refine And.intro (by first | omega | assumption | rfl) ?_))
        · have hxy : x = y := by cases x; cases y; simp_all
          refine round_intro (i + 1) ⟨by omega, by rw [take_snoc hx, take_snoc hy, he, hxy]⟩ (by show _ - (i + 1) < _ - i; omega) ?_
          simp +contextual -implicitDefEqProofs (disch := first | exact dsc _ | fail) only [go_sem, push_cast, ↓reduceIte, Nat.reduceEqDiff, Nat.reduceAdd, Nat.reduceMul, Nat.reduceSub, Nat.reduceLT, Nat.reduceLeDiff, Nat.reduceBEq, reduceCtorEq, BEq.rfl, Int.reduceLT, Int.reduceLE, Int.reduceAdd, Int.reduceToNat, Int.reduceSub, Int.reduceMul, Int.reduceNeg, Int.reduceEq, *]
          try omega
        · have hxy : ¬ x = y := by rintro rfl; simp_all
          have : ¬ a = b := take_ne hx hy hxy
          ((first | refine Fin_v1 (by rfl) ?_ | refine Fin_vn (by intro h; cases h) ?_ | refine Fin_f1 (by rfl) ?_ | refine Fin_fn (by intro h; cases h) (fun _ => rfl) ?_ | refine Fin_u1 (by rfl) ?_ | refine Fin_un (by intro h; cases h) ?_); try simp +contextual -implicitDefEqProofs (disch := first | exact dsc _ | fail) only [go_sem, push_cast, ↓reduceIte, Nat.reduceEqDiff, Nat.reduceAdd, Nat.reduceMul, Nat.reduceSub, Nat.reduceLT, Nat.reduceLeDiff, Nat.reduceBEq, reduceCtorEq, BEq.rfl, Int.reduceLT, Int.reduceLE, Int.reduceAdd, Int.reduceToNat, Int.reduceSub, Int.reduceMul, Int.reduceNeg, Int.reduceEq, *, this])
      · have : a = b := by
          rw [List.take_of_length_le (by omega), List.take_of_length_le (by omega)] at he; exact he
        have hlt' : ¬ (i : Int) < (b.length : Int) := by omega
        have e : decide (a = b) = true := by simp [this]
        rw [e]
        clear this e
        repeat' (first | (with_reducible intro _) | (with_reducible refine wcond_not ?_) | ((with_reducible refine wcond_dec (fun _ => ?_) (fun _ => ?_)) <;> try (exfalso; omega)) | (with_reducible refine wcond_split (fun _ => ?_) (fun _ => ?_)) | (with_reducible refine draw_ro (by kernel_rfl) ?_) | simp +contextual -implicitDefEqProofs (disch := first | exact dsc _ | fail) only [go_sem, ↓reduceIte, Nat.reduceEqDiff, Nat.reduceAdd, Nat.reduceMul, Nat.reduceSub, Nat.reduceLT, Nat.reduceLeDiff, Nat.reduceBEq, reduceCtorEq, BEq.rfl, Int.reduceLT, Int.reduceLE, Int.reduceAdd, Int.reduceToNat, Int.reduceSub, Int.reduceMul, Int.reduceNeg, Int.reduceEq, *] | (with_reducible refine And.intro (by first | omega | assumption | rfl) ?_))
        all_goals ((first | refine Fin_v1 (by rfl) ?_ | refine Fin_vn (by intro h; cases h) ?_ | refine Fin_f1 (by rfl) ?_ | refine Fin_fn (by intro h; cases h) (fun _ => rfl) ?_ | refine Fin_u1 (by rfl) ?_ | refine Fin_un (by intro h; cases h) ?_); try simp +contextual -implicitDefEqProofs (disch := first | exact dsc _ | fail) only [go_sem, push_cast, ↓reduceIte, Nat.reduceEqDiff, Nat.reduceAdd, Nat.reduceMul, Nat.reduceSub, Nat.reduceLT, Nat.reduceLeDiff, Nat.reduceBEq, reduceCtorEq, BEq.rfl, Int.reduceLT, Int.reduceLE, Int.reduceAdd, Int.reduceToNat, Int.reduceSub, Int.reduceMul, Int.reduceNeg, Int.reduceEq, *])
  · repeat' (first | (with_reducible intro _) | (with_reducible refine wcond_not ?_) | ((with_reducible refine wcond_dec (fun _ => ?_) (fun _ => ?_)) <;> try (exfalso; omega)) | (with_reducible refine wcond_split (fun _ => ?_) (fun _ => ?_)) | (with_reducible refine draw_ro (by kernel_rfl) ?_) | simp +contextual -implicitDefEqProofs (disch := first | exact dsc _ | fail) only [go_sem, ↓reduceIte, Nat.reduceEqDiff, Nat.reduceAdd, Nat.reduceMul, Nat.reduceSub, Nat.reduceLT, Nat.reduceLeDiff, Nat.reduceBEq, reduceCtorEq, BEq.rfl, Int.reduceLT, Int.reduceLE, Int.reduceAdd, Int.reduceToNat, Int.reduceSub, Int.reduceMul, Int.reduceNeg, Int.reduceEq, *] | (with_reducible refine And.intro (by first | omega | assumption | rfl) ?_))
    all_goals ((first | refine Fin_v1 (by rfl) ?_ | refine Fin_vn (by intro h; cases h) ?_ | refine Fin_f1 (by rfl) ?_ | refine Fin_fn (by intro h; cases h) (fun _ => rfl) ?_ | refine Fin_u1 (by rfl) ?_ | refine Fin_un (by intro h; cases h) ?_); try simp +contextual -implicitDefEqProofs (disch := first | exact dsc _ | fail) only [go_sem, push_cast, ↓reduceIte, Nat.reduceEqDiff, Nat.reduceAdd, Nat.reduceMul, Nat.reduceSub, Nat.reduceLT, Nat.reduceLeDiff, Nat.reduceBEq, reduceCtorEq, BEq.rfl, Int.reduceLT, Int.reduceLE, Int.reduceAdd, Int.reduceToNat, Int.reduceSub, Int.reduceMul, Int.reduceNeg, Int.reduceEq, *])
    all_goals simp; rintro rfl; exact hl rfl
attribute [go_sem ↓] t_slices_EqualFunc_S
theorem t_slices_EqualFunc_B {a b : List (List UInt8)} (h1 : a.length ≤ 1000000000) (h2 : b.length ≤ 1000000000) : FnG Tryz.prog 64 [.list (a.map txtA), .list (b.map txtA), .func 65 [] []] [] (.val (.bool (decide (a = b)))) = True := by
  refine eq_true ?_
  refine FnG_of_W (sp := spL [(65, sp_bytes_Equal)]) (tb := tbOf Tryz.prog) (tbOf_ok _) (by kernel_rfl) Tryz.func64 (c := _) rfl (by kernel_rfl) (by kernel_rfl) (Nat.le_of_ble_eq_true rfl) (rs := [.tmp 6]) rfl ?_
  unfold FnW
  by_cases hl : a.length = b.length
  · repeat' (first | (with_reducible intro _) | (with_reducible refine wcond_not ?_) | ((with_reducible refine wcond_dec (fun _ => ?_) (fun _ => ?_)) <;> try (exfalso; omega)) | (with_reducible refine wcond_split (fun _ => ?_) (fun _ => ?_)) | (with_reducible refine draw_ro (by kernel_rfl) ?_) | simp +contextual -implicitDefEqProofs (disch := first | exact dsc _ | fail) only [go_sem, ↓reduceIte, Nat.reduceEqDiff, Nat.reduceAdd, Nat.reduceMul, Nat.reduceSub, Nat.reduceLT, Nat.reduceLeDiff, Nat.reduceBEq, reduceCtorEq, BEq.rfl, Int.reduceLT, Int.reduceLE, Int.reduceAdd, Int.reduceToNat, Int.reduceSub, Int.reduceMul, Int.reduceNeg, Int.reduceEq, *] | (with_reducible refine And.intro (by first | omega | assumption | rfl) ?_))
    refine wloopW (α := Nat) (fun i => ⟨[(0, .list (a.map txtA)), (1, .list (b.map txtA)), (2, .func 65 [] []), (6, .bool false), (15, .list (a.map txtA)), (16, .int .i64 a.length), (17, .int .i64 i)], []⟩) (fun i => i ≤ a.length ∧ a.take i = b.take i) (fun i => a.length - i) 0 ?_ ?_ ?_
    · simp
    · simp +contextual -implicitDefEqProofs (disch := first | exact dsc _ | fail) only [go_sem, push_cast, ↓reduceIte, Nat.reduceEqDiff, Nat.reduceAdd, Nat.reduceMul, Nat.reduceSub, Nat.reduceLT, Nat.reduceLeDiff, Nat.reduceBEq, reduceCtorEq, BEq.rfl, Int.reduceLT, Int.reduceLE, Int.reduceAdd, Int.reduceToNat, Int.reduceSub, Int.reduceMul, Int.reduceNeg, Int.reduceEq, *]
      all_goals simp
    · rintro i ⟨hi, he⟩
      have hi : i ≤ a.length := hi
      have he : a.take i = b.take i := he
      by_cases hlt : i < a.length
      · obtain ⟨x, hx⟩ := get_lt hlt
        obtain ⟨y, hy⟩ := get_lt (l := b) (n := i) (by omega)
        have hlt' : (i : Int) < (b.length : Int) := by omega
        repeat' (first | (with_reducible intro _) | (with_reducible refine wcond_not ?_) | ((with_reducible refine wcond_dec (fun _ => ?_) (fun _ => ?_)) <;> try (exfalso; omega)) | (with_reducible refine wcond_split (fun _ => ?_) (fun _ => ?_)) | (with_reducible refine draw_ro (by kernel_rfl) ?_) | simp +contextual -implicitDefEqProofs (disch := first | exact dsc _ | fail) only [go_sem, ↓reduceIte, Nat.reduceEqDiff, Nat.reduceAdd, Nat.reduceMul, Nat.reduceSub, Nat.reduceLT, Nat.reduceLeDiff, Nat.reduceBEq, reduceCtorEq, BEq.rfl, Int.reduceLT, Int.reduceLE, Int.reduceAdd, Int.reduceToNat, Int.reduceSub, Int.reduceMul, Int.reduceNeg, Int.reduceEq, *] | (with_reducible refine And.intro (by first | omega | assumption | rfl) ?_))
        · have hxy : x = y := by assumption
          refine round_intro (i + 1) ⟨by omega, by rw [take_snoc hx, take_snoc hy, he, hxy]⟩ (by show _ - (i + 1) < _ - i; omega) ?_
          simp +contextual -implicitDefEqProofs (disch := first | exact dsc _ | fail) only [go_sem, push_cast, ↓reduceIte, Nat.reduceEqDiff, Nat.reduceAdd, Nat.reduceMul, Nat.reduceSub, Nat.reduceLT, Nat.reduceLeDiff, Nat.reduceBEq, reduceCtorEq, BEq.rfl, Int.reduceLT, Int.reduceLE, Int.reduceAdd, Int.reduceToNat, Int.reduceSub, Int.reduceMul, Int.reduceNeg, Int.reduceEq, *]
          try omega
        · have hxy : ¬ x = y := by assumption
          have : ¬ a = b := take_ne hx hy hxy
          ((first | refine Fin_v1 (by rfl) ?_ | refine Fin_vn (by intro h; cases h) ?_ | refine Fin_f1 (by rfl) ?_ | refine Fin_fn (by intro h; cases h) (fun _ => rfl) ?_ | refine Fin_u1 (by rfl) ?_ | refine Fin_un (by intro h; cases h) ?_); try simp +contextual -implicitDefEqProofs (disch := first | exact dsc _ | fail) only [go_sem, push_cast, ↓reduceIte, Nat.reduceEqDiff, Nat.reduceAdd, Nat.reduceMul, Nat.reduceSub, Nat.reduceLT, Nat.reduceLeDiff, Nat.reduceBEq, reduceCtorEq, BEq.rfl, Int.reduceLT, Int.reduceLE, Int.reduceAdd, Int.reduceToNat, Int.reduceSub, Int.reduceMul, Int.reduceNeg, Int.reduceEq, *, this])
      · have : a = b := by
          rw [List.take_of_length_le (by omega), List.take_of_length_le (by omega)] at he; exact he
        have hlt' : ¬ (i : Int) < (b.length : Int) := by omega
        have e : decide (a = b) = true := by simp [this]
        rw [e]
        clear this e
        repeat' (first | (with_reducible intro _) | (with_reducible refine wcond_not ?_) | ((with_reducible refine wcond_dec (fun _ => ?_) (fun _ => ?_)) <;> try (exfalso; omega)) | (with_reducible refine wcond_split (fun _ => ?_) (fun _ => ?_)) | (with_reducible refine draw_ro (by kernel_rfl) ?_) | simp +contextual -implicitDefEqProofs (disch := first | exact dsc _ | fail) only [go_sem, ↓reduceIte, Nat.reduceEqDiff, Nat.reduceAdd, Nat.reduceMul, Nat.reduceSub, Nat.reduceLT, Nat.reduceLeDiff, Nat.reduceBEq, reduceCtorEq, BEq.rfl, Int.reduceLT, Int.reduceLE, Int.reduceAdd, Int.reduceToNat, Int.reduceSub, Int.reduceMul, Int.reduceNeg, Int.reduceEq, *] | (with_reducible refine And.intro (by first | omega | assumption | rfl) ?_))
        all_goals ((first | refine Fin_v1 (by rfl) ?_ | refine Fin_vn (by intro h; cases h) ?_ | refine Fin_f1 (by rfl) ?_ | refine Fin_fn (by intro h; cases h) (fun _ => rfl) ?_ | refine Fin_u1 (by rfl) ?_ | refine Fin_un (by intro h; cases h) ?_); try simp +contextual -implicitDefEqProofs (disch := first | exact dsc _ | fail) only [go_sem, push_cast, ↓reduceIte, Nat.reduceEqDiff, Nat.reduceAdd, Nat.reduceMul, Nat.reduceSub, Nat.reduceLT, Nat.reduceLeDiff, Nat.reduceBEq, reduceCtorEq, BEq.rfl, Int.reduceLT, Int.reduceLE, Int.reduceAdd, Int.reduceToNat, Int.reduceSub, Int.reduceMul, Int.reduceNeg, Int.reduceEq, *])
  · repeat' (first | (with_reducible intro _) | (with_reducible refine wcond_not ?_) | ((with_reducible refine wcond_dec (fun _ => ?_) (fun _ => ?_)) <;> try (exfalso; omega)) | (with_reducible refine wcond_split (fun _ => ?_) (fun _ => ?_)) | (with_reducible refine draw_ro (by kernel_rfl) ?_) | simp +contextual -implicitDefEqProofs (disch := first | exact dsc _ | fail) only [go_sem, ↓reduceIte, Nat.reduceEqDiff, Nat.reduceAdd, Nat.reduceMul, Nat.reduceSub, Nat.reduceLT, Nat.reduceLeDiff, Nat.reduceBEq, reduceCtorEq, BEq.rfl, Int.reduceLT, Int.reduceLE, Int.reduceAdd, Int.reduceToNat, Int.reduceSub, Int.reduceMul, Int.reduceNeg, Int.reduceEq, *] | (with_reducible refine And.intro (by first | omega | assumption | rfl) ?_))
    all_goals ((first | refine Fin_v1 (by rfl) ?_ | refine Fin_vn (by intro h; cases h) ?_ | refine Fin_f1 (by rfl) ?_ | refine Fin_fn (by intro h; cases h) (fun _ => rfl) ?_ | refine Fin_u1 (by rfl) ?_ | refine Fin_un (by intro h; cases h) ?_); try simp +contextual -implicitDefEqProofs (disch := first | exact dsc _ | fail) only [go_sem, push_cast, ↓reduceIte, Nat.reduceEqDiff, Nat.reduceAdd, Nat.reduceMul, Nat.reduceSub, Nat.reduceLT, Nat.reduceLeDiff, Nat.reduceBEq, reduceCtorEq, BEq.rfl, Int.reduceLT, Int.reduceLE, Int.reduceAdd, Int.reduceToNat, Int.reduceSub, Int.reduceMul, Int.reduceNeg, Int.reduceEq, *])
    all_goals simp; rintro rfl; exact hl rfl
attribute [go_sem ↓] t_slices_EqualFunc_B
def sp_snapshot_Equal (args : List AV) : RM CallSpec := match args with
  | [x0, x1] => (viewM x0).bind fun v => (viewM x1).bind fun w => pureS [viewA v, viewA w] (.bool (decide (v = w)))
  | _ => .fail
attribute [go_sem] sp_snapshot_Equal
theorem t_snapshot_Equal (v : View) (w : View) (h1 : v.votes.length ≤ 1000000000) (h2 : w.votes.length ≤ 1000000000) (h3 : v.texts.length ≤ 1000000000) (h4 : w.texts.length ≤ 1000000000) : FnG Tryz.prog 24 [viewA v, viewA w] [] (.val (.bool (decide (v = w)))) = True := by
  refine eq_true ?_
  refine FnG_of_W (sp := spL [(62, sp_slices_EqualFunc_S), (63, sp_snapshot_equalVotes), (64, sp_slices_EqualFunc_B), (65, sp_bytes_Equal)]) (tb := tbOf Tryz.prog) (tbOf_ok _) (by kernel_rfl) Tryz.func24 (c := _) rfl (by kernel_rfl) (by kernel_rfl) (Nat.le_of_ble_eq_true rfl) (rs := [.tmp 4]) rfl ?_
  unfold FnW
  have e : decide (v = w) = (decide (v.votes = w.votes) && decide (v.texts = w.texts)) := by
    cases v; cases w; simp
  rw [e]
  clear e
  repeat' (first | (with_reducible intro _) | (with_reducible refine wcond_not ?_) | ((with_reducible refine wcond_dec (fun _ => ?_) (fun _ => ?_)) <;> try (exfalso; omega)) | (with_reducible refine wcond_split (fun _ => ?_) (fun _ => ?_)) | (with_reducible refine draw_ro (by kernel_rfl) ?_) | simp +contextual -implicitDefEqProofs (disch := first | exact dsc _ | fail) only [go_sem, ↓reduceIte, Nat.reduceEqDiff, Nat.reduceAdd, Nat.reduceMul, Nat.reduceSub, Nat.reduceLT, Nat.reduceLeDiff, Nat.reduceBEq, reduceCtorEq, BEq.rfl, Int.reduceLT, Int.reduceLE, Int.reduceAdd, Int.reduceToNat, Int.reduceSub, Int.reduceMul, Int.reduceNeg, Int.reduceEq, *] | (with_reducible refine And.intro (by first | omega | assumption | rfl) ?_))
  all_goals ((first | refine Fin_v1 (by rfl) ?_ | refine Fin_vn (by intro h; cases h) ?_ | refine Fin_f1 (by rfl) ?_ | refine Fin_fn (by intro h; cases h) (fun _ => rfl) ?_ | refine Fin_u1 (by rfl) ?_ | refine Fin_un (by intro h; cases h) ?_); try simp +contextual -implicitDefEqProofs (disch := first | exact dsc _ | fail) only [go_sem, push_cast, ↓reduceIte, Nat.reduceEqDiff, Nat.reduceAdd, Nat.reduceMul, Nat.reduceSub, Nat.reduceLT, Nat.reduceLeDiff, Nat.reduceBEq, reduceCtorEq, BEq.rfl, Int.reduceLT, Int.reduceLE, Int.reduceAdd, Int.reduceToNat, Int.reduceSub, Int.reduceMul, Int.reduceNeg, Int.reduceEq, *])
attribute [go_sem ↓] t_snapshot_Equal
end Go.Am.Tryz
