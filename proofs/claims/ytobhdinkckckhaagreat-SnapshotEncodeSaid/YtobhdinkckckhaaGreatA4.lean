/- A part of the proof of the laws of layer 32: abstract values and contracts of functions; no statement of its own. -/
import Derived.Test.YtobhdinkckckhaaGreatA3
import Derived.KernelRfl
import Derived.Lib.Bytealg
import Derived.Lib.BytesEntry
set_option linter.unusedSimpArgs false
set_option linter.unusedVariables false
set_option linter.unusedVariables false
namespace Go.Am
section
variable (P : Program)

/-- the same single cell, of those that zero values hold -/
def zeq1 : Value → Value → Bool
  | .int k n, .int k' n' => decide (k = k') && decide (n = n')
  | .bool b, .bool b' => b == b'
  | .string s, .string s' => s.data.toList == s'.data.toList
  | .pointer none, .pointer none => true
  | .slice none n c, .slice none n' c' => n == n' && c == c'
  | .map none, .map none => true
  | .nilFunc, .nilFunc => true
  | .nilIface, .nilIface => true
  | _, _ => false
def zeqL : List Value → List Value → Bool
  | [], [] => true
  | a :: l, b :: m => zeq1 a b && zeqL l m
  | _, _ => false
theorem zeq1_eq {a b : Value} (h : zeq1 a b = true) : a = b := by
  unfold zeq1 at h
  split at h <;> simp_all
  · rename_i s s'
    apply ByteArray.ext
    first | exact h | exact Array.ext' h
theorem zeqL_eq : ∀ {l m : List Value}, zeqL l m = true → l = m
  | [], [], _ => rfl
  | a :: l, b :: m, h => by
    simp only [zeqL, Bool.and_eq_true] at h
    rw [zeq1_eq h.1, zeqL_eq h.2]
  | [], _ :: _, h => by simp [zeqL] at h
  | _ :: _, [], h => by simp [zeqL] at h
def fieldsB (g : Nat → CT → Bool) : List Field → List CT → Nat → Bool
  | [], [], _ => true
  | f :: fs, c :: cs, o => f.name != "_" && f.offset == o && g f.type c && fieldsB g fs cs (o + csize c)
  | _, _, _ => false
def ctB : Nat → Nat → CT → Bool
  | 0, _, _ => false
  | d + 1, t, c =>
    match c, P.underlying t with
    | .int, some (.int _) => P.cellsOf t == 1
    | .bool, some .bool => P.cellsOf t == 1
    | .str, some .string => P.cellsOf t == 1
    | .rep n c, some (.array n' e) => n == n' && P.cellsOf t == n * csize c && ctB d e c
    | .agg cs, some (.struct fs) => P.cellsOf t == csizeL cs && !P.stoodInHeld t && fieldsB (ctB d) fs.toList cs 0
    | _, _ => false
theorem fieldsB_spec {g : Nat → CT → Bool} : ∀ {fs : List Field} {cs : List CT} {o : Nat}, fieldsB g fs cs o = true → fs.length = cs.length ∧
    (∀ (i : Nat) (f : Field), fs[i]? = some f → f.name ≠ "_" ∧ f.offset = o + csizeL (cs.take i)) ∧ (∀ (i : Nat) (f : Field) (c : CT), fs[i]? = some f → cs[i]? = some c → g f.type c = true)
  | [], [], o, _ => ⟨rfl, by simp, by simp⟩
  | f :: fs, c :: cs, o, h => by
    simp only [fieldsB, Bool.and_eq_true, bne_iff_ne, ne_eq, beq_iff_eq] at h
    obtain ⟨⟨⟨h1, h2⟩, h3⟩, h4⟩ := h
    obtain ⟨k1, k2, k3⟩ := fieldsB_spec h4
    refine ⟨by simp [k1], fun i f' hf => ?_, fun i f' c' hf hc => ?_⟩
    · cases i with
      | zero =>
        simp only [List.getElem?_cons_zero, Option.some.injEq] at hf
        subst hf
        exact ⟨h1, by simp [csizeL, h2]⟩
      | succ i =>
        simp only [List.getElem?_cons_succ] at hf
        obtain ⟨q1, q2⟩ := k2 i f' hf
        exact ⟨q1, by simp only [List.take_succ_cons, csizeL]; omega⟩
    · cases i with
      | zero =>
        simp only [List.getElem?_cons_zero, Option.some.injEq] at hf hc
        subst hf hc
        exact h3
      | succ i =>
        simp only [List.getElem?_cons_succ] at hf hc
        exact k3 i f' c' hf hc
  | [], _ :: _, o, h => by simp [fieldsB] at h
  | _ :: _, [], o, h => by simp [fieldsB] at h
variable {P}
theorem ctB_ok : ∀ {d t : Nat} {c : CT}, ctB P d t c = true → CtOK P d t c
  | 0, t, c, h => by simp [ctB] at h
  | d + 1, t, c, h => by
    unfold ctB at h
    split at h
    · rename_i k hu; exact .int hu (by simpa using h)
    · rename_i hu; exact .bool hu (by simpa using h)
    · rename_i hu; exact .str hu (by simpa using h)
    · rename_i n c n' e hu
      simp only [Bool.and_eq_true, beq_iff_eq] at h
      obtain ⟨⟨rfl, h2⟩, h3⟩ := h
      exact .rep hu h2 (ctB_ok h3)
    · rename_i cs fs hu
      simp only [Bool.and_eq_true, beq_iff_eq, Bool.not_eq_true'] at h
      obtain ⟨⟨h1, h2⟩, h3⟩ := h
      obtain ⟨k1, k2, k3⟩ := fieldsB_spec h3
      refine .agg hu h1 h2 (by simpa using k1) (fun i f hf => ?_) (fun i f c hf hc => ctB_ok (k3 i f c (by simpa using hf) hc))
      have := k2 i f (by simpa using hf)
      simpa using this
    · cases h
variable (P)
def ctNone : CT → Bool
  | .none => true
  | _ => false
def tdB (t : Nat) (td : TD) : Bool :=
  match td, P.underlying t with
  | .bool, some .bool => true
  | .int k, some (.int k') => decide (k = k')
  | .str, some .string => true
  | .ptr e, some (.pointer e') => e == e'
  | .slice e, some (.slice e') => e == e'
  | .arr n e, some (.array n' e') => n == n' && e == e'
  | .map k e, some (.map k' e') => k == k' && e == e'
  | .struct fs, some (.struct Fs) => (Fs.toList.map (fun f => (f.type, f.offset)) == fs) && Fs.toList.all (fun f => P.cellsOf f.type != 0)
  | .func, some (.func _ _ _) => true
  | .iface, some (.interface _) => true
  | .other, some d => (match d with | .struct _ | .array _ _ => false | _ => true)
  | _, _ => false
theorem tdB_ok {t : Nat} {td : TD} (h : tdB P t td = true) : tdOK P t td := by
  unfold tdB at h
  split at h <;> simp_all [tdOK]
  all_goals assumption
def tyB (t : Nat) (ty : TyA) : Bool :=
  (match P.info? t, zcells ty.zero with
    | some i, some cs => i.size == ty.size && i.bytes == ty.bytes && (match i.zero with | some z => zeqL cs z.cells.toList && (aggA ty.zero == aggV z) | none => false)
    | _, _ => false) &&
  ncells ty.zero == ty.size && (aggA ty.zero == aggTd ty.td) && tdB P t ty.td && (ctNone ty.ct || (ctB P 10000 t ty.ct && !P.eqGuardType P.depth t))
theorem tyB_ok {t : Nat} {ty : TyA} (h : tyB P t ty = true) : TyOK P t ty := by
  unfold tyB at h
  simp only [Bool.and_eq_true, Bool.or_eq_true, beq_iff_eq, Bool.not_eq_true'] at h
  obtain ⟨⟨⟨⟨h1, h2⟩, h3⟩, h4⟩, h5⟩ := h
  split at h1
  · rename_i i cs hi hz
    simp only [Bool.and_eq_true, beq_iff_eq] at h1
    obtain ⟨⟨k1, k2⟩, k3⟩ := h1
    split at k3
    · rename_i z hz'
      simp only [Bool.and_eq_true, beq_iff_eq] at k3
      refine ⟨⟨i, z, hi, k1, k2, hz', ?_, k3.2⟩, h2, h3, tdB_ok P h4, ?_⟩
      · rw [hz, zeqL_eq k3.1]
      · rcases h5 with h5 | h5
        · left
          cases e : ty.ct <;> rw [e] at h5 <;> simp [ctNone] at h5
        · exact .inr ⟨ctB_ok h5.1, h5.2⟩
    · cases k3
  · cases h1
/-- a value of a type, all zero -/
def zeroG : Nat → Nat → AV
  | 0, _ => .any
  | d + 1, t =>
    match P.underlying t with
    | some .bool => .bool false
    | some (.int k) => .int k 0
    | some .string => .str []
    | some (.pointer _) => .nilp
    | some (.slice _) => .nils
    | some (.map _ _) => .nilm
    | some (.func _ _ _) => .nilf
    | some (.interface _) => .nili
    | some (.struct fs) => .agg (fs.toList.map fun f => zeroG d f.type)
    | some (.array n e) => .agg (List.replicate n (zeroG d e))
    | _ => .any
def ctsJoin : List CT → Option (List CT)
  | [] => some []
  | .none :: _ => none
  | c :: cs => (match ctsJoin cs with | some l => some (c :: l) | none => none)
def ctG : Nat → Nat → CT
  | 0, _ => .none
  | d + 1, t =>
    match P.underlying t with
    | some .bool => .bool
    | some (.int _) => .int
    | some .string => .str
    | some (.struct fs) => (match ctsJoin (fs.toList.map fun f => ctG d f.type) with | some l => .agg l | none => .none)
    | some (.array n e) => (match ctG d e with | .none => .none | c => .rep n c)
    | _ => .none
def tdG (t : Nat) : TD :=
  match P.underlying t with
  | some .bool => .bool
  | some (.int k) => .int k
  | some .string => .str
  | some (.pointer e) => .ptr e
  | some (.slice e) => .slice e
  | some (.array n e) => .arr n e
  | some (.map k e) => .map k e
  | some (.struct fs) => .struct (fs.toList.map (fun f => (f.type, f.offset)))
  | some (.func _ _ _) => .func
  | some (.interface _) => .iface
  | _ => .other
def tyG (t : Nat) : TyA := ⟨tdG P t, P.cellsOf t, P.bytesOf t, zeroG P 50 t, ctG P 50 t⟩
def tbOf (t : Nat) : Option TyA := if tyB P t (tyG P t) = true then some (tyG P t) else none
theorem tbOf_ok : TbOK P (tbOf P) := by
  intro t ty h
  unfold tbOf at h
  split at h
  · rename_i hb; cases h; exact tyB_ok P hb
  · cases h
theorem tbOf_eq {t : Nat} {ty : TyA} (h : tyG P t = ty) (hb : tyB P t ty = true) : tbOf P t = some ty := by
  subst h
  simp [tbOf, hb]
end
end Go.Am
set_option linter.unusedVariables false
namespace Go.Am
section
variable {P : Program} {tb : Nat → Option TyA} {sp : FuncId → List AV → RM CallSpec}

/-! boxes: what rewriting does not go into -/
class PBox where
  p : Prop
class SBox where
  s : St
class KBox where
  k : St → Prop
class QBox where
  q : Ex → St → Prop
def WCondI (c : AV) [x : PBox] [y : PBox] : Prop := WCond c x.p y.p
def WLoopI (P : Program) (b : St → (Ex → St → Prop) → Prop) [st : SBox] [Q : QBox] : Prop := WLoop P b st.s Q.q
def WDrawI (P : Program) (tb : Nat → Option TyA) (sp : FuncId → List AV → RM CallSpec) (ops : List Oper) [st : SBox] [K : KBox] : Prop := WDraw P tb sp ops st.s K.k
def FinI (tb : Nat → Option TyA) (rs : List ResultVar) (Hin : Heap) (out : Out) [st : SBox] : Prop := Fin tb rs Hin out st.s
theorem r_seq {a b st Q} : W P tb sp (.seq a b) st Q = W P tb sp a st fun e st' => match e with | .normal => W P tb sp b st' Q | e => Q e st' := rfl
theorem r_skip {st Q} : W P tb sp .skip st Q = Q .normal st := rfl
theorem r_regionF {i ops st Q} : W P tb sp (.region i ops false) st Q = WL P tb sp ops.toList ops.toList st (Q .normal) := rfl
theorem r_regionT {i ops st Q} : W P tb sp (.region i ops true) st Q = @WDrawI P tb sp ops.toList ⟨st⟩ ⟨Q .normal⟩ := rfl
theorem r_block {i b st Q} : W P tb sp (.block i b) st Q = W P tb sp b st fun e st' => match e with | .exit j => if j = i then Q .normal st' else Q (.exit j) st' | e => Q e st' := rfl
theorem r_exit {i st Q} : W P tb sp (.exit i) st Q = Q (.exit i) st := rfl
theorem r_ret {st Q} : W P tb sp .ret st Q = Q .ret st := rfl
theorem r_loop {b st Q} : W P tb sp (.loop b) st Q = @WLoopI P (W P tb sp b) ⟨st⟩ ⟨Q⟩ := rfl
theorem r_cond {c a b T H Q} : W P tb sp (.cond c a b) ⟨T, H⟩ Q = @WCondI (ev T c) ⟨W P tb sp a ⟨T, H⟩ Q⟩ ⟨W P tb sp b ⟨T, H⟩ Q⟩ := rfl
theorem r_condT {x y : PBox} : @WCondI (.bool true) x y = x.p := rfl
theorem r_condF {x y : PBox} : @WCondI (.bool false) x y = y.p := rfl
theorem wcond_split {t : Bool} {x y : Prop} (hx : t = true → x) (hy : t = false → y) : @WCondI (.bool t) ⟨x⟩ ⟨y⟩ := by
  cases t
  · exact hy rfl
  · exact hx rfl
theorem r_finN {rs Hin out st} : FinE tb rs Hin out .normal st = @FinI tb rs Hin out ⟨st⟩ := rfl
theorem r_finR {rs Hin out st} : FinE tb rs Hin out .ret st = @FinI tb rs Hin out ⟨st⟩ := rfl
theorem c_Fin {tb' : Nat → Option TyA} {rs Hin out st} (h : tb = tb') : Fin tb rs Hin out st = Fin tb' rs Hin out st := by rw [h]
attribute [congr] c_Fin
theorem r_wl_nil {ops st K} : WL P tb sp ops [] st K = K st := rfl
theorem r_wl_cons {ops o l T H K} : WL P tb sp ops (o :: l) ⟨T, H⟩ K = (stepRM P tb sp ops T o).run H fun out => evalOut ⟨T, H⟩ o.dst out fun st' => WL P tb sp ops l st' K := rfl
theorem r_step {ops T d op ty p a} : stepRM P tb sp ops T ⟨d, op, ty, p, a, none⟩ = semX P tb sp T op := rfl
theorem r_stepg {ops T d op ty p a j w} : stepRM P tb sp ops T ⟨d, op, ty, p, a, some (j, w)⟩ = semG (gval ops T j) w (semX P tb sp T op) := rfl
theorem r_semGt {b x} : semG (.bool b) b x = x := by simp [semG]
theorem r_semG {b w x} : semG (.bool b) w x = if b = w then x else .ret (.val (.tup [])) := rfl
theorem r_x {T op} (h : ∀ c, op ≠ .call c) : semX P tb sp T op = semOp tb T op := by
  cases op <;> first | rfl | exact absurd rfl (h _)
theorem rx_move {T x} : semX P tb sp T (.move x) = semOp tb T (.move x) := rfl
theorem rx_assign {T x} : semX P tb sp T (.assign x) = semOp tb T (.assign x) := rfl
theorem rx_pick {T c a b} : semX P tb sp T (.pick c a b) = semOp tb T (.pick c a b) := rfl
theorem rx_alloc {T e} : semX P tb sp T (.alloc e) = semOp tb T (.alloc e) := rfl
theorem rx_box {T e x} : semX P tb sp T (.box e x) = semOp tb T (.box e x) := rfl
theorem rx_build {T t p} : semX P tb sp T (.build t p) = semOp tb T (.build t p) := rfl
theorem rx_buildSlice {T t n p} : semX P tb sp T (.buildSlice t n p) = semOp tb T (.buildSlice t n p) := rfl
theorem rx_load {T t x} : semX P tb sp T (.load t x) = semOp tb T (.load t x) := rfl
theorem rx_store {T t a x} : semX P tb sp T (.store t a x) = semOp tb T (.store t a x) := rfl
theorem rx_nilCheck {T x} : semX P tb sp T (.nilCheck x) = semOp tb T (.nilCheck x) := rfl
theorem rx_binOp {T o t x y z} : semX P tb sp T (.binOp o t x y z) = semOp tb T (.binOp o t x y z) := rfl
theorem rx_unOp {T o t x} : semX P tb sp T (.unOp o t x) = semOp tb T (.unOp o t x) := rfl
theorem rx_convert {T a b x} : semX P tb sp T (.convert a b x) = semOp tb T (.convert a b x) := rfl
theorem rx_makeFunc {T f a b} : semX P tb sp T (.makeFunc f a b) = semOp tb T (.makeFunc f a b) := rfl
theorem rx_makeSlice {T t l c} : semX P tb sp T (.makeSlice t l c) = semOp tb T (.makeSlice t l c) := rfl
theorem rx_slice {T t x lo hi mx} : semX P tb sp T (.slice t x lo hi mx) = semOp tb T (.slice t x lo hi mx) := rfl
theorem rx_fieldAddr {T s x f} : semX P tb sp T (.fieldAddr s x f) = semOp tb T (.fieldAddr s x f) := rfl
theorem rx_field {T s x f} : semX P tb sp T (.field s x f) = semOp tb T (.field s x f) := rfl
theorem rx_indexAddr {T t x i} : semX P tb sp T (.indexAddr t x i) = semOp tb T (.indexAddr t x i) := rfl
theorem rx_index {T t x i} : semX P tb sp T (.index t x i) = semOp tb T (.index t x i) := rfl
theorem rx_extract {T t i} : semX P tb sp T (.extract t i) = semOp tb T (.extract t i) := rfl
theorem r_xcall {T f ag ts} : semX P tb sp T (.call ⟨.value f, ag, ts⟩) = semCall P sp (ev T f) (ag.toList.map (ev T)) := rfl
theorem r_xblt {T b ag ts} : semX P tb sp T (.call ⟨.builtin b, ag, ts⟩) = semBuiltin tb b ts.toList (ag.toList.map (ev T)) := rfl
theorem r_call {f fi ca args} : semCall P sp (.func f fi ca) args = (sp f (fi ++ args ++ ca)).bind fun s => .asrt (FnG P f s.pargs s.Hin s.out) (callRM (fi ++ args ++ ca) s.pargs s.Hin s.out s.tmp) := rfl
theorem r_gval {ops T j} : gval ops T j = match gslot ops j with | some d => lk T d | none => .any := rfl

theorem r_run_ret {α H} {x : α} {K} : (RM.ret x).run H K = K x := rfl
theorem r_run_get {α H r} {k : Option Ent → RM α} {K} : (RM.get r k).run H K = (k (hf H r)).run H K := rfl
theorem r_run_need {α H h} {k : RM α} {K} : (RM.need h k).run H K = ((∀ p, p ∈ h → hf H p.1 = some p.2) ∧ k.run H K) := rfl
theorem r_run_asrt {α H p} {k : RM α} {K} : (RM.asrt p k).run H K = (p ∧ k.run H K) := rfl
theorem r_run_dem {α H} {k : Bool → RM α} {K} : (RM.dem k).run H K = ∀ b, (k b).run H K := rfl
theorem r_run_fail {α H} {K : α → Prop} : (RM.fail : RM α).run H K = False := rfl
theorem r_run_ite {α H c} [Decidable c] {x y : RM α} {K} : (if c then x else y).run H K = if c then x.run H K else y.run H K := by split <;> rfl
theorem r_bind_ret {α β} {x : α} {f : α → RM β} : (RM.ret x).bind f = f x := rfl
theorem r_bind_get {α β r} {k : Option Ent → RM α} {f : α → RM β} : (RM.get r k).bind f = .get r fun e => (k e).bind f := rfl
theorem r_bind_asrt {α β p} {k : RM α} {f : α → RM β} : (RM.asrt p k).bind f = .asrt p (k.bind f) := rfl
theorem r_bind_fail {α β} {f : α → RM β} : (RM.fail : RM α).bind f = .fail := rfl
theorem r_bind_dem {α β} {k : Bool → RM α} {f : α → RM β} : (RM.dem k).bind f = .dem fun b => (k b).bind f := rfl
theorem r_run_bind {α β H} {x : RM α} {f : α → RM β} {K} : (x.bind f).run H K = x.run H fun a => (f a).run H K := propext (RM.run_bind x f K)
theorem r_map {α β} {x : RM α} {f : α → β} : x.map f = x.bind fun a => .ret (f a) := rfl
theorem r_val {T H d v K} : evalOut ⟨T, H⟩ (some d) (.val v) K = K ⟨(d, v) :: T, H⟩ := rfl
theorem r_val0 {T H v K} : evalOut ⟨T, H⟩ none (.val v) K = K ⟨T, H⟩ := rfl
theorem r_upd0 {T H v u K} : evalOut ⟨T, H⟩ none (.upd v u) K = K ⟨T, u ++ H⟩ := rfl
theorem r_upd {T H d v u K} : evalOut ⟨T, H⟩ (some d) (.upd v u) K = K ⟨(d, v) :: T, u ++ H⟩ := rfl
theorem r_fresh {T H d f K} : evalOut ⟨T, H⟩ (some d) (.fresh f) K = ∀ r, freshBut none H r → K ⟨(d, (f r).1) :: T, (f r).2 ++ H⟩ := by
  simp [evalOut, Out.fresh, pickIds, notIn, id0]
theorem r_fresh0 {T H f K} : evalOut ⟨T, H⟩ none (.fresh f) K = ∀ r, freshBut none H r → K ⟨T, (f r).2 ++ H⟩ := by
  simp [evalOut, Out.fresh, pickIds, notIn, id0]
theorem r_over {T H d q f K} : evalOut ⟨T, H⟩ (some d) (.over q f) K = ∀ r, freshBut (some q) H r → K ⟨(d, (f r).1) :: T, (f r).2 ++ H⟩ := by
  simp [evalOut, Out.over, pickIds, notIn, id0]
theorem r_mk {T H d ch f K} : evalOut ⟨T, H⟩ (some d) ⟨ch, f⟩ K = pickIds H ch [] fun ids => K ⟨(d, (f ids).1) :: T, (f ids).2 ++ H⟩ := rfl
theorem r_pick0 {H used K} : pickIds H [] used K = K [] := rfl
theorem r_pick1 {H c cs used K} : pickIds H (c :: cs) used K = ∀ r, freshBut c H r → notIn used r → pickIds H cs (r :: used) fun rs => K (r :: rs) := rfl
theorem lk_cons {k v l t} : lk ((k, v) :: l) t = if k = t then v else lk l t := rfl
theorem lk_nil {t} : lk [] t = .any := rfl
theorem ev_tmp {T t} : ev T (.tmp t) = lk T t := rfl
theorem ev_const {T v} : ev T (.const v) = constA v := rfl
theorem ev_func {T f} : ev T (.func f) = .func f [] [] := rfl
theorem hf_cons {k e l r} : hf ((k, e) :: l) r = if k = r then some e else hf l r := rfl
theorem hf_nil {r} : hf [] r = none := rfl

theorem r_guard {α : Type} {c : Prop} {inst : Decidable c} {x : RM α} (h : c) : @ite (RM α) c inst x RM.fail = x := if_pos h
theorem wrap64 {n : Int} (h0 : -9223372036854775808 ≤ n) (h1 : n < 9223372036854775808) : IntKind.i64.wrap n = n := by
  have : IntKind.i64.wrap n = if n % 18446744073709551616 < 9223372036854775808 then n % 18446744073709551616 else n % 18446744073709551616 - 18446744073709551616 := by
    simp [IntKind.wrap, IntKind.signed, IntKind.bits]
    omega
  rw [this]; split <;> omega
theorem wrapU64 {n : Int} (h0 : 0 ≤ n) (h1 : n < 18446744073709551616) : IntKind.u64.wrap n = n := by
  have : IntKind.u64.wrap n = n % 18446744073709551616 := by
    simp [IntKind.wrap, IntKind.signed, IntKind.bits]
  rw [this]; omega
theorem wrapU8 {n : Int} (h0 : 0 ≤ n) (h1 : n < 256) : IntKind.u8.wrap n = n := by
  have : IntKind.u8.wrap n = n % 256 := by
    simp [IntKind.wrap, IntKind.signed, IntKind.bits]
  rw [this]; omega
theorem roomy_def {n b : Nat} : roomy n b = (n * b ≤ 35184372088832 ∧ n ≤ 4611686018427387904) := rfl
theorem toNat_cast (n : Nat) : ((n : Int)).toNat = n := rfl
-- what rewriting does not go into
theorem c_W {tb'} {c st Q} (h : tb = tb') : W P tb sp c st Q = W P tb' sp c st Q := by rw [h]
theorem c_WL {tb'} {ops l st Q} (h : tb = tb') : WL P tb sp ops l st Q = WL P tb' sp ops l st Q := by rw [h]
theorem c_WDraw {tb'} {ops st Q} (h : tb = tb') : WDraw P tb sp ops st Q = WDraw P tb' sp ops st Q := by rw [h]
theorem c_WD {tb'} {ops prs l st tr Q} (h : tb = tb') : WD P tb sp ops prs l st tr Q = WD P tb' sp ops prs l st tr Q := by rw [h]
theorem c_WLoop {P'} {b st Q} (h : P = P') : WLoop P b st Q = WLoop P' b st Q := by rw [h]
theorem c_run {α H} {m m' : RM α} {K} (h : m = m') : m.run H K = m'.run H K := by rw [h]
theorem c_runL {α H} {m m' : RM α} {log K} (h : m = m') : m.runL H log K = m'.runL H log K := by rw [h]
theorem c_bind {α β} {m m' : RM α} {f : α → RM β} (h : m = m') : m.bind f = m'.bind f := by rw [h]
theorem c_evalOut {st d K} {o o'} (h : o = o') : evalOut st d o K = evalOut st d o' K := by rw [h]
theorem c_semG {g g' w x} (h : g = g') : semG g w x = semG g' w x := by rw [h]
theorem c_gval {ops T j j'} (h : j = j') : gval ops T j = gval ops T j' := by rw [h]
theorem c_pick {H ch ch' used K} (h : ch = ch') : pickIds H ch used K = pickIds H ch' used K := by rw [h]
end
attribute [congr] c_W c_WL c_WDraw c_WD c_WLoop c_run c_runL c_bind c_evalOut c_semG c_gval c_pick

theorem nc_int (k n) : ncells (.int k n) = 1 := rfl
theorem nc_bool (b) : ncells (.bool b) = 1 := rfl
theorem nc_str (s) : ncells (.str s) = 1 := rfl
theorem nc_list (l) : ncells (.list l) = 1 := rfl
theorem nc_nils : ncells .nils = 1 := rfl
theorem nc_nilp : ncells .nilp = 1 := rfl
theorem nc_ptr (r p) : ncells (.ptr r p) = 1 := rfl
theorem nc_cref (v) : ncells (.cref v) = 1 := rfl
theorem nc_map (r) : ncells (.map r) = 1 := rfl
theorem nc_func (f a b) : ncells (.func f a b) = 1 := rfl
theorem nc_own (r p a b c d) : ncells (.own r p a b c d) = 1 := rfl
theorem nc_agg (l) : ncells (.agg l) = ncellsL l := rfl
theorem ncl_nil : ncellsL [] = 0 := rfl
theorem ncl_cons (a l) : ncellsL (a :: l) = ncells a + ncellsL l := rfl
theorem allSz_nil (n) : allSz n [] = true := rfl
theorem allSz_cons (n a l) : allSz n (a :: l) = (ncells a == n && allSz n l) := rfl
end Go.Am
set_option linter.unusedVariables false
namespace Go.Am

def bys (l : List UInt8) : List AV := l.map byteA
theorem bys_len (l : List UInt8) : (bys l).length = l.length := by simp [bys]
theorem bys_nil : bys [] = [] := rfl
theorem bys_take (l : List UInt8) (n : Nat) : (bys l).take n = bys (l.take n) := by simp [bys]
theorem bys_drop (l : List UInt8) (n : Nat) : (bys l).drop n = bys (l.drop n) := by simp [bys]
theorem bys_app (l m : List UInt8) : bys l ++ bys m = bys (l ++ m) := by simp [bys]
theorem bys_get (l : List UInt8) (n : Nat) : (bys l)[n]? = (l[n]?).map byteA := by simp [bys]
theorem bys_set (l : List UInt8) (n : Nat) (b : UInt8) : (bys l).set n (byteA b) = bys (l.set n b) := by simp [bys, List.map_set]
theorem bys_zero (n : Nat) : List.replicate n (AV.int .u8 0) = bys (List.replicate n 0) := by simp [bys, byteA]
theorem allSz_bys (l : List UInt8) : allSz 1 (bys l) = true := by
  induction l with
  | nil => rfl
  | cons b l ih => simp only [bys, List.map_cons, allSz] at ih ⊢; rw [ih]; rfl
theorem nc_bys (l : List UInt8) : ncellsL (bys l) = l.length := by
  rw [ncellsL_allSz (allSz_bys l), bys_len, Nat.mul_one]
def spliceB (xs : List UInt8) (off : Nat) (ys : List UInt8) : List UInt8 := xs.take off ++ ys ++ xs.drop (off + ys.length)
theorem bys_splice (l m : List UInt8) (off : Nat) : spliceA (bys l) off (bys m) = bys (spliceB l off m) := by simp [spliceA, spliceB, bys]
theorem spliceB_all (l m : List UInt8) (h : l.length = m.length) : spliceB l 0 m = m := by simp [spliceB, h]
def byOf (n : Int) : UInt8 := UInt8.ofNat n.toNat
theorem bys_one {n : Int} (h0 : 0 ≤ n) (h1 : n < 256) : [AV.int .u8 n] = bys [byOf n] := by
  have : (UInt8.ofNat n.toNat).toNat = n.toNat := by simp; omega
  simp only [bys, byteA, byOf, List.map_cons, List.map_nil, this]
  rw [Int.toNat_of_nonneg h0]
theorem bytesA_bys : ∀ (l : List UInt8), bytesA (bys l) = some l
  | [] => rfl
  | b :: l => by
    have := bytesA_bys l
    simp only [bys] at this
    simp [bys, byteA, bytesA, this]
theorem eqTR_bys : ∀ {l m : List UInt8}, l.length = m.length → eqTR .int (bys l) (bys m) = some (decide (l = m))
  | [], [], _ => rfl
  | a :: l, b :: m, h => by
    have ih := eqTR_bys (l := l) (m := m) (by simpa using h)
    simp only [bys] at ih
    simp only [bys, List.map_cons, eqTR, byteA, eqT, ih]
    by_cases h1 : a = b
    · subst h1; simp
    · have : ¬ a.toNat = b.toNat := fun e => h1 (UInt8.toNat_inj.1 e)
      have this2 : ¬ ((a.toNat : Int) = (b.toNat : Int)) := by omega
      simp [h1, this2]
  | [], _ :: _, h => by simp at h
  | _ :: _, [], h => by simp at h
end Go.Am
namespace Go.Am
theorem Fin_intro {tb : Nat → Option TyA} {rs : List ResultVar} {Hin : Heap} {out : Out} {st : St} (ids : List Id) {ws : List AV} (h1 : tupOf rs.length (out.f ids).1 = some ws)
    (h2 : (resA tb st.T rs).run st.H fun vs => (passAll vs ws).run st.H fun fz => idsOk Hin (fz ++ st.H) out.ch [] ids ∧ entsOk (fz ++ st.H) [] ((out.f ids).2 ++ Hin)) : @FinI tb rs Hin out ⟨st⟩ :=
  ⟨ids, ws, h1, (RM.run_bind _ _ _).2 h2⟩
theorem fresh_f {f : Id → AV × Heap} {r : Id} : (Out.fresh f).f [r] = f r := rfl
theorem fresh_ch {f : Id → AV × Heap} : (Out.fresh f).ch = [none] := rfl
theorem val_f {v : AV} {ids : List Id} : (Out.val v).f ids = (v, []) := rfl
theorem val_ch {v : AV} : (Out.val v).ch = [] := rfl
theorem tupOf_one {v : AV} : tupOf 1 v = some [v] := rfl
end Go.Am
namespace Go.Am
theorem r_need_nil {α : Type} {H : Heap} {k : RM α} {K} : (RM.need [] k).run H K = k.run H K := by simp [RM.run]
theorem r_need_cons {α : Type} {H : Heap} {r e h} {k : RM α} {K} : (RM.need ((r, e) :: h) k).run H K = (hf H r = some e ∧ (RM.need h k).run H K) := by simp [RM.run, and_assoc]
theorem apart_nil {g} : apart [] g = True := rfl
theorem apart_cons {k e l g} : apart ((k, e) :: l) g = (freshBut none g k ∧ apart l g) := rfl
theorem notIn_nil {r} : notIn [] r = True := rfl
theorem freshBut_nil {c r} : freshBut c [] r = True := rfl
end Go.Am
namespace Go.Am
def asB (l : List AV) : List AV := l
theorem row_asB {e fz : Nat} {n : Int} {l : List AV} : Ent.row e 1 (AV.int .u8 n :: l) fz = Ent.row e 1 (asB (AV.int .u8 n :: l)) fz := rfl
theorem asB_cons {a : AV} {l : List AV} : asB (a :: l) = a :: asB l := rfl
theorem asB_nil : asB [] = bys [] := rfl
theorem bys_cons {n : Int} {l : List UInt8} (h0 : 0 ≤ n) (h1 : n < 256) : AV.int .u8 n :: bys l = bys (byOf n :: l) := by
  have := bys_one h0 h1
  simp only [bys, List.map_cons, List.map_nil, List.cons.injEq, and_true] at this
  simp [bys, this]
end Go.Am
set_option linter.unusedVariables false
namespace Go.Am
section
variable {P : Program} {tb : Nat → Option TyA} {sp : FuncId → List AV → RM CallSpec}

/-- the slots that are told hold what is told -/
def wkT (T : List (Nat × AV)) : List (Nat × AV) → Prop
  | [] => True
  | (k, v) :: l => lk T k = v ∧ wkT T l
def wk (st st' : St) : Prop := wkT st.T st'.T ∧ entsOk st.H [] st'.H
theorem wkT_spec {T : List (Nat × AV)} : ∀ {T' : List (Nat × AV)}, wkT T T' → ∀ t, lk T' t = lk T t ∨ lk T' t = .any
  | [], _, t => .inr rfl
  | (k, v) :: l, ⟨h1, h2⟩, t => by
    simp only [lk]
    split
    · rename_i e; subst e; exact .inl h1.symm
    · exact wkT_spec h2 t
theorem wk_ent {st st' : St} {K : St → Prop} (h : wk st st') (hK : K st') : Ent' P st K := by
  intro B a w R hs
  refine ⟨R, st', ⟨hs.step.drop fun r e he => entsOk_spec h.2 r e he (by simp), hs.size, fun t => ?_, hs.defers⟩, hK⟩
  rcases wkT_spec h.1 t with e | e
  · rw [e]; exact hs.tmps t
  · rw [e]; exact .any
/-- how a round of a loop ends -/
def Round {α : Type} (S : α → St) (C : α → Prop) (μ : α → Nat) (a : α) (Q : Ex → St → Prop) (e : Ex) (st : St) : Prop :=
  match e with | .normal => ∃ a', C a' ∧ μ a' < μ a ∧ wk st (S a') | e => Q e st
theorem wloop {α : Type} {b : St → (Ex → St → Prop) → Prop} {st : St} {Q : Ex → St → Prop} (S : α → St) (C : α → Prop) (μ : α → Nat) (a0 : α) (hC : C a0) (h0 : wk st (S a0))
    (hmono : ∀ st (Q Q' : Ex → St → Prop), (∀ e st, Q e st → Q' e st) → b st Q → b st Q')
    (step : ∀ a, C a → b (S a) (Round S C μ a Q)) : WLoop P b st Q := by
  refine ⟨fun n st => ∃ a, C a ∧ μ a = n ∧ st = S a, wk_ent h0 ⟨_, a0, hC, rfl, rfl⟩, ?_⟩
  rintro n _ ⟨a, hCa, rfl, rfl⟩
  refine hmono _ _ _ (fun e st h => ?_) (step a hCa)
  cases e with
  | normal =>
    obtain ⟨a', h1, h2, h3⟩ := h
    exact wk_ent h3 ⟨_, h2, a', h1, rfl, rfl⟩
  | exit i => exact h
  | ret => exact h
theorem run_mono {α : Type} {H : Heap} : ∀ (x : RM α) {K K' : α → Prop}, (∀ a, K a → K' a) → x.run H K → x.run H K'
  | .ret a, K, K', hk, h => hk _ h
  | .fail, K, K', hk, h => h
  | .get r k, K, K', hk, h => run_mono (k (hf H r)) hk h
  | .need _ k, K, K', hk, h => ⟨h.1, run_mono k hk h.2⟩
  | .asrt _ k, K, K', hk, h => ⟨h.1, run_mono k hk h.2⟩
  | .dem k, K, K', hk, h => fun b => run_mono (k b) hk (h b)
theorem pick_mono {H : Heap} : ∀ {ch : List (Option Id)} {used : List Id} {K K' : List Id → Prop}, (∀ a, K a → K' a) → pickIds H ch used K → pickIds H ch used K'
  | [], used, K, K', hk, h => hk _ h
  | c :: cs, used, K, K', hk, h => fun r h1 h2 => pick_mono (fun a => hk _) (h r h1 h2)
theorem WL_mono {ops : List Oper} : ∀ (l : List Oper) {st : St} {K K' : St → Prop}, (∀ st, K st → K' st) → WL P tb sp ops l st K → WL P tb sp ops l st K'
  | [], st, K, K', hk, h => hk _ h
  | o :: l, st, K, K', hk, h => by
    simp only [WL] at h ⊢
    exact run_mono _ (fun out h => pick_mono (fun ids h => WL_mono l hk h) h) h
theorem W_mono : ∀ (c : Code) {st : St} {Q Q' : Ex → St → Prop}, (∀ e st, Q e st → Q' e st) → W P tb sp c st Q → W P tb sp c st Q'
  | .skip, st, Q, Q', hq, h => hq _ _ h
  | .seq a b, st, Q, Q', hq, h => by
    simp only [W] at h ⊢
    refine W_mono a (fun e st h => ?_) h
    cases e with
    | normal => exact W_mono b hq h
    | exit i => exact hq _ _ h
    | ret => exact hq _ _ h
  | .region i ops d, st, Q, Q', hq, h => by
    simp only [W] at h ⊢
    cases d with
    | true =>
      simp only [if_true] at h ⊢
      obtain ⟨prs, l, h1, h2, h3, h4⟩ := h
      exact ⟨prs, l, h1, h2, h3, WD_mono (ops := ops) (fun st => hq _ st) l h4⟩
    | false =>
      simp only [Bool.false_eq_true, if_false] at h ⊢
      exact WL_mono _ (fun st => hq _ st) h
  | .cond c a b, st, Q, Q', hq, h => by
    simp only [W, WCond] at h ⊢
    split at h
    · split at h
      · rename_i e; rw [if_pos e]; exact W_mono a hq h
      · rename_i e; rw [if_neg e]; exact W_mono b hq h
    · exact h.elim
  | .block id b, st, Q, Q', hq, h => by
    simp only [W] at h ⊢
    refine W_mono b (fun e st h => ?_) h
    cases e with
    | normal => exact hq _ _ h
    | exit i =>
      simp only [] at h ⊢
      split at h
      · rename_i e; rw [if_pos e]; exact hq _ _ h
      · rename_i e; rw [if_neg e]; exact hq _ _ h
    | ret => exact hq _ _ h
  | .loop b, st, Q, Q', hq, h => by
    simp only [W] at h ⊢
    obtain ⟨I, h1, h2⟩ := h
    refine ⟨I, h1, fun n st hI => W_mono b (fun e st h => ?_) (h2 n st hI)⟩
    cases e with
    | normal => exact h
    | exit i => exact hq _ _ h
    | ret => exact hq _ _ h
  | .exit id, st, Q, Q', hq, h => hq _ _ h
  | .ret, st, Q, Q', hq, h => hq _ _ h
  | .rangeFunc .., _, _, _, _, h => h.elim
  | .scope .., _, _, _, _, h => h.elim
  | .label .., _, _, _, _, h => h.elim
  | .goto .., _, _, _, _, h => h.elim
  | .refuse .., _, _, _, _, h => h.elim
theorem wloopW {α : Type} {c : Code} {st : St} {Q : Ex → St → Prop} (S : α → St) (C : α → Prop) (μ : α → Nat) (a0 : α) (hC : C a0) (h0 : wk st (S a0))
    (step : ∀ a, C a → W P tb sp c (S a) (Round S C μ a Q)) : @WLoopI P (W P tb sp c) ⟨st⟩ ⟨Q⟩ :=
  wloop S C μ a0 hC h0 (fun st Q Q' h h' => W_mono c h h') step
end
end Go.Am
namespace Go.Am
def RoundI {α : Type} (S : α → St) (C : α → Prop) (μ : α → Nat) (a : α) [st : SBox] : Prop := ∃ a', C a' ∧ μ a' < μ a ∧ wk st.s (S a')
theorem r_roundN {α : Type} {S : α → St} {C : α → Prop} {μ : α → Nat} {a : α} {Q st} : Round S C μ a Q .normal st = @RoundI α S C μ a ⟨st⟩ := rfl
theorem r_roundE {α : Type} {S : α → St} {C : α → Prop} {μ : α → Nat} {a : α} {Q i st} : Round S C μ a Q (.exit i) st = Q (.exit i) st := rfl
theorem r_roundR {α : Type} {S : α → St} {C : α → Prop} {μ : α → Nat} {a : α} {Q st} : Round S C μ a Q .ret st = Q .ret st := rfl
theorem round_intro {α : Type} {S : α → St} {C : α → Prop} {μ : α → Nat} {a : α} {st} (a' : α) (h1 : C a') (h2 : μ a' < μ a) (h3 : wk st (S a')) : @RoundI α S C μ a ⟨st⟩ := ⟨a', h1, h2, h3⟩
end Go.Am
set_option linter.unusedVariables false
namespace Go.Am
section
variable {P : Program} {tb : Nat → Option TyA} {sp : FuncId → List AV → RM CallSpec}

/-! regions that only read -/
def roOut (out : Out) (K : AV → Prop) : Prop := out.ch = [] ∧ (out.f []).2 = [] ∧ K (out.f []).1
theorem r_ro {v : AV} {K : AV → Prop} : roOut (.val v) K = K v := by simp [roOut, Out.val]
def putV (T : List (Nat × AV)) (d : Option Nat) (v : AV) : List (Nat × AV) := match d with | some d => (d, v) :: T | none => T
theorem r_putS {T d v} : putV T (some d) v = (d, v) :: T := rfl
theorem r_putN {T v} : putV T none v = T := rfl
variable (P tb sp) in
def WR (ops : List Oper) : List Oper → List (Nat × AV) → Heap → (St → Prop) → Prop
  | [], T, H, K => K ⟨T, H⟩
  | o :: l, T, H, K => (stepRM P tb sp ops T o).run H fun out => roOut out fun v => WR ops l (putV T o.dst v) H K
theorem r_wr_nil {ops T H K} : WR P tb sp ops [] T H K = K ⟨T, H⟩ := rfl
theorem r_wr_cons {ops o l T H K} : WR P tb sp ops (o :: l) T H K = (stepRM P tb sp ops T o).run H fun out => roOut out fun v => WR P tb sp ops l (putV T o.dst v) H K := rfl
theorem RM.runL_of_run {α : Type} {H : Heap} : ∀ {x : RM α} {log : List Id} {K : α → Prop}, x.run H K → x.runL H log (fun a _ => K a)
  | .ret a, log, K, h => h
  | .fail, log, K, h => h
  | .get r k, log, K, h => RM.runL_of_run (x := k (hf H r)) h
  | .need _ k, log, K, h => ⟨h.1, RM.runL_of_run (x := k) h.2⟩
  | .asrt _ k, log, K, h => ⟨h.1, RM.runL_of_run (x := k) h.2⟩
  | .dem k, log, K, h => fun b => RM.runL_of_run (x := k b) (h b)
theorem clash_ro {prs : List (Nat × Nat)} {j : Nat} {log : List Id} : ∀ {tr : Trace}, (∀ e ∈ tr, e.2.2 = []) → clash prs j log [] tr
  | [], _ => trivial
  | (i, log', us') :: tr, h => by
    have : us' = [] := h _ (List.mem_cons_self ..)
    subst this
    exact ⟨fun _ => ⟨trivial, trivial⟩, clash_ro fun e he => h e (List.mem_cons_of_mem _ he)⟩
theorem wd_of_wr {ops : List Oper} {prs : List (Nat × Nat)} {K : St → Prop} : ∀ {l : List Oper} {j : Nat} {st : St} {tr : Trace}, (∀ e ∈ tr, e.2.2 = []) → WR P tb sp ops l st.T st.H K → WD P tb sp ops prs ((l.zipIdx j).map fun p => (p.2, p.1)) st tr K
  | [], j, st, tr, ht, h => h
  | o :: l, j, st, tr, ht, h => by
    simp only [WR] at h
    simp only [List.zipIdx_cons, List.map_cons, WD]
    refine RM.runL_mono (RM.runL_of_run h) fun out log hk => ?_
    obtain ⟨ch, f⟩ := out
    obtain ⟨h1, h2, h3⟩ := hk
    simp only at h1 h2 h3
    subst h1
    simp only [pickIds]
    rw [h2]
    refine ⟨⟨trivial, trivial, trivial⟩, clash_ro ht, wd_of_wr (l := l) (j := j + 1) (st := putO st o.dst (f [])) (fun e he => ?_) ?_⟩
    · rcases List.mem_cons.1 he with rfl | he
      · rfl
      · exact ht e he
    · have e1 : (putO st o.dst (f [])).T = putV st.T o.dst (f []).1 := by cases o.dst <;> rfl
      have e2 : (putO st o.dst (f [])).H = st.H := by simp [putO, h2]
      rw [e1, e2]
      exact h3
theorem draw_ro {ops : List Oper} {T : List (Nat × AV)} {H : Heap} {K : KBox} (ho : orderly ops = true) (h : WR P tb sp ops ops T H K.k) : @WDrawI P tb sp ops ⟨⟨T, H⟩⟩ K :=
  ⟨_, _, ho, rfl, rfl, wd_of_wr (j := 0) (st := ⟨T, H⟩) (fun _ he => by cases he) h⟩

/-! other regions: only the pairs that count -/
def clash' (chk : List Nat) (log us : List Id) : Trace → Prop
  | [] => True
  | (i, log', us') :: tr => (i ∈ chk → disj us (log' ++ us') ∧ disj us' log) ∧ clash' chk log us tr
/-- against reads alone -/
def clashR (chk : List Nat) (us : List Id) : Trace → Prop
  | [] => True
  | (i, log', us') :: tr => (i ∈ chk → us' = [] ∧ disj us log') ∧ clashR chk us tr
theorem clash_r {chk : List Nat} {log us : List Id} : ∀ {tr : Trace}, clashR chk us tr → clash' chk log us tr
  | [], _ => trivial
  | (i, log', us') :: tr, h => by
    refine ⟨fun hi => ?_, clash_r h.2⟩
    obtain ⟨h1, h2⟩ := h.1 hi
    subst h1
    rw [List.append_nil]
    exact ⟨h2, trivial⟩
variable (P tb sp) in
def WE (ops : List Oper) : List (Bool × List Nat) → Nat → List Oper → List (Nat × AV) → Heap → Trace → (St → Prop) → Prop
  | _, _, [], T, H, _, K => K ⟨T, H⟩
  | [], _, _ :: _, _, _, _, _ => False
  | (rec, chk) :: an, j, o :: l, T, H, tr, K => match rec, chk with
    | false, [] => (stepRM P tb sp ops T o).run H fun out => pickIds H out.ch [] fun ids => tidy H out.ch ids ((out.f ids).2.map Prod.fst) ∧ WE ops an (j + 1) l (putV T o.dst (out.f ids).1) ((out.f ids).2 ++ H) tr K
    | false, c :: chk => if c = 10000 then (stepRM P tb sp ops T o).run H fun out => pickIds H out.ch [] fun ids => tidy H out.ch ids ((out.f ids).2.map Prod.fst) ∧ clashR (c :: chk) ((out.f ids).2.map Prod.fst) tr ∧
        WE ops an (j + 1) l (putV T o.dst (out.f ids).1) ((out.f ids).2 ++ H) tr K
      else (stepRM P tb sp ops T o).runL H [] fun out log => pickIds H out.ch [] fun ids => tidy H out.ch ids ((out.f ids).2.map Prod.fst) ∧ clash' (c :: chk) log ((out.f ids).2.map Prod.fst) tr ∧
        WE ops an (j + 1) l (putV T o.dst (out.f ids).1) ((out.f ids).2 ++ H) tr K
    | true, chk => (stepRM P tb sp ops T o).runL H [] fun out log => pickIds H out.ch [] fun ids => tidy H out.ch ids ((out.f ids).2.map Prod.fst) ∧ clash' chk log ((out.f ids).2.map Prod.fst) tr ∧
        WE ops an (j + 1) l (putV T o.dst (out.f ids).1) ((out.f ids).2 ++ H) ((j, log, (out.f ids).2.map Prod.fst) :: tr) K
theorem r_we_nil {ops an j T H tr K} : WE P tb sp ops an j [] T H tr K = K ⟨T, H⟩ := by cases an <;> rfl
theorem r_we_p {ops an j o l T H tr K} : WE P tb sp ops ((false, []) :: an) j (o :: l) T H tr K = (stepRM P tb sp ops T o).run H fun out => pickIds H out.ch [] fun ids => tidy H out.ch ids ((out.f ids).2.map Prod.fst) ∧ WE P tb sp ops an (j + 1) l (putV T o.dst (out.f ids).1) ((out.f ids).2 ++ H) tr K := rfl
theorem r_we_t {ops chk an j o l T H tr K} : WE P tb sp ops ((true, chk) :: an) j (o :: l) T H tr K = (stepRM P tb sp ops T o).runL H [] fun out log => pickIds H out.ch [] fun ids => tidy H out.ch ids ((out.f ids).2.map Prod.fst) ∧ clash' chk log ((out.f ids).2.map Prod.fst) tr ∧
        WE P tb sp ops an (j + 1) l (putV T o.dst (out.f ids).1) ((out.f ids).2 ++ H) ((j, log, (out.f ids).2.map Prod.fst) :: tr) K := rfl
theorem r_we_R {ops chk an j o l T H tr K} : WE P tb sp ops ((false, 10000 :: chk) :: an) j (o :: l) T H tr K = (stepRM P tb sp ops T o).run H fun out => pickIds H out.ch [] fun ids => tidy H out.ch ids ((out.f ids).2.map Prod.fst) ∧ clashR (10000 :: chk) ((out.f ids).2.map Prod.fst) tr ∧
        WE P tb sp ops an (j + 1) l (putV T o.dst (out.f ids).1) ((out.f ids).2 ++ H) tr K := by
  rw [WE, if_pos rfl]
theorem r_we_c {ops c chk an j o l T H tr K} (hc : ¬ c = 10000) : WE P tb sp ops ((false, c :: chk) :: an) j (o :: l) T H tr K = (stepRM P tb sp ops T o).runL H [] fun out log => pickIds H out.ch [] fun ids => tidy H out.ch ids ((out.f ids).2.map Prod.fst) ∧ clash' (c :: chk) log ((out.f ids).2.map Prod.fst) tr ∧
        WE P tb sp ops an (j + 1) l (putV T o.dst (out.f ids).1) ((out.f ids).2 ++ H) tr K := by
  rw [WE, if_neg hc]
/-- the notes fit the pairs -/
def annOK (prs : List (Nat × Nat)) (an : List (Bool × List Nat)) : Bool :=
  prs.all fun p => (match an[p.1]? with | some (b, _) => b | none => true) && (match an[p.2]? with | some (_, c) => c.contains p.1 | none => true)
theorem clash_of {prs : List (Nat × Nat)} {j : Nat} {log us : List Id} {chk : List Nat} (hc : ∀ i, (i, j) ∈ prs → i ∈ chk) {tr' : Trace} (hx : clash' chk log us tr') : ∀ {tr : Trace}, (∀ e ∈ tr, e ∈ tr' ∨ ∀ j, (e.1, j) ∉ prs) → clash prs j log us tr
  | [], _ => trivial
  | (i, log', us') :: tr, h => by
    refine ⟨fun hp => ?_, clash_of hc hx fun e he => h e (List.mem_cons_of_mem _ he)⟩
    rcases h _ (List.mem_cons_self ..) with h1 | h1
    · clear h
      induction tr' with
      | nil => cases h1
      | cons e tr' ih =>
        obtain ⟨a, b, c⟩ := e
        rcases List.mem_cons.1 h1 with h2 | h2
        · cases h2; exact hx.1 (hc _ hp)
        · exact ih hx.2 h2
    · exact absurd hp (h1 j)
theorem wd_of_we {ops : List Oper} {prs : List (Nat × Nat)} {an0 : List (Bool × List Nat)} {K : St → Prop} (ha : annOK prs an0 = true) : ∀ {l : List Oper} {an : List (Bool × List Nat)} {j : Nat} {st : St} {tr tr' : Trace},
    (∀ n, an[n]? = an0[j + n]?) → (∀ e ∈ tr, e ∈ tr' ∨ ∀ j, (e.1, j) ∉ prs) → WE P tb sp ops an j l st.T st.H tr' K → WD P tb sp ops prs ((l.zipIdx j).map fun p => (p.2, p.1)) st tr K
  | [], an, j, st, tr, tr', hn, ht, h => by rw [r_we_nil] at h; exact h
  | o :: l, [], j, st, tr, tr', hn, ht, h => h.elim
  | o :: l, (rec, chk) :: an, j, st, tr, tr', hn, ht, h => by
    have hj : an0[j]? = some (rec, chk) := by have := hn 0; simpa using this.symm
    have hn' : ∀ n, an[n]? = an0[(j + 1) + n]? := fun n => by
      have := hn (n + 1)
      rw [List.getElem?_cons_succ] at this
      rw [this]; congr 1; omega
    simp only [annOK, List.all_eq_true, Bool.and_eq_true] at ha
    have hchk : ∀ i, (i, j) ∈ prs → i ∈ chk := fun i hi => by
      have := (ha _ hi).2
      simp only [hj] at this
      simpa using this
    have hrec : rec = false → ∀ k, (j, k) ∉ prs := fun hr k hk => by
      have := (ha _ hk).1
      simp only [hj, hr] at this
      cases this
    simp only [List.zipIdx_cons, List.map_cons, WD]
    have e1 : ∀ o' : AV × Heap, (putO st o.dst o').T = putV st.T o.dst o'.1 := fun o' => by cases o.dst <;> rfl
    have e2 : ∀ o' : AV × Heap, (putO st o.dst o').H = o'.2 ++ st.H := fun o' => rfl
    have ha' : annOK prs an0 = true := by simp only [annOK, List.all_eq_true, Bool.and_eq_true]; exact ha
    have go : ∀ (out : Out) (log : List Id), (pickIds st.H out.ch [] fun ids => tidy st.H out.ch ids ((out.f ids).2.map Prod.fst) ∧ clash' chk log ((out.f ids).2.map Prod.fst) tr' ∧
        WE P tb sp ops an (j + 1) l (putV st.T o.dst (out.f ids).1) ((out.f ids).2 ++ st.H) (if rec = true then (j, log, (out.f ids).2.map Prod.fst) :: tr' else tr') K) →
        pickIds st.H out.ch [] fun ids => tidy st.H out.ch ids ((out.f ids).2.map Prod.fst) ∧ clash prs j log ((out.f ids).2.map Prod.fst) tr ∧
        WD P tb sp ops prs ((l.zipIdx (j + 1)).map fun p => (p.2, p.1)) (putO st o.dst (out.f ids)) ((j, log, (out.f ids).2.map Prod.fst) :: tr) K := by
      intro out log hp
      refine pick_mono (fun ids hk => ?_) hp
      refine ⟨hk.1, clash_of hchk hk.2.1 ht, wd_of_we ha' hn' ?_ (by rw [e1, e2]; exact hk.2.2)⟩
      intro e he
      rcases List.mem_cons.1 he with rfl | he
      · cases rec with
        | true => exact .inl (by simp)
        | false => exact .inr (hrec rfl)
      · rcases ht e he with h1 | h1
        · left; split
          · exact List.mem_cons_of_mem _ h1
          · exact h1
        · exact .inr h1
    have full : (stepRM P tb sp ops st.T o).runL st.H [] (fun out log => pickIds st.H out.ch [] fun ids => tidy st.H out.ch ids ((out.f ids).2.map Prod.fst) ∧ clash' chk log ((out.f ids).2.map Prod.fst) tr' ∧
        WE P tb sp ops an (j + 1) l (putV st.T o.dst (out.f ids).1) ((out.f ids).2 ++ st.H) (if rec = true then (j, log, (out.f ids).2.map Prod.fst) :: tr' else tr') K) := by
      cases rec with
      | true => exact h
      | false =>
        cases chk with
        | cons c chk =>
          by_cases hc : c = 10000
          · subst hc
            rw [r_we_R] at h
            exact RM.runL_mono (RM.runL_of_run h) fun out log hk => pick_mono (fun ids hk => ⟨hk.1, clash_r hk.2.1, by simpa using hk.2.2⟩) hk
          · rw [r_we_c hc] at h
            exact h
        | nil =>
          rw [r_we_p] at h
          refine RM.runL_mono (RM.runL_of_run h) fun out log hk => pick_mono (fun ids hk => ⟨hk.1, ?_, by simpa using hk.2⟩) hk
          have : ∀ tr : Trace, clash' [] log ((out.f ids).2.map Prod.fst) tr := by
            intro tr
            induction tr with
            | nil => trivial
            | cons e tr ih => exact ⟨fun h => (by cases h), ih⟩
          exact this _
    exact RM.runL_mono full fun out log hk => go out log hk
theorem draw_we {ops : List Oper} {T : List (Nat × AV)} {H : Heap} {K : KBox} (an : List (Bool × List Nat)) (ho : orderly ops = true) (ha : annOK (memPairs ops) an = true) (h : WE P tb sp ops an 0 ops T H [] K.k) : @WDrawI P tb sp ops ⟨⟨T, H⟩⟩ K :=
  ⟨_, _, ho, rfl, rfl, wd_of_we (j := 0) (st := ⟨T, H⟩) ha (fun n => by simp) (fun _ he => by cases he) h⟩

/-! what is asked of ids -/
theorem tidy_val {H : Heap} : tidy H [] [] [] = True := by simp [tidy, covers, keysOk, chOk]
theorem covers_nil {us} : covers us [] = True := rfl
theorem covers_cons {us i is} : covers us (i :: is) = (i ∈ us ∧ covers us is) := rfl
theorem keysOk_nil {H ids} : keysOk H ids [] = True := rfl
theorem keysOk_cons {H ids k ks} : keysOk H ids (k :: ks) = ((k ∈ ids ∨ hf H k ≠ none) ∧ keysOk H ids ks) := rfl
theorem chOk_nil {H} : chOk H [] = True := rfl
theorem chOk_n {H l} : chOk H (none :: l) = chOk H l := by simp [chOk]
theorem chOk_s {H q l} : chOk H (some q :: l) = (hf H q ≠ none ∧ chOk H l) := rfl
theorem tidy_def {H ch ids us} : tidy H ch ids us = (covers us ids ∧ keysOk H ids us ∧ chOk H ch) := rfl
theorem clash'_nil {chk log us} : clash' chk log us [] = True := rfl
theorem clash'_cons {chk log us i log' us' tr} : clash' chk log us ((i, log', us') :: tr) = ((i ∈ chk → disj us (log' ++ us') ∧ disj us' log) ∧ clash' chk log us tr) := rfl
theorem clashR_nil {chk us} : clashR chk us [] = True := rfl
theorem clashR_cons {chk us i log' us' tr} : clashR chk us ((i, log', us') :: tr) = ((i ∈ chk → us' = [] ∧ disj us log') ∧ clashR chk us tr) := rfl
theorem disj_nil {l} : disj [] l = True := rfl
theorem disj_cons {a l m} : disj (a :: l) m = (notIn m a ∧ disj l m) := rfl
theorem r_runL_ret {α H} {x : α} {log K} : (RM.ret x).runL H log K = K x log := rfl
theorem r_runL_get {α H r} {k : Option Ent → RM α} {log K} : (RM.get r k).runL H log K = (k (hf H r)).runL H (r :: log) K := rfl
theorem r_runL_asrt {α H p} {k : RM α} {log K} : (RM.asrt p k).runL H log K = (p ∧ k.runL H log K) := rfl
theorem r_runL_need {α H h} {k : RM α} {log K} : (RM.need h k).runL H log K = ((∀ p, p ∈ h → hf H p.1 = some p.2) ∧ k.runL H (h.map Prod.fst ++ log) K) := rfl
theorem r_runL_fail {α H} {log K} : (RM.fail : RM α).runL H log K = False := rfl
theorem r_runL_ite {α H c} [Decidable c] {x y : RM α} {log K} : (if c then x else y).runL H log K = if c then x.runL H log K else y.runL H log K := by split <;> rfl
theorem notIn_cons {k l r} : notIn (k :: l) r = ((k ≠ r ∧ r ≠ k) ∧ notIn l r) := rfl
theorem r_runL_bind {α β H} {x : RM α} {f : α → RM β} {K} : ∀ {log}, (x.bind f).runL H log K = x.runL H log fun a log => (f a).runL H log K := by
  induction x with
  | ret a => intro log; rfl
  | fail => intro log; rfl
  | get r k ih => intro log; exact ih _
  | need h k ih => intro log; simp only [RM.bind, RM.runL, ih]
  | asrt p k ih => intro log; simp only [RM.bind, RM.runL, ih]
  | dem k ih => intro log; simp only [RM.bind, RM.runL, ih]

theorem c_get {α : Type} {r r' : Id} {k : Option Ent → RM α} (h : r = r') : RM.get r k = RM.get r' k := by rw [h]
theorem c_dem {α : Type} {k : Bool → RM α} : RM.dem k = RM.dem k := rfl
theorem c_fresh {f : Id → AV × Heap} : Out.fresh f = Out.fresh f := rfl
theorem c_over {q q' : Id} {f : Id → AV × Heap} (h : q = q') : Out.over q f = Out.over q' f := by rw [h]
theorem c_roOut {o o' : Out} {K} (h : o = o') : roOut o K = roOut o' K := by rw [h]
theorem c_WR {tb'} {ops l T H K} (h : tb = tb') : WR P tb sp ops l T H K = WR P tb' sp ops l T H K := by rw [h]
theorem c_WE {tb'} {ops an j j' l T H tr K} (h : tb = tb') (hj : j = j') : WE P tb sp ops an j l T H tr K = WE P tb' sp ops an j' l T H tr K := by rw [h, hj]
attribute [congr] c_get c_fresh c_over c_roOut c_WR c_WE
/-! a guard's value goes along -/
def semP (p : Prop) [Decidable p] (x : RM Out) : RM Out := if p then x else .ret (.val (.tup []))
theorem r_semGB {g want x} : semG (.bool g) want x = semP (g = want) x := rfl
theorem r_semGI {p : Prop} [Decidable p] {g want x} : semG (if p then .bool g else .tup []) want x = semP (p ∧ g = want) x := by
  unfold semP
  by_cases h : p
  · by_cases h2 : g = want
    · rw [if_pos h, if_pos ⟨h, h2⟩]; simp [semG, h2]
    · rw [if_pos h, if_neg (fun e => h2 e.2)]; simp [semG, h2]
  · rw [if_neg h, if_neg (fun e => h e.1)]; rfl
theorem r_semGN {want x} : semG (.tup []) want x = .ret (.val (.tup [])) := rfl
theorem c_semP {p p' : Prop} {s : Decidable p} [Decidable p'] {x x' : RM Out} (h : p = p') (hx : p' → x = x') : @semP p s x = semP p' x' := by
  subst h
  unfold semP
  by_cases h1 : p
  · rw [if_pos h1, if_pos h1, hx h1]
  · rw [if_neg h1, if_neg h1]
attribute [congr] c_semP
theorem r_semP_val {p : Prop} [Decidable p] {v} : semP p (.ret (.val v)) = .ret (.val (if p then v else .tup [])) := by unfold semP; split <;> rfl
theorem r_semP_t {x} : semP True x = x := if_pos trivial
theorem r_semP_f {x} : semP False x = .ret (.val (.tup [])) := if_neg id
theorem pick_or {g : Bool} {b : Bool} : (if g = true then AV.bool true else if g = false then AV.bool b else AV.tup []) = .bool (g || b) := by cases g <;> rfl
theorem pick_and {g : Bool} {b : Bool} : (if g = true then (if g = true then AV.bool b else AV.tup []) else AV.bool false) = .bool (g && b) := by cases g <;> rfl
theorem pick_bool {g : Bool} {a b : Bool} : (if g = true then AV.bool a else AV.bool b) = .bool (bif g then a else b) := by cases g <;> rfl

/-! conditions -/
theorem wcond_dec {p : Prop} [Decidable p] {x y : Prop} (hx : p → x) (hy : ¬ p → y) : @WCondI (.bool (decide p)) ⟨x⟩ ⟨y⟩ :=
  wcond_split (fun h => hx (of_decide_eq_true h)) (fun h => hy (of_decide_eq_false h))
theorem wcond_not {b : Bool} {x y : Prop} (h : @WCondI (.bool b) ⟨y⟩ ⟨x⟩) : @WCondI (.bool !b) ⟨x⟩ ⟨y⟩ := by cases b <;> exact h
theorem wcond_and {a b : Bool} {x y : Prop} (hx : a = true → b = true → x) (hy : (a && b) = false → y) : @WCondI (.bool (a && b)) ⟨x⟩ ⟨y⟩ :=
  wcond_split (fun h => by simp at h; exact hx h.1 h.2) hy
theorem wcond_or {a b : Bool} {x y : Prop} (hx : (a || b) = true → x) (hy : a = false → b = false → y) : @WCondI (.bool (a || b)) ⟨x⟩ ⟨y⟩ :=
  wcond_split hx (fun h => by simp at h; exact hy h.1 h.2)
end
end Go.Am
set_option linter.unusedVariables false
namespace Go.Am
class GBox (α : Type) where
  k : Option Ent → RM α
/-- asks the heap; rewriting does not go into what follows -/
def getI {α : Type} (r : Id) [g : GBox α] : RM α := RM.get r g.k
theorem r_getI_run {α : Type} {r : Id} {g : GBox α} {H K} : (@getI α r g).run H K = (g.k (hf H r)).run H K := rfl
theorem r_getI_runL {α : Type} {r : Id} {g : GBox α} {H log K} : (@getI α r g).runL H log K = (g.k (hf H r)).runL H (r :: log) K := rfl
theorem r_getI_bind {α β : Type} {r : Id} {g : GBox α} {f : α → RM β} : (@getI α r g).bind f = @getI β r ⟨fun e => (g.k e).bind f⟩ := rfl
def withTy {β : Type} (o : Option TyA) (d : β) (k : TyA → β) : β := match o with | some ty => k ty | none => d
theorem wt_some {β : Type} {ty : TyA} {d : β} {k : TyA → β} : withTy (some ty) d k = k ty := rfl
theorem c_withTy {β : Type} {o o' : Option TyA} {d : β} {k : TyA → β} (h : o = o') : withTy o d k = withTy o' d k := by rw [h]
def withN {β : Type} (o : Option Nat) (d : β) (k : Nat → β) : β := match o with | some n => k n | none => d
theorem wn_some {β : Type} {n : Nat} {d : β} {k : Nat → β} : withN (some n) d k = k n := rfl
theorem c_withN {β : Type} {o o' : Option Nat} {d : β} {k : Nat → β} (h : o = o') : withN o d k = withN o' d k := by rw [h]
def withM {β : Type} (o : Option (Nat × TyA × Nat × TyA)) (d : β) (k : Nat → TyA → Nat → TyA → β) : β := match o with | some (a, b, c, e) => k a b c e | none => d
theorem wm_some {β : Type} {a b c e} {d : β} {k : Nat → TyA → Nat → TyA → β} : withM (some (a, b, c, e)) d k = k a b c e := rfl
theorem c_withM {β : Type} {o o'} {d : β} {k : Nat → TyA → Nat → TyA → β} (h : o = o') : withM o d k = withM o' d k := by rw [h]
attribute [congr] c_withTy c_withN c_withM
section
variable {P : Program} {tb : Nat → Option TyA} {sp : FuncId → List AV → RM CallSpec}
theorem w_esize {t} : esize tb t = withTy (tb t) none fun ty => (match ty.td with | .slice e => withTy (tb e) none fun te => some te.size | _ => none) := by
  unfold esize withTy; rfl
def appOwn (e : Nat) (te : TyA) (r : Id) (sz off len mc : Nat) (ys : List AV) : RM Out :=
  @getI _ r ⟨fun en => (match en with
            | some (.row e' sz' xs fz) =>
              if e' = e ∧ sz' = te.size ∧ sz = sz' ∧ allSz te.size ys = true ∧ roomy (len + ys.length) te.bytes then
                if ¬ (off = 0 ∧ len = xs.length) ∧ off + len + ys.length ≤ xs.length ∧ len + ys.length ≤ mc ∧ fz ≤ off + len then
                  .ret (.upd (.own r [] sz off (len + ys.length) mc) [(r, .row e' sz' (xs.take (off + len) ++ ys ++ xs.drop (off + len + ys.length)) fz)])
                else if off = 0 ∧ len = xs.length then
                  .ret (.over r fun r' => (.own r' [] sz 0 (len + ys.length) (len + ys.length), [(r', .row e' sz' (xs ++ ys) fz), (r, .dead)]))
                else .fail
              else .fail
            | _ => .fail)⟩
def appNil (e : Nat) (te : TyA) (ys : List AV) : RM Out :=
  if roomy ys.length te.bytes ∧ 0 < te.size ∧ allSz te.size ys = true then .ret (.fresh fun r => (.own r [] te.size 0 ys.length ys.length, [(r, .row e te.size ys 0)])) else .fail
theorem w_appendN {t ys} : appendA tb t .nils ys = withTy (tb t) .fail fun ty => (match ty.td with | .slice e => withTy (tb e) .fail fun te => appNil e te ys | _ => .fail) := by
  unfold appendA withTy appNil; rfl
theorem w_appendO {t r sz off len mc ys} : appendA tb t (.own r [] sz off len mc) ys = withTy (tb t) .fail fun ty => (match ty.td with | .slice e => withTy (tb e) .fail fun te => appOwn e te r sz off len mc ys | _ => .fail) := by
  unfold appendA withTy appOwn getI; rfl
theorem w_appendZ {t n} : appendZ tb t n = withTy (tb t) .fail fun ty => (match ty.td with
    | .slice e => withTy (tb e) .fail fun te => if 0 ≤ n ∧ roomy n.toNat te.bytes ∧ 0 < te.size then .ret (.fresh fun r => (.own r [] te.size 0 n.toNat n.toNat, [(r, .row e te.size (List.replicate n.toNat te.zero) 0)])) else .fail
    | _ => .fail) := by unfold appendZ withTy; rfl
theorem w_copyN {t ys} : copyA tb t .nils ys = withN (esize tb t) .fail fun _ => .ret (.val (.int .i64 0)) := by unfold copyA withN; rfl
theorem splice_cells {sz off len : Nat} {vs ys : List AV} (h1 : allSz sz vs = true) (h2 : allSz sz (ys.take len) = true) (h3 : off + len ≤ vs.length) : ncells (.agg vs) = ncells (.agg (spliceA vs off (ys.take len))) := by
  have hy : (ys.take len).length ≤ len := by simp; omega
  have h4 : allSz sz (spliceA vs off (ys.take len)) = true := allSz_append (allSz_append (allSz_take _ h1) h2) (allSz_drop _ h1)
  simp only [ncells]
  rw [ncellsL_allSz h1, ncellsL_allSz h4]
  congr 1
  simp only [spliceA, List.length_append, List.length_take, List.length_drop]
  simp only [List.length_take] at hy
  omega
theorem w_copyO {t r sz off len mc ys} : copyA tb t (.own r [] sz off len mc) ys = if allSz sz (ys.take len) = true ∧ esize tb t = some sz then
    @getI _ r ⟨fun en => (match en with
    | some (.row e sz' xs fz) => if sz = sz' ∧ off + len ≤ xs.length ∧ fz ≤ off then .ret (.upd (.int .i64 ((ys.take len).length : Nat)) [(r, .row e sz' (spliceA xs off (ys.take len)) fz)]) else .fail
    | some (.box v) => (match v with
      | .agg vs => if off + len ≤ vs.length ∧ allSz sz vs = true then .ret (.upd (.int .i64 ((ys.take len).length : Nat)) [(r, .box (.agg (spliceA vs off (ys.take len))))]) else .fail
      | _ => .fail)
    | _ => .fail)⟩
    else .fail := by
  unfold copyA getI
  simp only []
  split
  · rename_i h0
    congr 1
    funext en
    rcases en with _ | e
    · rfl
    · cases e <;> try rfl
      rename_i v
      cases v <;> try rfl
      rename_i vs
      simp only [getP, setP]
      split
      · rename_i h1
        rw [if_pos (splice_cells h1.2 h0.1 h1.1)]
      · rfl
  · rfl
theorem w_copyP {t r s p sz off len mc ys} : copyA tb t (.own r (s :: p) sz off len mc) ys = if allSz sz (ys.take len) = true ∧ esize tb t = some sz then
    @getI _ r ⟨fun en => (match en with
    | some (.row _ _ _ _) => .fail
    | some (.box v) => (match getP v (s :: p) with
      | some (.agg vs) => if off + len ≤ vs.length ∧ allSz sz vs = true then (match setP v (s :: p) (.agg (spliceA vs off (ys.take len))) with | some v' => .ret (.upd (.int .i64 ((ys.take len).length : Nat)) [(r, .box v')]) | none => .fail) else .fail
      | _ => .fail)
    | _ => .fail)⟩
    else .fail := by
  unfold copyA getI; rfl
theorem w_clear {t d} : clearA tb t d = withTy (tb t) .fail fun ty => (match ty.td with
    | .slice e => withTy (tb e) .fail fun te => (match d with
        | .nils => .ret (.val (.tup []))
        | .own r p sz off len mc =>
          if sz = te.size then
          @getI _ r ⟨fun en => (match en with
          | some (.row e' sz' xs fz) => (match p with
            | [] => if e' = e ∧ sz = sz' ∧ off + len ≤ xs.length ∧ fz ≤ off then .ret (.upd (.tup []) [(r, .row e' sz' (spliceA xs off (List.replicate len te.zero)) fz)]) else .fail
            | _ => .fail)
          | _ => .fail)⟩
          else .fail
        | _ => .fail)
    | _ => .fail) := by unfold clearA withTy getI; rfl
theorem w_mapT {t} : mapT tb t = withTy (tb t) none fun ty => (match ty.td with
    | .map k e => withTy (tb k) none fun tk => withTy (tb e) none fun te => if scalarC tk.ct = true then some (k, tk, e, te) else none
    | _ => none) := by
  unfold mapT withTy
  cases tb t with
  | none => rfl
  | some ty =>
    simp only []
    cases ty.td <;> try rfl
    rename_i k e
    simp only []
    cases tb k <;> cases tb e <;> rfl
theorem w_lookup {t m k ok} : lookupA tb t m k ok = withM (mapT tb t) .fail fun _ tk _ te => if fitsK tk k = true then (mapGet m).bind fun l => (lkK tk.ct k l).bind fun o => lkOut ok (match o with | some v => v | none => te.zero) o.isSome else .fail := by
  unfold lookupA withM; rfl
theorem w_mapUpd {t r k v} : mapUpdA tb t (.map r) k v = withM (mapT tb t) .fail fun _ tk e _ => if fitsK tk k = true ∧ fits tb e v = true then @getI _ r ⟨fun en => (match en with
      | some (.map kt et l) => (updK tk.ct k v l).bind fun l' => .ret (.upd .any [(r, .map kt et l')])
      | _ => .fail)⟩ else .fail := by unfold mapUpdA withM getI; rfl
theorem w_delete {t r k} : deleteA tb t (.map r) k = withM (mapT tb t) .fail fun _ tk _ _ => if fitsK tk k = true then @getI _ r ⟨fun en => (match en with
      | some (.map kt et l) => (delK tk.ct k l).bind fun l' => .ret (.upd (.tup []) [(r, .map kt et l')])
      | _ => .fail)⟩ else .fail := by unfold deleteA withM getI; rfl
theorem w_len {t ts x} : semBuiltin tb .len (t :: ts) [x] = withTy (tb t) .fail fun ty => (match lenA ty.td x with | some n => .ret (.val (.int .i64 n)) | none => .fail) := by
  unfold semBuiltin withTy; rfl
theorem w_append {t t2 ts s x} : semBuiltin tb .append (t :: t2 :: ts) [s, x] = withTy (tb t2) .fail fun ty2 => (match ty2.td with
        | .slice _ => (elemsOf x).bind fun ys => appendA tb t s ys
        | .str => (match x with | .str bs => appendA tb t s (bs.map byteA) | _ => .fail)
        | .int _ => (match s, x with | .nils, .int .i64 n => appendZ tb t n | _, _ => .fail)
        | _ => .fail) := by unfold semBuiltin withTy; rfl
theorem w_copy {t ts d x} : semBuiltin tb .copy (t :: ts) [d, x] = (elemsOf x).bind fun ys => copyA tb t d ys := rfl
theorem w_clearB {t ts d} : semBuiltin tb .clear (t :: ts) [d] = clearA tb t d := rfl
theorem w_deleteB {t ts m k} : semBuiltin tb .delete (t :: ts) [m, k] = deleteA tb t m k := rfl
theorem w_cap {t ts} : semBuiltin tb .cap (t :: ts) [.nils] = withN (esize tb t) .fail fun _ => .ret (.val (.int .i64 0)) := by unfold semBuiltin withN; rfl
theorem w_min {ts k a k' b} : semBuiltin tb .min ts [.int k a, .int k' b] = if k = k' then .ret (.val (.int k (if b < a then b else a))) else .fail := rfl
theorem w_max {ts k a k' b} : semBuiltin tb .max ts [.int k a, .int k' b] = if k = k' then .ret (.val (.int k (if a < b then b else a))) else .fail := rfl
theorem w_alloc {T e} : semOp tb T (.alloc e) = withTy (tb e) .fail fun ty => .ret (.fresh fun r => (.ptr r [], [(r, .box ty.zero)])) := by unfold semOp withTy; rfl
theorem w_buildSlice {T t len parts} : semOp tb T (.buildSlice t len parts) = withTy (tb t) .fail fun ty => (match ty.td with
      | .slice e => withTy (tb e) .fail fun te => if 0 < te.size ∧ len * te.size ≤ 16777216 then
            (match fillA (fun i => some (i * te.size, te.size)) (List.replicate len te.zero) (parts.toList.map fun p => (p.1, ev T p.2)) with
            | some xs => (frzAL xs).bind fun y => .ret (.fresh fun r => (.own r [] te.size 0 len len, (r, .row e te.size y.1 0) :: y.2))
            | none => .fail)
          else .fail
      | _ => .fail) := by unfold semOp withTy; rfl
theorem w_makeSlice {T t l c} : semOp tb T (.makeSlice t l c) = withTy (tb t) .fail fun ty => (match ty.td with
      | .slice e => withTy (tb e) .fail fun te => (match ev T l, ev T c with
          | .int .i64 n, .int .i64 m => if 0 ≤ n ∧ n ≤ m ∧ roomy m.toNat te.bytes ∧ 0 < te.size then .ret (.fresh fun r => (.own r [] te.size 0 n.toNat m.toNat, [(r, .row e te.size (List.replicate n.toNat te.zero) 0)])) else .fail
          | _, _ => .fail)
      | _ => .fail) := by unfold semOp withTy; rfl
theorem w_makeMap {T t} : semOp tb T (.makeMap t none) = withM (mapT tb t) .fail fun k _ e _ => .ret (.fresh fun r => (.map r, [(r, .map k e [])])) := by unfold semOp withM; rfl
theorem w_convInt {src dst k n} : convA tb src dst (.int k n) = withTy (tb src) .fail fun a => withTy (tb dst) .fail fun b => (match b.td with
    | .int k' => .ret (.val (.int k' (k'.wrap n)))
    | .str => (match a.td with
      | .slice e => withTy (tb e) .fail fun te => (match te.td with | .int .u8 => (elemsOf (.int k n)).bind fun ys => (match bytesA ys with | some bs => .ret (.val (.str bs)) | none => .fail) | _ => .fail)
      | _ => .fail)
    | _ => .fail) := by
  unfold convA withTy
  cases tb src <;> cases tb dst <;> try rfl
  rename_i a b
  simp only []
  cases b.td <;> try rfl
theorem w_convStr {src dst s} : convA tb src dst (.str s) = withTy (tb src) .fail fun _ => withTy (tb dst) .fail fun b => (match b.td with | .str => .ret (.val (.str s)) | _ => .fail) := by
  unfold convA withTy
  cases tb src <;> cases tb dst <;> try rfl
  rename_i a b
  simp only []
  cases b.td <;> try rfl
theorem w_convL {src dst l} : convA tb src dst (.list l) = withTy (tb src) .fail fun a => withTy (tb dst) .fail fun b => (match b.td with
    | .str => (match a.td with
      | .slice e => withTy (tb e) .fail fun te => (match te.td with | .int .u8 => (elemsOf (.list l)).bind fun ys => (match bytesA ys with | some bs => .ret (.val (.str bs)) | none => .fail) | _ => .fail)
      | _ => .fail)
    | _ => .fail) := by
  unfold convA withTy
  cases tb src <;> cases tb dst <;> try rfl
  rename_i a b
  simp only []
  cases b.td <;> try rfl
theorem w_convO {src dst r p sz off len mc} : convA tb src dst (.own r p sz off len mc) = withTy (tb src) .fail fun a => withTy (tb dst) .fail fun b => (match b.td with
    | .str => (match a.td with
      | .slice e => withTy (tb e) .fail fun te => (match te.td with | .int .u8 => (elemsOf (.own r p sz off len mc)).bind fun ys => (match bytesA ys with | some bs => .ret (.val (.str bs)) | none => .fail) | _ => .fail)
      | _ => .fail)
    | _ => .fail) := by
  unfold convA withTy
  cases tb src <;> cases tb dst <;> try rfl
  rename_i a b
  simp only []
  cases b.td <;> try rfl
theorem w_convN {src dst} : convA tb src dst .nils = withTy (tb src) .fail fun a => withTy (tb dst) .fail fun b => (match b.td with
    | .str => (match a.td with
      | .slice e => withTy (tb e) .fail fun te => (match te.td with | .int .u8 => .ret (.val (.str [])) | _ => .fail)
      | _ => .fail)
    | _ => .fail) := by
  unfold convA withTy
  cases tb src <;> cases tb dst <;> try rfl
  rename_i a b
  simp only []
  cases b.td <;> try rfl
theorem w_fits {t v} : fits tb t v = withTy (tb t) false fun ty => (match ty.td with
    | .struct _ | .arr _ _ => (match v with | .agg vs => ncellsL vs == ty.size | _ => false)
    | _ => isScalar v) := by unfold fits withTy; rfl
theorem w_field {s x f} : fieldA tb s x f = withTy (tb s) none fun ty => (match ty.td with
    | .struct fs => (match fs[f]? with
      | some (ft, off) => (match x with
        | .agg vs => if ncellsL (vs.take f) = off then (match vs[f]? with | some v => if fits tb ft v then some v else none | none => none) else none
        | _ => none)
      | none => none)
    | _ => none) := by unfold fieldA withTy; rfl
theorem w_fieldAddr {s x f} : fieldAddrA tb s x f = withTy (tb s) none fun ty => (match ty.td with
    | .struct fs => (match fs[f]? with
      | some (_, off) => (match x with
        | .ptr r p => some (.ptr r (p ++ [⟨f, off⟩]))
        | .cref (.agg vs) => if ncellsL (vs.take f) = off then (match vs[f]? with | some v => some (.cref v) | none => none) else none
        | _ => none)
      | none => none)
    | _ => none) := by unfold fieldAddrA withTy; rfl
theorem w_load {t r p} : loadA tb t (.ptr r p) = @getI _ r ⟨fun e => (match e with | some e => (match entGet e p with | some v => if fits tb t v then .ret (.val v) else .fail | none => .fail) | none => .fail)⟩ := by unfold loadA getI; rfl
theorem w_loadC {t v} : loadA tb t (.cref v) = if fits tb t v then .ret (.val v) else .fail := rfl
theorem w_store {t r p v} : storeA tb t (.ptr r p) v = @getI _ r ⟨fun e => (match e with
    | some e => if fits tb t v then
        if isRow (some e) then (frzA v).bind fun v' => .asrt (freshBut none v'.2 r) (match entSet e p v'.1 with | some e' => .ret (.upd .any ((r, e') :: v'.2)) | none => .fail)
        else (match entSet e p v with | some e' => .ret (.upd .any [(r, e')]) | none => .fail)
      else .fail
    | none => .fail)⟩ := by unfold storeA getI; rfl
theorem w_build {t parts} : buildA tb t parts = withTy (tb t) none fun ty => (match ty.zero with
    | .agg zs => (match ty.td with
      | .struct fs => (match fillA (fun i => match fs[i]? with | some (ft, off) => (match tb ft with | some fty => some (off, fty.size) | none => none) | none => none) zs parts with | some xs => some (.agg xs) | none => none)
      | .arr _ e => withTy (tb e) none fun te => (match fillA (fun i => some (i * te.size, te.size)) zs parts with | some xs => some (.agg xs) | none => none)
      | _ => none)
    | _ => none) := by unfold buildA withTy; rfl
theorem w_idxL {xs t k n} : idxA tb (.list xs) (.int k n) t = if 0 ≤ n ∧ n < xs.length then (match xs[n.toNat]? with | some v => if esize tb t = some (ncells v) then some (.cref v) else none | none => none) else none := by unfold idxA; rfl
theorem w_idxO {r p sz off len mc t k n} : idxA tb (.own r p sz off len mc) (.int k n) t = if 0 ≤ n ∧ n < len ∧ esize tb t = some sz then some (.ptr r (p ++ [⟨off + n.toNat, (off + n.toNat) * sz⟩])) else none := rfl
theorem w_idxP {r p t k n} : idxA tb (.ptr r p) (.int k n) t = withTy (tb t) none fun ty => (match ty.td with
        | .arr m e => withTy (tb e) none fun te => if 0 ≤ n ∧ n < m then some (.ptr r (p ++ [⟨n.toNat, n.toNat * te.size⟩])) else none
        | _ => none) := by unfold idxA withTy; rfl
theorem w_idxC {vs t k n} : idxA tb (.cref (.agg vs)) (.int k n) t = withTy (tb t) none fun ty => (match ty.td with
        | .arr m e => withTy (tb e) none fun te => if 0 ≤ n ∧ n < m ∧ ncellsL (vs.take n.toNat) = n.toNat * te.size then (match vs[n.toNat]? with | some v => some (.cref v) | none => none) else none
        | _ => none) := by unfold idxA withTy; rfl
theorem w_index {vs t k n} : indexA tb t (.agg vs) (.int k n) = withTy (tb t) none fun ty => (match ty.td with
        | .arr m e => withTy (tb e) none fun te => if 0 ≤ n ∧ n < m ∧ ncellsL (vs.take n.toNat) = n.toNat * te.size then (match vs[n.toNat]? with | some v => if fits tb e v then some v else none | none => none) else none
        | _ => none) := by unfold indexA withTy; rfl
theorem w_indexS {s t k n} : indexA tb t (.str s) (.int k n) = withTy (tb t) none fun ty => (match ty.td with
        | .str => if 0 ≤ n ∧ n < s.length then (match s[n.toNat]? with | some b => some (byteA b) | none => none) else none
        | _ => none) := by unfold indexA withTy; rfl
theorem w_eqA {t xs ys} : eqlA tb t (.agg xs) (.agg ys) = withTy (tb t) .fail fun ty => opt (eqT ty.ct (.agg xs) (.agg ys)) := by unfold eqlA withTy; rfl
theorem w_eqB {t a b} : eqlA tb t (.bool a) (.bool b) = withTy (tb t) .fail fun ty => (match ty.td with | .bool => .ret (decide (a = b)) | _ => .fail) := by unfold eqlA withTy; rfl
def eqlB (ty : TyA) (x y : AV) : RM Bool := match x, y with
    | .bool a, .bool b => (match ty.td with | .bool => .ret (decide (a = b)) | _ => .fail)
    | .agg xs, .agg ys => opt (eqT ty.ct (.agg xs) (.agg ys))
    | x, y => if nilKind ty.td x = true ∧ nilKind ty.td y = true then (if isNil y then nilA x else if isNil x then nilA y else .fail) else .fail
theorem w_eql {t x y} : eqlA tb t x y = withTy (tb t) .fail fun ty => eqlB ty x y := by unfold eqlA withTy; rfl
theorem w_sliceL {t xs lo hi mx} : sliceA tb t (.list xs) lo hi mx = withN (esize tb t) none fun sz => if allSz sz xs = true then (match sliceBd xs.length xs.length lo hi mx with | some (l, h, _) => some (.list ((xs.drop l).take (h - l))) | none => none) else none := by unfold sliceA withN; rfl
theorem w_sliceN {t lo hi mx} : sliceA tb t .nils lo hi mx = withN (esize tb t) none fun _ => (match sliceBd 0 0 lo hi mx with | some _ => some .nils | none => none) := by unfold sliceA withN; rfl
theorem w_sliceO {t r p sz off len mc lo hi mx} : sliceA tb t (.own r p sz off len mc) lo hi mx = if esize tb t = some sz then (match sliceBd len mc lo hi mx with | some (l, h, m) => some (.own r p sz (off + l) (h - l) (m - l)) | none => none) else none := rfl
theorem w_sliceC {t vs lo hi mx} : sliceA tb t (.cref (.agg vs)) lo hi mx = withTy (tb t) none fun ty => (match ty.td with
      | .arr n e => withTy (tb e) none fun te => if vs.length = n ∧ allSz te.size vs = true then (match sliceBd n n lo hi mx with | some (l, h, _) => some (.list ((vs.drop l).take (h - l))) | none => none) else none
      | _ => none) := by unfold sliceA withTy; rfl
theorem w_sliceS {t s lo hi mx} : sliceA tb t (.str s) lo hi mx = withTy (tb t) none fun ty => (match ty.td with
      | .str => (match mx with | none => (match sliceBd s.length s.length lo hi none with | some (l, h, _) => some (.str ((s.drop l).take (h - l))) | none => none) | some _ => none)
      | _ => none) := by unfold sliceA withTy; rfl
theorem w_sliceP {t r p lo hi mx} : sliceRM tb t (.ptr r p) lo hi mx = withTy (tb t) .fail fun ty => (match ty.td with
    | .arr n e => withTy (tb e) .fail fun te => @getI _ r ⟨fun en => (match en with
        | some en => (match entGet en p with
          | some (.agg vs) => if vs.length = n ∧ allSz te.size vs = true then (match sliceBd n n lo hi mx with | some (l, h, m) => .ret (.val (.own r p te.size l (h - l) (m - l))) | none => .fail) else .fail
          | _ => .fail)
        | none => .fail)⟩
    | _ => .fail) := by unfold sliceRM sliceArr withTy getI; rfl
theorem w_sliceRL {t xs lo hi mx} : sliceRM tb t (.list xs) lo hi mx = optOut (sliceA tb t (.list xs) lo hi mx) := rfl
theorem w_sliceRN {t lo hi mx} : sliceRM tb t .nils lo hi mx = optOut (sliceA tb t .nils lo hi mx) := rfl
theorem w_sliceRO {t r p sz off len mc lo hi mx} : sliceRM tb t (.own r p sz off len mc) lo hi mx = optOut (sliceA tb t (.own r p sz off len mc) lo hi mx) := rfl
theorem w_sliceRC {t v lo hi mx} : sliceRM tb t (.cref v) lo hi mx = optOut (sliceA tb t (.cref v) lo hi mx) := rfl
theorem w_sliceRS {t v lo hi mx} : sliceRM tb t (.str v) lo hi mx = optOut (sliceA tb t (.str v) lo hi mx) := rfl
/-! each operation -/
def boolPick (c a b : AV) : RM Out := match c with | .bool t => .ret (.val (if t = true then a else b)) | _ => .fail
theorem bp_bool {t a b} : boolPick (.bool t) a b = .ret (.val (if t = true then a else b)) := rfl
theorem sx_move {T x} : semX P tb sp T (.move x) = .ret (.val (ev T x)) := rfl
theorem sx_assign {T x} : semX P tb sp T (.assign x) = .ret (.val (ev T x)) := rfl
theorem sx_pick {T c a b} : semX P tb sp T (.pick c a b) = boolPick (ev T c) (ev T a) (ev T b) := rfl
theorem sx_alloc {T e} : semX P tb sp T (.alloc e) = withTy (tb e) .fail fun ty => .ret (.fresh fun r => (.ptr r [], [(r, .box ty.zero)])) := w_alloc (T := T)
theorem sx_box {T e x} : semX P tb sp T (.box e x) = if fits tb e (ev T x) then .ret (.fresh fun r => (.ptr r [], [(r, .box (ev T x))])) else .fail := rfl
theorem sx_build {T t p} : semX P tb sp T (.build t p) = optOut (buildA tb t (p.toList.map fun p => (p.1, ev T p.2))) := rfl
theorem sx_load {T t x} : semX P tb sp T (.load t x) = loadA tb t (ev T x) := rfl
theorem sx_store {T t a x} : semX P tb sp T (.store t a x) = storeA tb t (ev T a) (ev T x) := rfl
def nilChk (x : AV) : RM Out := match x with | .ptr r p => .ret (.val (.ptr r p)) | .cref v => .ret (.val (.cref v)) | _ => .fail
theorem nk_p {r p} : nilChk (.ptr r p) = .ret (.val (.ptr r p)) := rfl
theorem nk_c {v} : nilChk (.cref v) = .ret (.val (.cref v)) := rfl
theorem sx_nilCheck {T x} : semX P tb sp T (.nilCheck x) = nilChk (ev T x) := rfl
theorem sx_binOp {T o t x y z} : semX P tb sp T (.binOp o t x y z) = (binA tb o t (ev T x) (ev T y)).bind fun v => .ret (.val v) := rfl
def unA (op : UnOp) (x : AV) : RM Out := match op, x with
    | .not, .bool b => .ret (.val (.bool !b))
    | .neg, .int k n => .ret (.val (.int k (k.wrap (0 - n))))
    | .xor, .int k n => optOut (bitsI .xor k (if k.signed then -1 else k.max) n)
    | _, _ => .fail
theorem un_not {b} : unA .not (.bool b) = .ret (.val (.bool !b)) := rfl
theorem un_neg {k n} : unA .neg (.int k n) = .ret (.val (.int k (k.wrap (0 - n)))) := rfl
theorem un_xor {k n} : unA .xor (.int k n) = optOut (bitsI .xor k (if k.signed then -1 else k.max) n) := rfl
theorem sx_unOp {T o t x} : semX P tb sp T (.unOp o t x) = unA o (ev T x) := rfl
theorem sx_convert {T a b x} : semX P tb sp T (.convert a b x) = convA tb a b (ev T x) := rfl
theorem sx_makeFunc {T f a b} : semX P tb sp T (.makeFunc (.func f) a b) = if notTups (a.toList.map (ev T)) = true ∧ notTups (b.toList.map (ev T)) = true then .ret (.val (.func f (a.toList.map (ev T)) (b.toList.map (ev T)))) else .fail := rfl
theorem sx_makeSlice {T t l c} : semX P tb sp T (.makeSlice t l c) = semOp tb T (.makeSlice t l c) := rfl
theorem sx_buildSlice {T t n p} : semX P tb sp T (.buildSlice t n p) = semOp tb T (.buildSlice t n p) := rfl
theorem sx_slice {T t x lo hi mx} : semX P tb sp T (.slice t x lo hi mx) = sliceRM tb t (ev T x) (lo.map (ev T)) (hi.map (ev T)) (mx.map (ev T)) := rfl
theorem sx_fieldAddr {T s x f} : semX P tb sp T (.fieldAddr s x f) = optOut (fieldAddrA tb s (ev T x) f) := rfl
theorem sx_field {T s x f} : semX P tb sp T (.field s x f) = optOut (fieldA tb s (ev T x) f) := rfl
theorem sx_indexAddr {T t x i} : semX P tb sp T (.indexAddr t x i) = optOut (idxA tb (ev T x) (ev T i) t) := rfl
theorem sx_index {T t x i} : semX P tb sp T (.index t x i) = optOut (indexA tb t (ev T x) (ev T i)) := rfl
def extrA (x : AV) (i : Nat) : RM Out := match x with | .tup vs => optOut vs[i]? | _ => .fail
theorem ex_tup {vs i} : extrA (.tup vs) i = optOut vs[i]? := rfl
theorem sx_extract {T t i} : semX P tb sp T (.extract t i) = extrA (ev T t) i := rfl
theorem sx_makeMap {T t} : semX P tb sp T (.makeMap t none) = semOp tb T (.makeMap t none) := rfl
theorem sx_lookup {T t m k b} : semX P tb sp T (.lookup t m k b) = lookupA tb t (ev T m) (ev T k) b := rfl
theorem sx_mapUpdate {T t m k v} : semX P tb sp T (.mapUpdate t m k v) = mapUpdA tb t (ev T m) (ev T k) (ev T v) := rfl
theorem sx_call {T f ag ts} : semX P tb sp T (.call ⟨.value f, ag, ts⟩) = semCall P sp (ev T f) (ag.toList.map (ev T)) := rfl
theorem sx_blt {T b ag ts} : semX P tb sp T (.call ⟨.builtin b, ag, ts⟩) = semBuiltin tb b ts.toList (ag.toList.map (ev T)) := rfl
theorem w_elemsL {xs} : elemsOf (.list xs) = .ret xs := rfl
theorem w_elemsN : elemsOf .nils = .ret [] := rfl
def elemsR (e : Option Ent) (sz off len : Nat) : RM (List AV) := match e with
    | some (.row _ sz' xs _) => if sz = sz' ∧ off + len ≤ xs.length then .ret ((xs.drop off).take len) else .fail
    | some (.box v) => (match v with | .agg vs => if off + len ≤ vs.length ∧ allSz sz vs = true then .ret ((vs.drop off).take len) else .fail | _ => .fail)
    | some (.cbox v) => (match v with | .agg vs => if off + len ≤ vs.length ∧ allSz sz vs = true then .ret ((vs.drop off).take len) else .fail | _ => .fail)
    | _ => .fail
theorem w_elemsO {r sz off len mc} : elemsOf (.own r [] sz off len mc) = @getI _ r ⟨fun e => elemsR e sz off len⟩ := by
  unfold elemsOf getI
  simp only []
  congr 1
  funext e
  rcases e with _ | e
  · rfl
  · cases e <;> try rfl
    · rename_i v; cases v <;> rfl
    · rename_i v; cases v <;> rfl
theorem w_elemsP {r s p sz off len mc} : elemsOf (.own r (s :: p) sz off len mc) = @getI _ r ⟨fun e => (match e with
    | some (.row _ _ _ _) => .fail
    | some (.box v) => (match getP v (s :: p) with | some (.agg vs) => if off + len ≤ vs.length ∧ allSz sz vs = true then .ret ((vs.drop off).take len) else .fail | _ => .fail)
    | some (.cbox v) => (match getP v (s :: p) with | some (.agg vs) => if off + len ≤ vs.length ∧ allSz sz vs = true then .ret ((vs.drop off).take len) else .fail | _ => .fail)
    | _ => .fail)⟩ := by
  unfold elemsOf getI; rfl
theorem w_frzO {r sz off len mc} : frz (.own r [] sz off len mc) = @getI _ r ⟨fun e => (match e with
      | some (.row e sz' xs fz) => if off + len ≤ xs.length ∧ sz = sz' then .ret (.list ((xs.drop off).take len), [(r, .row e sz' xs xs.length)]) else .fail
      | _ => .fail)⟩ := by unfold frz getI; rfl
theorem w_passO {r sz off len mc ys} : pass1 (.own r [] sz off len mc) (.list ys) = @getI _ r ⟨fun e => (match e with
    | some (.row e' sz' xs fz) => .asrt (sz = sz' ∧ off + len ≤ xs.length ∧ (xs.drop off).take len = ys) (.ret [(r, .row e' sz' xs xs.length)])
    | some (.box v) => (match v with
      | .agg vs => .asrt (off + len ≤ vs.length ∧ (vs.drop off).take len = ys ∧ allSz sz vs = true) (.ret [(r, .cbox v)])
      | _ => .fail)
    | some (.cbox v) => (match v with
      | .agg vs => .asrt (off + len ≤ vs.length ∧ (vs.drop off).take len = ys ∧ allSz sz vs = true) (.ret [])
      | _ => .fail)
    | _ => .fail)⟩ := by
  unfold pass1 getI
  simp only []
  congr 1
  funext e
  rcases e with _ | e
  · rfl
  · cases e <;> try rfl
    · rename_i v; cases v <;> rfl
    · rename_i v; cases v <;> rfl
theorem w_passP {r s p sz off len mc ys} : pass1 (.own r (s :: p) sz off len mc) (.list ys) = @getI _ r ⟨fun e => (match e with
    | some (.row _ _ _ _) => .fail
    | some (.box v) => (match getP v (s :: p) with
      | some (.agg vs) => .asrt (off + len ≤ vs.length ∧ (vs.drop off).take len = ys ∧ allSz sz vs = true) (.ret [(r, .cbox v)])
      | _ => .fail)
    | some (.cbox v) => (match getP v (s :: p) with
      | some (.agg vs) => .asrt (off + len ≤ vs.length ∧ (vs.drop off).take len = ys ∧ allSz sz vs = true) (.ret [])
      | _ => .fail)
    | _ => .fail)⟩ := by unfold pass1 getI; rfl
theorem w_passC {r p v} : pass1 (.ptr r p) (.cref v) = @getI _ r ⟨fun e => (match e with
    | some (.box u) => (match p with | [] => .asrt (u = v) (.ret [(r, .cbox u)]) | _ => .fail)
    | some (.cbox u) => (match p with | [] => .asrt (u = v) (.ret []) | _ => .fail)
    | _ => .fail)⟩ := by unfold pass1 getI; rfl
theorem w_mapG {r} : mapGet (.map r) = @getI _ r ⟨fun e => (match e with | some (.map _ _ l) => .ret l | _ => .fail)⟩ := by unfold mapGet getI; rfl
theorem w_mapGN : mapGet .nilm = .ret [] := rfl
theorem r_gs0 {d op ty p a g l} : gslot (⟨d, op, ty, p, a, g⟩ :: l) 0 = d := rfl
theorem r_gsS {o l n} : gslot (o :: l) (n + 1) = gslot l n := by simp [gslot]
theorem r_gb_get {p : Prop} [Decidable p] {r : Id} {k : GBox Out} {H : Heap} {K : Out → Prop} : (semP p (@getI Out r k)).run H K = (semP p (k.k (hf H r))).run H K := by
  unfold semP getI; split <;> rfl
theorem r_gb_asrtT {p : Prop} [Decidable p] {x : RM Out} {H : Heap} {K : Out → Prop} : (semP p (.asrt True x)).run H K = (semP p x).run H K := by
  unfold semP; split <;> simp [RM.run]
theorem r_gb_need {p : Prop} [Decidable p] {x : RM Out} {H : Heap} {K : Out → Prop} : (semP p (.need [] x)).run H K = (semP p x).run H K := by
  unfold semP; split <;> simp [RM.run]
end
theorem pick_and' {g : Bool} {b : Bool} : (if g = true then AV.bool b else AV.bool false) = .bool (g && b) := by cases g <;> rfl
theorem pick_or' {g : Bool} {b : Bool} : (if g = true then AV.bool true else AV.bool b) = .bool (g || b) := by cases g <;> rfl
end Go.Am
namespace Go.Am
section
variable {tb : Nat → Option TyA} {Hin : Heap} {st : St}
theorem Fin_v1 {rs : List ResultVar} {v : AV} (hl : rs.length = 1) (h : (resA tb st.T rs).run st.H fun vs => (passAll vs [v]).run st.H fun fz => entsOk (fz ++ st.H) [] Hin) : @FinI tb rs Hin (.val v) ⟨st⟩ :=
  Fin_intro [] (by rw [hl]; rfl) (by simpa [Out.val, idsOk] using h)
theorem Fin_vn {rs : List ResultVar} {l : List AV} (hl : rs.length = 1 → False) (h : (resA tb st.T rs).run st.H fun vs => (passAll vs l).run st.H fun fz => entsOk (fz ++ st.H) [] Hin) : @FinI tb rs Hin (.val (.tup l)) ⟨st⟩ :=
  Fin_intro [] (by unfold tupOf; rw [if_neg hl]; rfl) (by simpa [Out.val, idsOk] using h)
theorem Fin_f1 {rs : List ResultVar} {f : Id → AV × Heap} (hl : rs.length = 1) (h : ∃ r, (resA tb st.T rs).run st.H fun vs => (passAll vs [(f r).1]).run st.H fun fz => idsOk Hin (fz ++ st.H) [none] [] [r] ∧ entsOk (fz ++ st.H) [] ((f r).2 ++ Hin)) : @FinI tb rs Hin (.fresh f) ⟨st⟩ := by
  obtain ⟨r, h⟩ := h
  exact Fin_intro [r] (by rw [hl]; rfl) h
theorem Fin_fn {rs : List ResultVar} {f : Id → AV × Heap} {l : Id → List AV} (hl : rs.length = 1 → False) (hf : ∀ r, (f r).1 = .tup (l r)) (h : ∃ r, (resA tb st.T rs).run st.H fun vs => (passAll vs (l r)).run st.H fun fz => idsOk Hin (fz ++ st.H) [none] [] [r] ∧ entsOk (fz ++ st.H) [] ((f r).2 ++ Hin)) : @FinI tb rs Hin (.fresh f) ⟨st⟩ := by
  obtain ⟨r, h⟩ := h
  refine Fin_intro [r] (ws := l r) ?_ h
  show tupOf rs.length (f r).1 = _
  rw [hf]; unfold tupOf; rw [if_neg hl]
theorem Fin_u1 {rs : List ResultVar} {v : AV} {u : Heap} (hl : rs.length = 1) (h : (resA tb st.T rs).run st.H fun vs => (passAll vs [v]).run st.H fun fz => entsOk (fz ++ st.H) [] (u ++ Hin)) : @FinI tb rs Hin (.upd v u) ⟨st⟩ :=
  Fin_intro [] (by rw [hl]; rfl) (by simpa [Out.upd, idsOk] using h)
theorem Fin_un {rs : List ResultVar} {l : List AV} {u : Heap} (hl : rs.length = 1 → False) (h : (resA tb st.T rs).run st.H fun vs => (passAll vs l).run st.H fun fz => entsOk (fz ++ st.H) [] (u ++ Hin)) : @FinI tb rs Hin (.upd (.tup l) u) ⟨st⟩ :=
  Fin_intro [] (by unfold tupOf; rw [if_neg hl]; rfl) (by simpa [Out.upd, idsOk] using h)
end
section
variable {α : Type}
theorem r_run_iteI {c : Prop} [Decidable c] {x y : RM α} {H : Heap} {K : α → Prop} : (if c then x else y).run H K = @WCondI (.bool (decide c)) ⟨x.run H K⟩ ⟨y.run H K⟩ := by
  unfold WCondI WCond
  by_cases h : c <;> simp [h]
end
end Go.Am
namespace Go.Am
/-! calls: the contract's own words are kept as they were written -/
class SpB where
  s : CallSpec
def retS [b : SpB] : RM CallSpec := .ret b.s
def mkS (pargs : List AV) (Hin : Heap) (out : Out) (tmp : Bool) : RM CallSpec := .ret ⟨pargs, Hin, out, tmp⟩
theorem r_mkS {a b c d} : mkS a b c d = @retS ⟨⟨a, b, c, d⟩⟩ := rfl
def pureS (pargs : List AV) (v : AV) : RM CallSpec := .ret ⟨pargs, [], .val v, true⟩
theorem r_pureS {a v} : pureS a v = @retS ⟨⟨a, [], .val v, true⟩⟩ := rfl
def callW (P : Program) (f : FuncId) (x : RM CallSpec) (args : List AV) : RM Out := x.bind fun s => .asrt (FnG P f s.pargs s.Hin s.out) (callRM args s.pargs s.Hin s.out s.tmp)
theorem c_callW {P f} {x x' : RM CallSpec} {args} (h : x = x') : callW P f x args = callW P f x' args := by rw [h]
attribute [congr] c_callW
theorem r_callW {P f p h o t args} : callW P f (@retS ⟨⟨p, h, o, t⟩⟩) args = .asrt (FnG P f p h o) (callRM args p h o t) := rfl
theorem r_callW_get {P f r k args} : callW P f (@getI _ r k) args = @getI _ r ⟨fun e => callW P f (k.k e) args⟩ := rfl
theorem r_callW_ite {P f c args H K} [Decidable c] {x y : RM CallSpec} : (callW P f (if c then x else y) args).run H K = @WCondI (.bool (decide c)) ⟨(callW P f x args).run H K⟩ ⟨(callW P f y args).run H K⟩ := by
  unfold WCondI WCond
  by_cases h : c <;> simp [h]
theorem r_call' {P : Program} {sp : FuncId → List AV → RM CallSpec} {f fi ca args} : semCall P sp (.func f fi ca) args = callW P f (sp f (fi ++ args ++ ca)) (fi ++ args ++ ca) := rfl
theorem r_retS_bind {α : Type} {b : SpB} {f : CallSpec → RM α} : (@retS b).bind f = f b.s := rfl
end Go.Am
namespace Go.Am
section
variable {P : Program} {tb : Nat → Option TyA} {sp : FuncId → List AV → RM CallSpec}
theorem r_regF {i l st Q} : W P tb sp (.region i (List.toArray l) false) st Q = WL P tb sp l l st (Q .normal) := rfl
theorem r_regT {i l st Q} : W P tb sp (.region i (List.toArray l) true) st Q = @WDrawI P tb sp l ⟨st⟩ ⟨Q .normal⟩ := rfl
end
end Go.Am
namespace Go.Am
section
variable {P : Program} {tb : Nat → Option TyA} {sp : FuncId → List AV → RM CallSpec} {ops l : List Oper} {d : Option Nat} {op : Op} {ty : TypeId} {p : String} {a : Array Edge} {g : Nat} {w : Bool} {T : List (Nat × AV)} {H : Heap} {K : St → Prop} {an : List (Bool × List Nat)} {j : Nat} {tr : Trace} {c : Nat} {chk : List Nat}
theorem n_wl : WL P tb sp ops (⟨d, op, ty, p, a, none⟩ :: l) ⟨T, H⟩ K = (semX P tb sp T op).run H fun out => evalOut ⟨T, H⟩ d out fun st' => WL P tb sp ops l st' K := rfl
theorem n_wlg : WL P tb sp ops (⟨d, op, ty, p, a, some (g, w)⟩ :: l) ⟨T, H⟩ K = (semG (gval ops T g) w (semX P tb sp T op)).run H fun out => evalOut ⟨T, H⟩ d out fun st' => WL P tb sp ops l st' K := rfl
theorem n_wr : WR P tb sp ops (⟨d, op, ty, p, a, none⟩ :: l) T H K = (semX P tb sp T op).run H fun out => roOut out fun v => WR P tb sp ops l (putV T d v) H K := rfl
theorem n_wrg : WR P tb sp ops (⟨d, op, ty, p, a, some (g, w)⟩ :: l) T H K = (semG (gval ops T g) w (semX P tb sp T op)).run H fun out => roOut out fun v => WR P tb sp ops l (putV T d v) H K := rfl
theorem n_we : WE P tb sp ops ((false, []) :: an) j (⟨d, op, ty, p, a, none⟩ :: l) T H tr K = (semX P tb sp T op).run H fun out => pickIds H out.ch [] fun ids => tidy H out.ch ids ((out.f ids).2.map Prod.fst) ∧ WE P tb sp ops an (j + 1) l (putV T d (out.f ids).1) ((out.f ids).2 ++ H) tr K := rfl
theorem n_weg : WE P tb sp ops ((false, []) :: an) j (⟨d, op, ty, p, a, some (g, w)⟩ :: l) T H tr K = (semG (gval ops T g) w (semX P tb sp T op)).run H fun out => pickIds H out.ch [] fun ids => tidy H out.ch ids ((out.f ids).2.map Prod.fst) ∧ WE P tb sp ops an (j + 1) l (putV T d (out.f ids).1) ((out.f ids).2 ++ H) tr K := rfl
theorem n_wet : WE P tb sp ops ((true, chk) :: an) j (⟨d, op, ty, p, a, none⟩ :: l) T H tr K = (semX P tb sp T op).runL H [] fun out log => pickIds H out.ch [] fun ids => tidy H out.ch ids ((out.f ids).2.map Prod.fst) ∧ clash' chk log ((out.f ids).2.map Prod.fst) tr ∧
        WE P tb sp ops an (j + 1) l (putV T d (out.f ids).1) ((out.f ids).2 ++ H) ((j, log, (out.f ids).2.map Prod.fst) :: tr) K := rfl
theorem n_weR : WE P tb sp ops ((false, 10000 :: chk) :: an) j (⟨d, op, ty, p, a, none⟩ :: l) T H tr K = (semX P tb sp T op).run H fun out => pickIds H out.ch [] fun ids => tidy H out.ch ids ((out.f ids).2.map Prod.fst) ∧ clashR (10000 :: chk) ((out.f ids).2.map Prod.fst) tr ∧
        WE P tb sp ops an (j + 1) l (putV T d (out.f ids).1) ((out.f ids).2 ++ H) tr K := r_we_R
theorem n_weRg : WE P tb sp ops ((false, 10000 :: chk) :: an) j (⟨d, op, ty, p, a, some (g, w)⟩ :: l) T H tr K = (semG (gval ops T g) w (semX P tb sp T op)).run H fun out => pickIds H out.ch [] fun ids => tidy H out.ch ids ((out.f ids).2.map Prod.fst) ∧ clashR (10000 :: chk) ((out.f ids).2.map Prod.fst) tr ∧
        WE P tb sp ops an (j + 1) l (putV T d (out.f ids).1) ((out.f ids).2 ++ H) tr K := r_we_R
theorem n_wec (hc : ¬ c = 10000) : WE P tb sp ops ((false, c :: chk) :: an) j (⟨d, op, ty, p, a, none⟩ :: l) T H tr K = (semX P tb sp T op).runL H [] fun out log => pickIds H out.ch [] fun ids => tidy H out.ch ids ((out.f ids).2.map Prod.fst) ∧ clash' (c :: chk) log ((out.f ids).2.map Prod.fst) tr ∧
        WE P tb sp ops an (j + 1) l (putV T d (out.f ids).1) ((out.f ids).2 ++ H) tr K := r_we_c hc
end
end Go.Am
namespace Go.Am
/-! handing arguments on -/
class HBox where
  k : Heap → Prop
def passP (H : Heap) (xs ys : List AV) [b : HBox] : Prop := (passAll xs ys).run H b.k
def pass1P (H : Heap) (x y : AV) [b : HBox] : Prop := (passA x y).run H b.k
def passLP (H : Heap) (xs ys : List AV) [b : HBox] : Prop := (passL xs ys).run H b.k
def passBP (H : Heap) (x y : AV) [b : HBox] : Prop := (pass1 x y).run H b.k
theorem pp_nil {H b} : @passP H [] [] b = b.k [] := by simp [passP, passAll, RM.run]
theorem pp_cons {H x y xs ys b} : @passP H (x :: xs) (y :: ys) b = @pass1P H x y ⟨fun a => @passP H xs ys ⟨fun c => b.k (c ++ a)⟩⟩ := by
  simp [passP, pass1P, passAll, r_run_bind, RM.run]
theorem pl_nil {H b} : @passLP H [] [] b = b.k [] := by simp [passLP, passL, RM.run]
theorem pl_cons {H x y xs ys b} : @passLP H (x :: xs) (y :: ys) b = @passBP H x y ⟨fun a => @passLP H xs ys ⟨fun c => b.k (c ++ a)⟩⟩ := by
  simp [passLP, passBP, passL, r_run_bind, RM.run]
def plain1 : AV → Bool
  | .own _ _ _ _ len mc => decide (len ≤ mc)
  | .tup _ => false
  | _ => true
def plainL : List AV → Bool
  | [] => true
  | x :: xs => plain1 x && plainL xs
def plain : AV → Bool
  | .agg xs => plainL xs
  | .func _ fi ca => plainL fi && plainL ca
  | x => plain1 x
def plainA : List AV → Bool
  | [] => true
  | x :: xs => plain x && plainA xs
theorem pass1_plain {x : AV} (h : plain1 x = true) (H : Heap) (K : Heap → Prop) : (pass1 x x).run H K = K [] := by
  cases x <;> simp [plain1] at h <;> simp [pass1, RM.run]
  exact fun _ => h
theorem passL_plain : ∀ {xs : List AV}, plainL xs = true → ∀ (H : Heap) (K : Heap → Prop), (passL xs xs).run H K = K []
  | [], _, H, K => by simp [passL, RM.run]
  | x :: xs, h, H, K => by
    simp only [plainL, Bool.and_eq_true] at h
    simp only [passL, r_run_bind, pass1_plain h.1, passL_plain h.2, r_run_ret, List.append_nil]
theorem passA_plain {x : AV} (h : plain x = true) (H : Heap) (K : Heap → Prop) : (passA x x).run H K = K [] := by
  cases x <;> simp only [plain] at h <;> (first | exact passL_plain h H K | (exact pass1_plain h H K) | skip)
  simp only [Bool.and_eq_true] at h
  simp only [passA, r_run_asrt, r_run_bind, passL_plain h.1, passL_plain h.2, r_run_ret, List.append_nil, true_and]
theorem passAll_plain : ∀ {xs : List AV}, plainA xs = true → ∀ (H : Heap) (K : Heap → Prop), (passAll xs xs).run H K = K []
  | [], _, H, K => by simp [passAll, RM.run]
  | x :: xs, h, H, K => by
    simp only [plainA, Bool.and_eq_true] at h
    simp only [passAll, r_run_bind, passA_plain h.1, passAll_plain h.2, r_run_ret, List.append_nil]
theorem p1_refl {H x b} (h : plain x = true) : @pass1P H x x b = b.k [] := passA_plain h H b.k
theorem pb_refl {H x b} (h : plain1 x = true) : @passBP H x x b = b.k [] := pass1_plain h H b.k
theorem p1_agg {H xs ys b} : @pass1P H (.agg xs) (.agg ys) b = @passLP H xs ys b := rfl
theorem p1_int {H k n y b} : @pass1P H (.int k n) y b = @passBP H (.int k n) y b := by cases y <;> rfl
theorem p1_own {H r p sz off len mc y b} : @pass1P H (.own r p sz off len mc) y b = @passBP H (.own r p sz off len mc) y b := by cases y <;> rfl
theorem p1_nils {H y b} : @pass1P H .nils y b = @passBP H .nils y b := by cases y <;> rfl
theorem p1_list {H l y b} : @pass1P H (.list l) y b = @passBP H (.list l) y b := by cases y <;> rfl
theorem p1_bool {H l y b} : @pass1P H (.bool l) y b = @passBP H (.bool l) y b := by cases y <;> rfl
theorem p1_str {H l y b} : @pass1P H (.str l) y b = @passBP H (.str l) y b := by cases y <;> rfl
theorem p1_ptr {H r p y b} : @pass1P H (.ptr r p) y b = @passBP H (.ptr r p) y b := by cases y <;> rfl
theorem p1_cref {H v y b} : @pass1P H (.cref v) y b = @passBP H (.cref v) y b := by cases y <;> rfl
theorem p1_map {H r y b} : @pass1P H (.map r) y b = @passBP H (.map r) y b := by cases y <;> rfl
theorem p1_nilp {H y b} : @pass1P H .nilp y b = @passBP H .nilp y b := by cases y <;> rfl
theorem p1_func {H f fi ca g gi cb b} : @pass1P H (.func f fi ca) (.func g gi cb) b = (f = g ∧ @passLP H fi gi ⟨fun a => @passLP H ca cb ⟨fun c => b.k (c ++ a)⟩⟩) := by
  simp [pass1P, passLP, passA, r_run_bind, RM.run]
theorem pb_ownl {H r sz off len mc ys b} : @passBP H (.own r [] sz off len mc) (.list ys) b = (pass1 (.own r [] sz off len mc) (.list ys)).run H b.k := rfl
theorem pb_ownp {H r s p sz off len mc ys b} : @passBP H (.own r (s :: p) sz off len mc) (.list ys) b = (pass1 (.own r (s :: p) sz off len mc) (.list ys)).run H b.k := rfl
theorem pb_own {H r p sz off len mc r' p' sz' off' len' mc' b} : @passBP H (.own r p sz off len mc) (.own r' p' sz' off' len' mc') b = ((r = r' ∧ p = p' ∧ sz = sz' ∧ off = off' ∧ len = len' ∧ len' ≤ mc' ∧ mc' ≤ mc) ∧ b.k []) := rfl
theorem pb_nil {H ys b} : @passBP H .nils (.list ys) b = (ys = [] ∧ b.k []) := rfl
theorem pb_cref {H r p v b} : @passBP H (.ptr r p) (.cref v) b = (pass1 (.ptr r p) (.cref v)).run H b.k := rfl
theorem pb_int {H k n k' n' b} : @passBP H (.int k n) (.int k' n') b = (AV.int k n = .int k' n' ∧ b.k []) := rfl
theorem pb_list {H l l' b} : @passBP H (.list l) (.list l') b = (AV.list l = .list l' ∧ b.k []) := rfl
theorem pb_bool {H l l' b} : @passBP H (.bool l) (.bool l') b = (AV.bool l = .bool l' ∧ b.k []) := rfl
theorem pb_str {H l l' b} : @passBP H (.str l) (.str l') b = (AV.str l = .str l' ∧ b.k []) := rfl
theorem pb_ptr {H r p r' p' b} : @passBP H (.ptr r p) (.ptr r' p') b = (AV.ptr r p = .ptr r' p' ∧ b.k []) := rfl
theorem pb_agg {H xs ys b} : @passBP H (.agg xs) (.agg ys) b = (AV.agg xs = .agg ys ∧ b.k []) := rfl
def afterCall (H : Heap) (Hin : Heap) (out : Out) (tmp : Bool) (K : Out → Prop) (fz : Heap) : Prop :=
  apart fz Hin ∧ (RM.need Hin (if tmp = true then .asrt (Hin = [] ∧ out.ch = [] ∧ (out.f []).2 = [] ∧ flat (out.f []).1 = true) (.ret out) else .ret ⟨out.ch, fun ids => ((out.f ids).1, (out.f ids).2 ++ fz)⟩)).run H K
theorem r_callRM {args pargs Hin out tmp H K} : (callRM args pargs Hin out tmp).run H K = @passP H args pargs ⟨afterCall H Hin out tmp K⟩ := by
  simp only [callRM, passP, r_run_bind, r_run_asrt]
  rfl
theorem ac_tmp {H out K fz} : afterCall H [] out true K fz = ((out.ch = [] ∧ (out.f []).2 = [] ∧ flat (out.f []).1 = true) ∧ K out) := by
  simp only [afterCall]
  have : apart fz [] = True := by
    induction fz with
    | nil => rfl
    | cons e fz ih => simp [apart, freshBut, ih]
  simp [this, RM.run]
theorem ac_own {H Hin out K fz} : afterCall H Hin out false K fz = (apart fz Hin ∧ (RM.need Hin (.ret ⟨out.ch, fun ids => ((out.f ids).1, (out.f ids).2 ++ fz)⟩)).run H K) := by
  simp [afterCall]
theorem r_gb_call {p : Prop} [Decidable p] {args out H K} (h : plainA args = true) : (semP p (callRM args args [] out true)).run H K = (semP p (.asrt (out.ch = [] ∧ (out.f []).2 = [] ∧ flat (out.f []).1 = true) (.ret out))).run H K := by
  unfold semP
  split
  · rw [r_callRM]
    simp only [passP, passAll_plain h, ac_tmp, r_run_asrt, r_run_ret]
  · rfl
theorem r_gb_call' {p : Prop} [Decidable p] {args pargs Hin out tmp H K} : (semP p (callRM args pargs Hin out tmp)).run H K = @WCondI (.bool (decide p)) ⟨(callRM args pargs Hin out tmp).run H K⟩ ⟨K (.val (.tup []))⟩ := by
  unfold semP WCondI WCond
  by_cases h : p <;> simp [h, RM.run]
theorem plainL_bys (l : List UInt8) : plainL (bys l) = true := by
  induction l with
  | nil => rfl
  | cons b l ih =>
    simp only [bys] at ih
    simp [bys, plainL, plain1, byteA, ih]
end Go.Am
namespace Go.Am
theorem o_guard {α : Type} {c : Prop} {inst : Decidable c} {x : α} (h : c) : @ite (Option α) c inst (some x) none = some x := if_pos h
end Go.Am
namespace Go.Am
theorem r_ro2 {v : AV} {K : AV → Prop} : roOut ⟨[], fun _ => (v, [])⟩ K = K v := by simp [roOut]
end Go.Am
namespace Go.Am
theorem r_passP {xs ys : List AV} {H : Heap} {K : Heap → Prop} : (passAll xs ys).run H K = @passP H xs ys ⟨K⟩ := rfl
end Go.Am
namespace Go.Am
theorem pb_nn {H b} : @passBP H .nils .nils b = b.k [] := by simp [passBP, pass1, RM.run]
theorem pb_pp {H b} : @passBP H .nilp .nilp b = b.k [] := by simp [passBP, pass1, RM.run]
theorem pb_mm {H r r' b} : @passBP H (.map r) (.map r') b = (AV.map r = .map r' ∧ b.k []) := rfl
end Go.Am
set_option linter.unusedVariables false
namespace Go.Am
/-- contracts by function -/
def spL : List (FuncId × (List AV → RM CallSpec)) → FuncId → List AV → RM CallSpec
  | [], _, _ => .fail
  | (g, s) :: l, f, args => if f = g then s args else spL l f args
theorem spL_nil {f args} : spL [] f args = .fail := rfl
theorem spL_cons {g s l f args} : spL ((g, s) :: l) f args = if f = g then s args else spL l f args := rfl
section
variable {P : Program} {tb : Nat → Option TyA} {sp : FuncId → List AV → RM CallSpec}
end
theorem upd_f {v : AV} {u : Heap} {ids : List Id} : (Out.upd v u).f ids = (v, u) := rfl
theorem upd_ch {v : AV} {u : Heap} : (Out.upd v u).ch = [] := rfl
theorem over_f {q : Id} {f : Id → AV × Heap} {r : Id} : (Out.over q f).f [r] = f r := rfl
theorem over_ch {q : Id} {f : Id → AV × Heap} : (Out.over q f).ch = [some q] := rfl
/-- the lowest byte of a number -/
def b8 (n : Int) : UInt8 := byOf (IntKind.u8.wrap n)
theorem byOf_toNat (b : UInt8) : byOf (b.toNat : Int) = b := by simp [byOf]
theorem wrapU8b {n : Int} : IntKind.u8.wrap n = ((b8 n).toNat : Int) := by
  have h : IntKind.u8.wrap n = n % 256 := by simp [IntKind.wrap, IntKind.signed, IntKind.bits]
  have h0 : 0 ≤ n % 256 := by omega
  have h1 : n % 256 < 256 := by omega
  rw [b8, h]
  simp only [byOf, UInt8.toNat_ofNat']
  omega
theorem bys_oneb {b : UInt8} : [AV.int .u8 (b.toNat : Int)] = bys [b] := rfl
theorem bys_consb {b : UInt8} {l : List UInt8} : AV.int .u8 (b.toNat : Int) :: bys l = bys (b :: l) := rfl
attribute [go_sem ↓] n_weR n_weRg r_ro2 r_need_cons r_need_nil ac_own ac_tmp pp_nil pp_cons pl_nil pl_cons r_callRM n_wl n_wlg n_wr n_wrg n_we n_weg n_wet n_wec r_mkS r_pureS r_callW r_gb_get r_gb_asrtT r_gb_need r_seq r_skip r_regF r_block r_exit r_ret r_loop r_cond r_wl_nil ev_tmp ev_const ev_func lk_cons hf_cons lk_nil hf_nil r_roundN r_roundE r_roundR r_regT r_wr_nil r_we_nil r_run_ret r_run_get r_run_asrt r_bind_ret r_bind_get r_bind_asrt r_run_bind sx_move sx_assign sx_pick sx_alloc sx_box sx_build sx_load sx_store sx_nilCheck sx_binOp sx_unOp sx_convert sx_makeFunc sx_makeSlice sx_buildSlice sx_slice sx_fieldAddr sx_field sx_indexAddr sx_index sx_extract sx_makeMap sx_lookup sx_mapUpdate sx_call sx_blt wt_some wn_some wm_some r_val r_val0 r_upd r_upd0 r_fresh r_fresh0 r_over r_mk r_ro r_pick0 r_pick1 r_gval r_getI_run r_getI_runL r_runL_ret r_runL_asrt r_runL_bind r_gs0 r_gsS
attribute [go_sem] clashR_nil clashR_cons pb_nn pb_pp pb_mm Option.isSome_none Option.isSome_some false_implies Nat.le_refl Int.le_refl allSz_nil allSz_cons Int.add_sub_cancel List.length_map Int.cast_ofNat_Int Int.natCast_zero Int.natCast_one o_guard Option.some.injEq p1_refl pb_refl p1_agg p1_int p1_own p1_nils p1_list p1_bool p1_str p1_ptr p1_cref p1_map p1_nilp p1_func pb_ownl pb_ownp pb_own pb_nil pb_cref pb_int pb_list pb_bool pb_str pb_ptr pb_agg r_gb_call plain plain1 plainL plainA plainL_bys decide_true decide_false Bool.not_true Bool.not_false Bool.true_and Bool.and_true Bool.false_and Bool.and_false Bool.true_or Bool.or_true Bool.false_or Bool.or_false Bool.not_not r_callW_get r_callW_ite r_call' Bool.decide_eq_true r_semGI r_semGN r_semP_val r_semP_t r_semP_f pick_and' pick_or' r_condT r_condF initT freshBut ne_eq not_false_eq_true implies_true r_guard roomy_def toNat_cast List.append_eq List.nil_append List.cons_append List.append_nil forall_const constA binA binI cmpI opt r_finN r_finR bys_len bys_take bys_drop bys_app bys_splice bys_zero allSz_bys nc_bys and_self and_true true_and List.length_take List.length_drop List.length_append List.length_replicate Nat.add_zero Nat.zero_add Nat.min_self List.take_length List.take_of_length_le apart_nil apart_cons notIn_nil fresh_ch fresh_f val_ch val_f Bool.false_eq_true true_implies List.getElem?_cons_zero List.getElem?_cons_succ List.set_cons_zero List.set_cons_succ List.take_zero List.take_succ_cons List.replicate Nat.zero_mul Nat.mul_one Nat.one_mul nc_int nc_bool nc_str nc_list nc_nils nc_nilp nc_ptr nc_cref nc_map nc_func nc_own nc_agg ncl_nil ncl_cons known frzAL frzA frzL fillA entGet getP entSet setP isScalar isRow optOut sliceBd bd List.drop_zero List.length_cons List.length_nil Nat.sub_zero or_true true_or false_or or_false false_and and_false not_true_eq_false spL_nil spL_cons r_putS r_putN tidy_def covers_nil covers_cons keysOk_nil keysOk_cons chOk_nil chOk_n chOk_s clash'_nil clash'_cons disj_nil disj_cons r_runL_get r_runL_fail notIn_cons r_semGB pick_or pick_and wrap64 wrapU64 wrapU8b byOf_toNat bys_one bys_cons bys_oneb bys_consb r_run_fail r_bind_fail List.mem_cons List.not_mem_nil lkK updK delK lkOut fitsK scalarC notTup List.map_nil List.map_cons upd_ch upd_f over_ch over_f nilA isNil nilKind r_map w_esize w_appendN w_appendO w_appendZ w_copyN w_copyO w_copyP w_clear w_mapT w_lookup w_mapUpd w_delete w_len w_append w_copy w_clearB w_deleteB w_cap w_min w_max w_alloc w_buildSlice w_makeSlice w_makeMap w_convInt w_convStr w_convL w_convO w_convN w_fits w_field w_fieldAddr w_load w_loadC w_store w_build w_idxL w_idxO w_idxP w_idxC w_index w_indexS w_eql w_sliceL w_sliceN w_sliceO w_sliceC w_sliceS w_sliceP w_sliceRL w_sliceRN w_sliceRO w_sliceRC w_sliceRS appNil appOwn eqlB bp_bool nk_p nk_c un_not un_neg un_xor ex_tup lenA Option.map_some Option.map_none w_elemsL w_elemsN w_elemsO w_elemsP w_frzO w_passO w_passP w_passC w_mapG w_mapGN frz r_getI_bind elemsR
attribute [go_sem low] r_gb_call' r_run_iteI
end Go.Am
set_option linter.unusedVariables false
namespace Go.Am

structure Nm where
  l : List UInt8
  h : l.length = 8
theorem Nm.len (n : Nm) : n.l.length = 8 := n.h
theorem Nm.ext' {a b : Nm} (h : a.l = b.l) : a = b := by cases a; cases b; cases h; rfl
instance : DecidableEq Nm := fun a b => if h : a.l = b.l then .isTrue (Nm.ext' h) else .isFalse fun e => h (by rw [e])
structure Vote where
  kind : Int
  slot : Int
  round : Int
  choice : Int
  signer : Int
  support : Int
  parent : Nm
  value : Nm
  deriving DecidableEq
structure Sgn where
  vote : Vote
  sig : List UInt8
  deriving DecidableEq
structure View where
  votes : List Sgn
  texts : List (List UInt8)
  deriving DecidableEq
def nmA (n : Nm) : AV := .agg (bys n.l)
def voteA (v : Vote) : AV := .agg [.int .i64 v.kind, .int .i64 v.slot, .int .i64 v.round, .int .i64 v.choice, .int .i64 v.signer, .int .i64 v.support, .agg (bys v.parent.l), .agg (bys v.value.l)]
def txtA (t : List UInt8) : AV := .list (bys t)
def sgnA (s : Sgn) : AV := .agg [voteA s.vote, .list (bys s.sig)]
def viewA (v : View) : AV := .agg [.list (v.votes.map sgnA), .list (v.texts.map txtA)]
def nm0 : Nm := ⟨List.replicate 8 0, rfl⟩
theorem nc_nm (n : Nm) : ncells (nmA n) = 8 := by simp [nmA, nc_agg, nc_bys, n.h]
theorem nc_vote (v : Vote) : ncells (voteA v) = 22 := by simp [voteA, nc_agg, ncellsL, nc_int, nc_bys, Nm.len]
theorem nc_txt (t : List UInt8) : ncells (txtA t) = 1 := rfl
theorem nc_sgn (s : Sgn) : ncells (sgnA s) = 23 := by simp [sgnA, nc_agg, ncellsL, nc_vote, nc_list]
theorem allSz_map {α : Type} {f : α → AV} {n : Nat} (h : ∀ a, ncells (f a) = n) (l : List α) : allSz n (l.map f) = true := by
  induction l with
  | nil => rfl
  | cons a l ih => simp [allSz, h, ih]
theorem allSz_sgn (l : List Sgn) : allSz 23 (l.map sgnA) = true := allSz_map nc_sgn l
theorem allSz_txt (l : List (List UInt8)) : allSz 1 (l.map txtA) = true := allSz_map nc_txt l

/-! reading data off values -/
def nmD : AV → Option Nm
  | .agg l => (match bytesA l with | some b => if h : b.length = 8 then some ⟨b, h⟩ else none | none => none)
  | _ => none
theorem nmD_nm (n : Nm) : nmD (.agg (bys n.l)) = some n := by simp [nmD, bytesA_bys, n.h]
def voteD : AV → Option Vote
  | .agg [.int .i64 a, .int .i64 b, .int .i64 c, .int .i64 d, .int .i64 e, .int .i64 f, p, v] => (match nmD p, nmD v with | some p, some v => some ⟨a, b, c, d, e, f, p, v⟩ | _, _ => none)
  | _ => none
theorem voteD_mk {a b c d e f : Int} {p v : Nm} : voteD (.agg [.int .i64 a, .int .i64 b, .int .i64 c, .int .i64 d, .int .i64 e, .int .i64 f, .agg (bys p.l), .agg (bys v.l)]) = some ⟨a, b, c, d, e, f, p, v⟩ := by
  simp [voteD, nmD_nm]
theorem voteD_vote (v : Vote) : voteD (voteA v) = some v := by simp [voteA, voteD_mk]
def txtD : AV → Option (List UInt8)
  | .list l => bytesA l
  | .nils => some []
  | _ => none
theorem txtD_txt (t : List UInt8) : txtD (.list (bys t)) = some t := bytesA_bys t
theorem txtD_nils : txtD .nils = some [] := rfl
def sgnD : AV → Option Sgn
  | .agg [v, s] => (match voteD v, txtD s with | some v, some s => some ⟨v, s⟩ | _, _ => none)
  | _ => none
theorem sgnD_sgn (s : Sgn) : sgnD (sgnA s) = some s := by simp [sgnA, sgnD, voteD_vote, txtD_txt]
def mapD {α : Type} (f : AV → Option α) : List AV → Option (List α)
  | [] => some []
  | x :: l => (match f x, mapD f l with | some a, some r => some (a :: r) | _, _ => none)
theorem mapD_map {α : Type} {f : AV → Option α} {g : α → AV} (h : ∀ a, f (g a) = some a) (l : List α) : mapD f (l.map g) = some l := by
  induction l with
  | nil => rfl
  | cons a l ih => simp [mapD, h, ih]
theorem mapD_sgn (l : List Sgn) : mapD sgnD (l.map sgnA) = some l := mapD_map sgnD_sgn l
theorem mapD_txt (l : List (List UInt8)) : mapD txtD (l.map txtA) = some l := mapD_map txtD_txt l
def lstD {α : Type} (f : AV → Option α) : AV → Option (List α)
  | .list l => mapD f l
  | .nils => some []
  | _ => none
def viewD : AV → Option View
  | .agg [a, b] => (match lstD sgnD a, lstD txtD b with | some a, some b => some ⟨a, b⟩ | _, _ => none)
  | _ => none
theorem viewD_view (v : View) : viewD (viewA v) = some v := by simp [viewA, viewD, lstD, mapD_sgn, mapD_txt]

/-! numbers as bytes -/
def be (v : Nat) : Nat → List UInt8
  | 0 => []
  | k + 1 => be (v / 256) k ++ [UInt8.ofNat v]
theorem be_len (v k : Nat) : (be v k).length = k := by
  induction k generalizing v with
  | zero => rfl
  | succ k ih => simp [be, ih]
theorem be_get (v k m : Nat) (h : m < k) : (be v k)[m]? = some (UInt8.ofNat (v / 256 ^ (k - 1 - m))) := by
  induction k generalizing v m with
  | zero => omega
  | succ k ih =>
    simp only [be]
    by_cases hm : m < k
    · rw [List.getElem?_append_left (by rw [be_len]; exact hm), ih _ _ hm, Nat.div_div_eq_div_mul]
      congr 3
      have : k + 1 - 1 - m = (k - 1 - m) + 1 := by omega
      rw [this, Nat.pow_succ, Nat.mul_comm]
    · have : m = k := by omega
      subst this
      rw [List.getElem?_append_right (by rw [be_len]; omega), be_len]
      simp
theorem be_take (v k m : Nat) (h : m < k) : (be v k).take m ++ [UInt8.ofNat (v / 256 ^ (k - 1 - m))] = (be v k).take (m + 1) := by
  rw [List.take_add_one, be_get v k m h]; rfl
def unbe (l : List UInt8) : Nat := l.foldl (fun a c => a * 256 + c.toNat) 0
theorem unbe_snoc (l : List UInt8) (c : UInt8) : unbe (l ++ [c]) = unbe l * 256 + c.toNat := by simp [unbe]
theorem unbe_nil : unbe [] = 0 := rfl
theorem unbe_lt (l : List UInt8) : unbe l < 256 ^ l.length := by
  suffices ∀ l : List UInt8, unbe l.reverse < 256 ^ l.length by simpa using this l.reverse
  intro l
  induction l with
  | nil => simp [unbe]
  | cons c l ih =>
    rw [List.reverse_cons, unbe_snoc, List.length_cons, Nat.pow_succ]
    have := c.toNat_lt
    have h256 : c.toNat < 256 := this
    have : unbe l.reverse + 1 ≤ 256 ^ l.length := ih
    calc unbe l.reverse * 256 + c.toNat < unbe l.reverse * 256 + 256 := by omega
      _ = (unbe l.reverse + 1) * 256 := by rw [Nat.add_mul]
      _ ≤ 256 ^ l.length * 256 := Nat.mul_le_mul_right _ this
theorem unbe_be (v k : Nat) : unbe (be v k) = v % 256 ^ k := by
  induction k generalizing v with
  | zero => simp [be, unbe_nil, Nat.mod_one]
  | succ k ih =>
    rw [be, unbe_snoc, ih, Nat.pow_succ]
    have h1 : (UInt8.ofNat v).toNat = v % 256 := by simp
    rw [h1, Nat.mul_comm (256 ^ k) 256, Nat.mod_mul]
    omega
theorem be_unbe (l : List UInt8) : be (unbe l) l.length = l := by
  suffices ∀ l : List UInt8, be (unbe l.reverse) l.length = l.reverse by simpa using this l.reverse
  intro l
  induction l with
  | nil => rfl
  | cons c l ih =>
    rw [List.reverse_cons, unbe_snoc, List.length_cons, be]
    have h256 : c.toNat < 256 := c.toNat_lt
    have h1 : (unbe l.reverse * 256 + c.toNat) / 256 = unbe l.reverse := by omega
    rw [h1, ih]
    congr 1
    simp only [List.cons.injEq, and_true]
    apply UInt8.toNat_inj.1
    simp only [UInt8.toNat_ofNat']
    omega
theorem b8_shr (v m : Nat) (h : v < 18446744073709551616) : b8 (((v : Int)).fdiv (2 ^ min (8 * m) 64)) = UInt8.ofNat (v / 256 ^ m) := by
  have e : ((v : Int)).fdiv (2 ^ min (8 * m) 64) = ((v / 256 ^ m : Nat) : Int) := by
    have h2 : (2 : Int) ^ min (8 * m) 64 = ((2 ^ min (8 * m) 64 : Nat) : Int) := by norm_cast
    rw [h2]
    have h3 : ((v : Int)).fdiv ((2 ^ min (8 * m) 64 : Nat) : Int) = ((v / 2 ^ min (8 * m) 64 : Nat) : Int) := by
      rw [Int.fdiv_eq_ediv_of_nonneg _ (Int.natCast_nonneg _)]; norm_cast
    rw [h3]
    congr 1
    have h256 : (256 : Nat) ^ m = 2 ^ (8 * m) := by rw [Nat.pow_mul]
    rw [h256]
    by_cases hm : 8 * m ≤ 64
    · rw [Nat.min_eq_left hm]
    · rw [Nat.min_eq_right (Nat.le_of_lt (Nat.lt_of_not_le hm)), Nat.div_eq_of_lt h, Nat.div_eq_of_lt]
      exact Nat.lt_of_lt_of_le h (Nat.pow_le_pow_right (n := 2) (Nat.le_of_ble_eq_true rfl) (Nat.le_of_lt (Nat.lt_of_not_le hm)) : 2 ^ 64 ≤ 2 ^ (8 * m))
  rw [e]
  unfold b8
  have hw : IntKind.u8.wrap ((v / 256 ^ m : Nat) : Int) = ((v / 256 ^ m : Nat) : Int) % 256 := by simp [IntKind.wrap, IntKind.signed, IntKind.bits]
  rw [hw]
  apply UInt8.toNat_inj.1
  simp only [byOf, UInt8.toNat_ofNat']
  omega
theorem shr_run (v i : Nat) : shiftI .shr .u64 (v : Int) (8 * (i : Int)) = some (.int .u64 ((v : Int).fdiv (2 ^ min (8 * i) 64))) := by
  have h1 : ¬ (8 * (i : Int) < 0) := by omega
  have h2 : (8 * (i : Int)).toNat = 8 * i := by omega
  simp [shiftI, h1, h2, IntKind.bits]
theorem bys_set1 (l : List UInt8) (n : Nat) (b : UInt8) : (bys l).set n (.int .u8 (b.toNat : Int)) = bys (l.set n b) := bys_set l n b
theorem nc_byte (b : UInt8) : ncells (byteA b) = 1 := rfl
theorem byteA_def (b : UInt8) : byteA b = .int .u8 (b.toNat : Int) := rfl
theorem frzAL_bys : ∀ (l : List UInt8), frzAL (bys l) = .ret (bys l, [])
  | [] => rfl
  | b :: l => by
    have := frzAL_bys l
    simp only [bys] at this
    simp [bys, frzAL, frzA, frz, byteA, this, RM.bind]
theorem frzAL_map {α : Type} {f : α → AV} (h : ∀ a, frzA (f a) = .ret (f a, [])) : ∀ l : List α, frzAL (l.map f) = .ret (l.map f, [])
  | [] => rfl
  | b :: l => by simp [frzAL, h, frzAL_map h l, RM.bind]
theorem frzL_bys (l : List UInt8) : frzL (bys l) = .ret (bys l, []) := by
  induction l with
  | nil => rfl
  | cons b l ih =>
    simp only [bys] at ih
    simp [bys, frzL, frz, byteA, ih, RM.bind]
theorem frzA_txt (t : List UInt8) : frzA (txtA t) = .ret (txtA t, []) := rfl
theorem frzA_sgn (s : Sgn) : frzA (sgnA s) = .ret (sgnA s, []) := by simp [sgnA, frzA, frzL, frz, voteA, RM.bind]
theorem frzAL_txt (l : List (List UInt8)) : frzAL (l.map txtA) = .ret (l.map txtA, []) := frzAL_map frzA_txt l
theorem frzAL_sgn (l : List Sgn) : frzAL (l.map sgnA) = .ret (l.map sgnA, []) := frzAL_map frzA_sgn l
theorem zero8 : List.replicate 8 (AV.int .u8 0) = bys nm0.l := rfl
theorem zero8' : (List.replicate 8 (0 : UInt8)) = nm0.l := rfl
theorem eqT_nm (a b : Nm) : eqT (.rep 8 .int) (.agg (bys a.l)) (.agg (bys b.l)) = some (decide (a = b)) := by
  have h : (bys a.l).length = 8 ∧ (bys b.l).length = 8 := by simp [bys_len, Nm.len]
  simp only [eqT, if_pos h]
  rw [eqTR_bys (by rw [a.h, b.h])]
  congr 1
  rw [Bool.eq_iff_iff]
  simp only [decide_eq_true_eq]
  exact ⟨fun h => Nm.ext' h, fun h => by rw [h]⟩
theorem flatL_bys (l : List UInt8) : flatL (bys l) = true := by
  induction l with
  | nil => rfl
  | cons b l ih =>
    simp only [bys] at ih
    simp [bys, flatL, flat, byteA, ih]
def bysM (x : AV) : RM (List UInt8) := (elemsOf x).bind fun xs => opt (bytesA xs)
theorem bysM_l (l : List UInt8) : bysM (.list (bys l)) = .ret l := by simp [bysM, elemsOf, RM.bind, bytesA_bys, opt]
theorem bysM_n : bysM .nils = .ret [] := rfl
theorem bysM_o {r sz off len mc} : bysM (.own r [] sz off len mc) = (elemsOf (.own r [] sz off len mc)).bind fun xs => opt (bytesA xs) := rfl
theorem voteEq_decide (a b : Vote) : (decide (a.kind = b.kind) && (decide (a.slot = b.slot) && (decide (a.round = b.round) && (decide (a.choice = b.choice) && (decide (a.signer = b.signer) && (decide (a.support = b.support) && (decide (a.parent = b.parent) && (decide (a.value = b.value) && true)))))))) = decide (a = b) := by
  cases a; cases b
  rw [Bool.eq_iff_iff]
  simp
theorem eqT_vote (a b : Vote) : eqT (.agg [.int, .int, .int, .int, .int, .int, .rep 8 .int, .rep 8 .int]) (voteA a) (voteA b) = some (decide (a = b)) := by
  rw [← voteEq_decide]
  simp only [voteA, eqT, eqTL, eqT_nm, if_true]
  have h1 : (bys a.parent.l).length = 8 ∧ (bys b.parent.l).length = 8 := by simp [bys_len, Nm.len]
  have h2 : (bys a.value.l).length = 8 ∧ (bys b.value.l).length = 8 := by simp [bys_len, Nm.len]
  have e1 := eqT_nm a.parent b.parent
  have e2 := eqT_nm a.value b.value
  simp only [eqT] at e1 e2
  rw [e1, e2]
theorem eqT_vote' {a b c d e f a' b' c' d' e' f' : Int} {p v p' v' : Nm} : eqT (.agg [.int, .int, .int, .int, .int, .int, .rep 8 .int, .rep 8 .int])
    (.agg [.int .i64 a, .int .i64 b, .int .i64 c, .int .i64 d, .int .i64 e, .int .i64 f, .agg (bys p.l), .agg (bys v.l)])
    (.agg [.int .i64 a', .int .i64 b', .int .i64 c', .int .i64 d', .int .i64 e', .int .i64 f', .agg (bys p'.l), .agg (bys v'.l)]) = some (decide ((⟨a, b, c, d, e, f, p, v⟩ : Vote) = ⟨a', b', c', d', e', f', p', v'⟩)) :=
  eqT_vote ⟨a, b, c, d, e, f, p, v⟩ ⟨a', b', c', d', e', f', p', v'⟩
theorem eqT_int {k a k' b} : eqT .int (.int k a) (.int k' b) = if k = k' then some (decide (a = b)) else none := by simp [eqT]
theorem eqT_bool {a b} : eqT .bool (.bool a) (.bool b) = some (decide (a = b)) := by simp [eqT]
theorem eqT_str {a b} : eqT .str (.str a) (.str b) = some (decide (a = b)) := by simp [eqT]
attribute [go_sem] eqT_int eqT_bool eqT_str
theorem u64_lo (n : Int) : 0 ≤ IntKind.u64.wrap n := by simp [IntKind.wrap, IntKind.signed, IntKind.bits]; omega
theorem u64_hi (n : Int) : IntKind.u64.wrap n < 18446744073709551616 := by simp [IntKind.wrap, IntKind.signed, IntKind.bits]; omega
attribute [go_sem ↓] zero8 zero8'
attribute [go_sem] eqT_nm eqT_vote eqT_vote'
attribute [go_sem] flat flatL flatL_bys bysM_l bysM_n bysM_o voteA sgnA nmA txtA viewA
theorem vote_eta (v : Vote) : Vote.mk v.kind v.slot v.round v.choice v.signer v.support v.parent v.value = v := rfl
theorem sgn_eta (s : Sgn) : Sgn.mk s.vote s.sig = s := rfl
theorem view_eta (v : View) : View.mk v.votes v.texts = v := rfl
attribute [go_sem] bys_get bys_set1 nc_byte byteA_def frzAL_bys frzL_bys frzAL_txt frzAL_sgn Option.map_some Option.map_none be_len vote_eta sgn_eta view_eta sgnD viewD lstD Nm.len nc_nm nc_txt nc_vote nc_sgn allSz_sgn allSz_txt nmD_nm voteD_mk voteD_vote txtD_txt txtD_nils sgnD_sgn mapD_sgn mapD_txt viewD_view bytesA_bys
def intD : AV → Option Int
  | .int .i64 n => some n
  | _ => none
def u64D : AV → Option Int
  | .int .u64 n => some n
  | _ => none
def sgnsM (x : AV) : RM (List Sgn) := (elemsOf x).bind fun xs => opt (mapD sgnD xs)
def txtsM (x : AV) : RM (List (List UInt8)) := (elemsOf x).bind fun xs => opt (mapD txtD xs)
def viewM (x : AV) : RM View := match x with
  | .agg [a, b] => (sgnsM a).bind fun v => (txtsM b).bind fun t => .ret ⟨v, t⟩
  | _ => .fail
attribute [go_sem] intD u64D sgnsM txtsM viewM
theorem bytesA_nil : bytesA [] = some [] := rfl
theorem mapD_nil {α : Type} {f : AV → Option α} : mapD f [] = some [] := rfl
attribute [go_sem] bytesA_nil mapD_nil bys_nil
end Go.Am
set_option linter.unusedVariables false
namespace Go.Am
/-- the support's bits beyond the validators -/
def supX (s : Int) : Int := IntKind.i64.wrap (BitVec.ofInt 64 s &&& ~~~BitVec.ofInt 64 1023).toNat
theorem supX_run (s : Int) : bitsI .andNot .i64 s 1023 = some (.int .i64 (supX s)) := rfl
def VALID (v : Vote) : Prop :=
  (1 ≤ v.kind ∧ v.kind ≤ 7) ∧ (0 ≤ v.signer ∧ v.signer ≤ 9) ∧ supX v.support = 0 ∧ (v.choice = 1 ↔ ¬ v.value = nm0) ∧
  ((v.kind ≤ 4 → 0 ≤ v.slot ∧ v.slot ≤ 9) ∧ (4 < v.kind → v.slot = 0)) ∧
  (v.kind = 3 → (1 ≤ v.round ∧ v.round ≤ 12) ∧ (v.choice = 0 ∨ v.choice = 1) ∧ (v.round ≠ 1 ∨ v.choice ≠ 0 ∨ v.support = 0)) ∧
  (v.kind = 4 → (1 ≤ v.round ∧ v.round ≤ 12) ∧ (0 ≤ v.choice ∧ v.choice ≤ 2)) ∧
  (v.kind ≠ 3 → v.kind ≠ 4 → v.round = 0 ∧ v.choice = 1 ∧ v.support = 0)
instance (v : Vote) : Decidable (VALID v) := inferInstanceAs (Decidable (_ ∧ _))
def validV (v : Vote) : Bool := decide (VALID v)
theorem Nm.take8 (n : Nm) : n.l.take 8 = n.l := List.take_of_length_le (by rw [n.h]; exact Nat.le_refl _)
theorem Nm.drop0 (n : Nm) : n.l.drop 0 = n.l := rfl
def encV (v : Vote) : List UInt8 := [b8 v.kind, b8 v.slot, b8 v.round, b8 v.choice, b8 v.signer] ++ be (IntKind.u64.wrap v.support).toNat 2 ++ v.parent.l ++ v.value.l
theorem encV_len (v : Vote) : (encV v).length = 23 := by simp [encV, be_len, Nm.len]
theorem byte_lt (c : UInt8) : (c.toNat : Int) < 256 := by have : c.toNat < 256 := c.toNat_lt; omega
theorem wrapU64_b (c : UInt8) : IntKind.u64.wrap (c.toNat : Int) = c.toNat := by have := byte_lt c; exact wrapU64 (by omega) (by omega)
theorem wrapI64_b (c : UInt8) : IntKind.i64.wrap (c.toNat : Int) = c.toNat := by have := byte_lt c; exact wrap64 (by omega) (by omega)
theorem shl8_run (v : Nat) (h : v * 256 < 18446744073709551616) : shiftI .shl .u64 (v : Int) 8 = some (.int .u64 ((v * 256 : Nat) : Int)) := by
  have e : (v : Int) * 2 ^ min (8 : Int).toNat 64 = ((v * 256 : Nat) : Int) := by norm_cast
  simp only [shiftI, IntKind.bits]
  rw [if_neg (by decide), e, wrapU64 (by omega) (by omega)]
theorem or8_nat (v c : Nat) (h : c < 256) : v * 256 ||| c = v * 256 + c := by
  have := Nat.shiftLeft_add_eq_or_of_lt (i := 8) (b := c) (by simpa using h) v
  rw [Nat.shiftLeft_eq] at this
  exact this.symm
theorem or8_bv (v c : Nat) (h : v * 256 < 18446744073709551616) (hc : c < 256) : (BitVec.ofInt 64 ((v * 256 : Nat) : Int) ||| BitVec.ofInt 64 (c : Int)).toNat = v * 256 + c := by
  have h1 : BitVec.ofInt 64 ((v * 256 : Nat) : Int) = BitVec.ofNat 64 (v * 256) := BitVec.ofInt_natCast ..
  have h2 : BitVec.ofInt 64 (c : Int) = BitVec.ofNat 64 c := BitVec.ofInt_natCast ..
  rw [h1, h2, BitVec.toNat_or, BitVec.toNat_ofNat, BitVec.toNat_ofNat, Nat.mod_eq_of_lt (by omega), Nat.mod_eq_of_lt (by omega), or8_nat _ _ hc]
theorem or8_run (v : Nat) (c : UInt8) (h : v * 256 < 18446744073709551616) : bitsI .or .u64 ((v * 256 : Nat) : Int) (c.toNat : Int) = some (.int .u64 ((v * 256 + c.toNat : Nat) : Int)) := by
  have hc : c.toNat < 256 := c.toNat_lt
  have e := or8_bv v c.toNat h hc
  show some (AV.int .u64 (IntKind.u64.wrap ((BitVec.ofInt 64 ((v * 256 : Nat) : Int) ||| BitVec.ofInt 64 (c.toNat : Int)).toNat : Int))) = _
  rw [e, wrapU64 (by omega) (by omega)]
/-- the order of names, of votes, of signed votes -/
def ltN (a b : Nm) : Bool := decide (unbe a.l < unbe b.l)
def lexI : List Int → List Int → Option Bool
  | a :: l, b :: m => if a ≠ b then some (decide (a < b)) else lexI l m
  | _, _ => none
def voteLt (a b : Vote) : Bool :=
  if a.parent ≠ b.parent then ltN a.parent b.parent
  else match lexI [a.slot, a.round, a.kind, a.signer, a.choice] [b.slot, b.round, b.kind, b.signer, b.choice] with
    | some r => r
    | none => if a.value ≠ b.value then ltN a.value b.value else decide (a.support < b.support)
def sgnLt (a b : Sgn) : Bool := if a.vote ≠ b.vote then voteLt a.vote b.vote else decide (Lib.compareBytes a.sig b.sig < 0)
attribute [go_sem] Nm.take8 encV_len wrapU64_b wrapI64_b
end Go.Am
namespace Go.Am
/-! lists in strictly ascending order -/
def chainB {α : Type} (lt : α → α → Bool) : List α → Bool
  | a :: b :: l => lt a b && chainB lt (b :: l)
  | _ => true
theorem chain_snoc {α : Type} {lt : α → α → Bool} : ∀ (l : List α) (a b : α), chainB lt (l ++ [a, b]) = (chainB lt (l ++ [a]) && lt a b)
  | [], a, b => by simp [chainB]
  | [x], a, b => by simp [chainB]
  | x :: y :: l, a, b => by
    have := chain_snoc (lt := lt) (y :: l) a b
    simp only [List.cons_append] at this ⊢
    simp only [chainB]
    rw [this, Bool.and_assoc]
theorem take_two {α : Type} {l : List α} {i : Nat} {a b : α} (ha : l[i]? = some a) (hb : l[i + 1]? = some b) : l.take (i + 2) = l.take i ++ [a, b] ∧ l.take (i + 1) = l.take i ++ [a] := by
  have h1 : l.take (i + 1) = l.take i ++ [a] := by rw [List.take_add_one, ha]; rfl
  refine ⟨?_, h1⟩
  rw [show i + 2 = (i + 1) + 1 from rfl, List.take_add_one, hb, h1]
  simp
theorem chain_take {α : Type} {lt : α → α → Bool} {l : List α} {i : Nat} {a b : α} (ha : l[i]? = some a) (hb : l[i + 1]? = some b) :
    chainB lt (l.take (i + 2)) = (chainB lt (l.take (i + 1)) && lt a b) := by
  obtain ⟨h1, h2⟩ := take_two ha hb
  rw [h1, h2, chain_snoc]
theorem chain_pre {α : Type} {lt : α → α → Bool} : ∀ (l : List α) (n : Nat), chainB lt l = true → chainB lt (l.take n) = true
  | [], n, _ => by simp [chainB]
  | [a], n, _ => by cases n <;> simp [chainB]
  | a :: b :: l, 0, _ => by simp [chainB]
  | a :: b :: l, 1, _ => by simp [chainB]
  | a :: b :: l, n + 2, h => by
    simp only [chainB, Bool.and_eq_true] at h
    have := chain_pre (b :: l) (n + 1) h.2
    simp only [List.take_succ_cons] at this ⊢
    simp only [chainB, Bool.and_eq_true]
    exact ⟨h.1, this⟩
theorem chain_bad {α : Type} {lt : α → α → Bool} {l : List α} {i : Nat} {a b : α} (ha : l[i]? = some a) (hb : l[i + 1]? = some b) (h : lt a b = false) : chainB lt l = false := by
  cases e : chainB lt l with
  | false => rfl
  | true =>
    have := chain_pre l (i + 2) e
    rw [chain_take ha hb, h] at this
    simp at this
theorem chain_short {α : Type} {lt : α → α → Bool} {l : List α} (h : l.length ≤ 1) : chainB lt l = true := by
  match l, h with
  | [], _ => rfl
  | [a], _ => rfl
def txtLt (a b : List UInt8) : Bool := decide (Lib.compareBytes a b < 0)
def ordW (v : View) : Bool := chainB sgnLt v.votes && chainB txtLt v.texts
/-! encodings -/
def okS (s : Sgn) : Bool := validV s.vote && decide (s.sig.length = 370)
def encS (s : Sgn) : List UInt8 := encV s.vote ++ s.sig
def encT (t : List UInt8) : List UInt8 := be t.length 2 ++ t
def okT (t : List UInt8) : Bool := decide (t.length ≤ 65535)
def errW (v : View) : Int := if v.votes.all okS = true ∧ v.texts.all okT = true then (if ordW v = true then 0 else 10) else 1
def bytesW (v : View) : List UInt8 := be v.votes.length 4 ++ v.votes.flatMap encS ++ be v.texts.length 4 ++ v.texts.flatMap encT
theorem encS_len {s : Sgn} : (encS s).length = 23 + s.sig.length := by simp [encS, encV_len]
theorem encT_len {t : List UInt8} : (encT t).length = 2 + t.length := by simp [encT, be_len]
theorem flat_take {α β : Type} (l : List α) (f : α → List β) (n : Nat) : ((l.take n).flatMap f).length ≤ (l.flatMap f).length := by
  conv => rhs; rw [← List.take_append_drop n l, List.flatMap_append, List.length_append]
  exact Nat.le_add_right _ _
theorem flat_snoc {α β : Type} {l : List α} (f : α → List β) {n : Nat} {a : α} (h : l[n]? = some a) : (l.take (n + 1)).flatMap f = (l.take n).flatMap f ++ f a := by
  rw [List.take_add_one, h]; simp
theorem get_lt {α : Type} {l : List α} {n : Nat} (h : n < l.length) : ∃ a, l[n]? = some a := ⟨_, List.getElem?_eq_getElem h⟩
attribute [go_sem] List.getElem?_map
end Go.Am
namespace Go.Am
theorem flat_len {α β : Type} {f : α → List β} {n : Nat} : ∀ {l : List α}, (∀ a, a ∈ l → (f a).length = n) → (l.flatMap f).length = n * l.length
  | [], _ => by simp
  | a :: l, h => by
    rw [List.flatMap_cons, List.length_append, h a (List.mem_cons_self ..), flat_len fun b hb => h b (List.mem_cons_of_mem _ hb), List.length_cons, Nat.mul_succ]
    omega
theorem flat_le {α β : Type} {f : α → List β} {n : Nat} : ∀ {l : List α}, (∀ a, a ∈ l → (f a).length ≤ n) → (l.flatMap f).length ≤ n * l.length
  | [], _ => by simp
  | a :: l, h => by
    have h1 := h a (List.mem_cons_self ..)
    have h2 := flat_le fun b hb => h b (List.mem_cons_of_mem a hb)
    rw [List.flatMap_cons, List.length_append, List.length_cons, Nat.mul_succ]
    omega
theorem encS_ok {s : Sgn} (h : okS s = true) : (encS s).length = 393 := by
  simp only [okS, Bool.and_eq_true, decide_eq_true_eq] at h
  rw [encS_len, h.2]
theorem votes_len {l : List Sgn} {i : Nat} (hi : i ≤ l.length) (h : (l.take i).all okS = true) : ((l.take i).flatMap encS).length = 393 * i := by
  rw [flat_len (n := 393) fun a ha => encS_ok (List.all_eq_true.1 h a ha), List.length_take, Nat.min_eq_left hi]
theorem texts_len {l : List (List UInt8)} {i : Nat} (h : (l.take i).all okT = true) : ((l.take i).flatMap encT).length ≤ 65537 * i := by
  have := flat_le (f := encT) (n := 65537) (l := l.take i) fun a ha => by
    have := List.all_eq_true.1 h a ha
    simp only [okT, decide_eq_true_eq] at this
    rw [encT_len]; omega
  rw [List.length_take] at this
  have h2 : 65537 * min i l.length ≤ 65537 * i := Nat.mul_le_mul_left _ (Nat.min_le_left ..)
  omega
theorem all_snoc {α : Type} {p : α → Bool} {l : List α} {i : Nat} {a : α} (ha : l[i]? = some a) (h : (l.take i).all p = true) (hp : p a = true) : (l.take (i + 1)).all p = true := by
  rw [List.take_add_one, ha]; simp [h, hp]
theorem all_bad {α : Type} {p : α → Bool} {l : List α} {i : Nat} {a : α} (ha : l[i]? = some a) (hp : p a = false) : l.all p = false := by
  rw [List.all_eq_false]
  exact ⟨a, List.mem_of_getElem? ha, by simp [hp]⟩
end Go.Am
namespace Go.Am
theorem shr8_run (s : Int) : shiftI .shr .i64 s 8 = some (.int .i64 (s / 256)) := by
  have h : s.fdiv (2 ^ min (8 : Int).toNat 64) = s / 256 := by
    rw [Int.fdiv_eq_ediv_of_nonneg _ (by decide)]; rfl
  show (if (8 : Int) < 0 then none else some (AV.int .i64 (s.fdiv (2 ^ min (8 : Int).toNat 64)))) = _
  rw [if_neg (by decide), h]
theorem b8_mod (n : Int) : (b8 n).toNat = (n % 256).toNat := by
  have h : IntKind.u8.wrap n = n % 256 := by simp [IntKind.wrap, IntKind.signed, IntKind.bits]
  rw [b8, h]
  simp only [byOf, UInt8.toNat_ofNat']
  omega
theorem be2_sup (s : Int) : be (IntKind.u64.wrap s).toNat 2 = [b8 (s / 256), b8 s] := by
  have h : IntKind.u64.wrap s = s % 18446744073709551616 := by simp [IntKind.wrap, IntKind.signed, IntKind.bits]
  simp only [be, List.nil_append, List.cons_append, List.cons.injEq, and_true]
  rw [h]
  constructor
  · apply UInt8.toNat_inj.1
    rw [b8_mod]
    simp only [UInt8.toNat_ofNat']
    omega
  · apply UInt8.toNat_inj.1
    rw [b8_mod]
    simp only [UInt8.toNat_ofNat']
    omega
end Go.Am
namespace Go.Am
theorem bytesLess_cmp : ∀ a b : List UInt8, Op.bytesLess a b = decide (Lib.compareBytes a b < 0)
  | [], [] => rfl
  | a :: l, [] => by simp [Op.bytesLess, Lib.compareBytes]
  | [], b :: m => by simp [Op.bytesLess, Lib.compareBytes]
  | a :: l, b :: m => by
    have ih := bytesLess_cmp l m
    unfold Op.bytesLess Lib.compareBytes
    by_cases h1 : a < b
    · simp [h1]
    · by_cases h2 : b < a
      · have : a ≠ b := by intro e; subst e; exact h1 h2
        simp [h1, h2, this]
      · have : a = b := by
          have h1' : ¬ a.toNat < b.toNat := fun h => h1 (UInt8.lt_iff_toNat_lt.2 h)
          have h2' : ¬ b.toNat < a.toNat := fun h => h2 (UInt8.lt_iff_toNat_lt.2 h)
          apply UInt8.toNat_inj.1; omega
        subst this
        simp [h1, ih]
attribute [go_sem] cmpS bytesLess_cmp
end Go.Am
namespace Go.Am
/-! reading -/
def followB (l : List UInt8) (at' n : Int) : Bool := decide (0 ≤ at') && decide (at' ≤ l.length) && decide (n ≤ l.length - at')
def uintOk (l : List UInt8) (at' k : Int) : Bool := decide (1 ≤ k) && decide (k ≤ 8) && followB l at' k
def seg (l : List UInt8) (at' k : Int) : List UInt8 := (l.drop at'.toNat).take k.toNat
def uintV (l : List UInt8) (at' k : Int) : Nat := if uintOk l at' k = true then unbe (seg l at' k) else 0
theorem uintOk_iff {l : List UInt8} {at' k : Int} : uintOk l at' k = true ↔ 1 ≤ k ∧ k ≤ 8 ∧ 0 ≤ at' ∧ at' ≤ l.length ∧ k ≤ l.length - at' := by
  simp [uintOk, followB, and_assoc]
theorem seg_len {l : List UInt8} {at' k : Int} (h0 : 0 ≤ at') (h1 : at' ≤ l.length) (h2 : 0 ≤ k) (h3 : k ≤ l.length - at') : (seg l at' k).length = k.toNat := by
  simp only [seg, List.length_take, List.length_drop]; omega
theorem unbe_bound {l : List UInt8} {n : Nat} (h : l.length ≤ n) : unbe l < 256 ^ n :=
  Nat.lt_of_lt_of_le (unbe_lt l) (Nat.pow_le_pow_right (by decide) h)
theorem unbe8 {l : List UInt8} (h : l.length ≤ 8) : unbe l < 18446744073709551616 := unbe_bound (n := 8) h
theorem unbe7 {l : List UInt8} (h : l.length ≤ 7) : unbe l * 256 < 18446744073709551616 := by
  have := unbe_bound (n := 7) h
  have h4 : (256 : Nat) ^ 7 = 72057594037927936 := by decide
  omega
theorem unbe4 {l : List UInt8} (h : l.length ≤ 4) : unbe l < 4294967296 := unbe_bound (n := 4) h
theorem unbe2 {l : List UInt8} (h : l.length ≤ 2) : unbe l < 65536 := unbe_bound (n := 2) h
end Go.Am
namespace Go.Am
def bytesOk (l : List UInt8) (a : Int) : Bool := uintOk l a 2 && followB l (a + 2) (uintV l a 2)
def bytesV (l : List UInt8) (a : Int) : List UInt8 := seg l (a + 2) (uintV l a 2)
theorem uintV2 (l : List UInt8) (a : Int) : uintV l a 2 < 65536 := by
  unfold uintV; split
  · exact unbe2 (by simp only [seg, List.length_take]; omega)
  · omega
theorem uintV4 (l : List UInt8) (a : Int) : uintV l a 4 < 4294967296 := by
  unfold uintV; split
  · exact unbe4 (by simp only [seg, List.length_take]; omega)
  · omega
theorem bytesOk_iff {l : List UInt8} {a : Int} : bytesOk l a = true ↔ 0 ≤ a ∧ a + 2 + uintV l a 2 ≤ l.length := by
  have := uintV2 l a
  simp only [bytesOk, Bool.and_eq_true, uintOk_iff, followB, decide_eq_true_eq]
  omega
theorem bytesV_len {l : List UInt8} {a : Int} (h : bytesOk l a = true) : (bytesV l a).length = uintV l a 2 := by
  have := bytesOk_iff.1 h
  rw [bytesV, seg_len (by omega) (by omega) (by omega) (by omega)]
  omega
end Go.Am
namespace Go.Am
/-! reading votes -/
def nmOf (l : List UInt8) : Nm := if h : l.length = 8 then ⟨l, h⟩ else nm0
theorem nmOf_mk {l : List UInt8} (h : l.length = 8) : nmOf l = ⟨l, h⟩ := by simp [nmOf, h]
theorem nmOf_l {l : List UInt8} (h : l.length = 8) : (nmOf l).l = l := by simp [nmOf, h]
def vote0 : Vote := ⟨0, 0, 0, 0, 0, 0, nm0, nm0⟩
def byteN (l : List UInt8) (i : Nat) : Int := ((l[i]?).getD 0).toNat
def mkV (l : List UInt8) : Vote := ⟨byteN l 0, byteN l 1, byteN l 2, byteN l 3, byteN l 4, unbe ((l.drop 5).take 2), nmOf ((l.drop 7).take 8), nmOf ((l.drop 15).take 8)⟩
def decV (l : List UInt8) : Vote × Int := if l.length < 23 then (vote0, 2) else if 23 < l.length then (vote0, 3) else if validV (mkV l) = true then (mkV l, 0) else (vote0, 11)
theorem nmD_bys {l : List UInt8} (h : l.length = 8) : nmD (.agg (bys l)) = some (nmOf l) := by simp [nmD, bytesA_bys, h, nmOf]
theorem byteN_get {l : List UInt8} {i : Nat} {c : UInt8} (h : l[i]? = some c) : byteN l i = c.toNat := by simp [byteN, h]
attribute [go_sem] List.drop_succ_cons
end Go.Am
namespace Go.Am
def sgn0 : Sgn := ⟨vote0, []⟩
def decS (l : List UInt8) : Sgn × Int := if l.length < 393 then (sgn0, 2) else if 393 < l.length then (sgn0, 3) else if (decV (l.take 23)).2 = 0 then (⟨(decV (l.take 23)).1, l.drop 23⟩, 0) else (sgn0, (decV (l.take 23)).2)
theorem shlI_run (c : UInt8) : shiftI .shl .i64 (c.toNat : Int) 8 = some (.int .i64 ((c.toNat * 256 : Nat) : Int)) := by
  have hc : c.toNat < 256 := c.toNat_lt
  have e : (c.toNat : Int) * 2 ^ min (8 : Int).toNat 64 = ((c.toNat * 256 : Nat) : Int) := by norm_cast
  simp only [shiftI, IntKind.bits]
  rw [if_neg (by decide), e, wrap64 (by omega) (by omega)]
theorem orI_run (a c : UInt8) : bitsI .or .i64 ((a.toNat * 256 : Nat) : Int) (c.toNat : Int) = some (.int .i64 ((a.toNat * 256 + c.toNat : Nat) : Int)) := by
  have ha : a.toNat < 256 := a.toNat_lt
  have hc : c.toNat < 256 := c.toNat_lt
  have e := or8_bv a.toNat c.toNat (by omega) hc
  show some (AV.int .i64 (IntKind.i64.wrap ((BitVec.ofInt 64 ((a.toNat * 256 : Nat) : Int) ||| BitVec.ofInt 64 (c.toNat : Int)).toNat : Int))) = _
  rw [e, wrap64 (by omega) (by omega)]
theorem unbe_two (a b : UInt8) : unbe [a, b] = a.toNat * 256 + b.toNat := by simp [unbe]
theorem take_drop_two {l : List UInt8} {n : Nat} {a b : UInt8} (ha : l[n]? = some a) (hb : l[n + 1]? = some b) : (l.drop n).take 2 = [a, b] := by
  apply List.ext_getElem?
  intro i
  rw [List.getElem?_take, List.getElem?_drop]
  match i with
  | 0 => simpa using ha
  | 1 => simpa using hb
  | i + 2 => rw [if_neg (by omega)]; rfl
end Go.Am
set_option linter.unusedVariables false
namespace Go.Am
theorem bys_cells {R : CSet} {w : World} {sz : Nat} : ∀ {l : List UInt8} {cells : List Value}, RepE R w sz (bys l) cells → cells = l.map fun b => .int .u8 (b.toNat : Int)
  | [], cells, h => by simpa [bys, RepE] using h
  | b :: l, cells, h => by
    simp only [bys, List.map_cons, RepE] at h
    obtain ⟨c1, c2, rfl, _, h1, h2⟩ := h
    have := bys_cells (l := l) h2
    simp only [byteA, Rep] at h1
    rw [this, h1]; rfl
theorem run_bytesOf_list {P : Program} {R : CSet} {w : World} {l : List UInt8} {u : Value} (h : RepV R w (.list (bys l)) u) : (Extern.Bytes.bytesOf u).run P w = .ok ⟨l.toArray⟩ w := by
  have h1 := h.one rfl rfl
  simp only [Rep, List.cons.injEq, and_true] at h1
  obtain ⟨a, c, rfl, hc, sz, cells, he, hx⟩ := h1
  have hcells := bys_cells he
  rw [bys_len]
  cases a with
  | none =>
    have hz : bys l = [] := by
      rcases hx with hx | ⟨b, o, hx, _⟩
      · exact hx
      · cases hx
    have : l = [] := by cases l <;> simp [bys] at hz ⊢
    subst this
    simp [Extern.Bytes.bytesOf, Sem.run_pure]; rfl
  | some ad =>
    rcases hx with hx | ⟨b, o, hx, hk⟩
    · have : l = [] := by cases l <;> simp [bys] at hx ⊢
      subst this
      simp [Extern.Bytes.bytesOf, Extern.Bytes.loadBytes, Sem.run_pure]; rfl
    · cases hx
      have := Lib.run_loadBytesX (P := P) (w := w) (l.map fun b => (b.toNat : Int)) ⟨b, o, none⟩ .empty (fun j x hj => by
        have := (hk j (.int .u8 x) (by rw [hcells]; simp only [List.getElem?_map] at hj ⊢; cases e : l[j]? <;> rw [e] at hj <;> simp at hj ⊢; exact hj)).1
        rw [add_off]; exact this)
      simp only [List.length_map] at this
      simp only [Extern.Bytes.bytesOf]
      rw [this]
      congr 2
      simp [Lib.bytesOf]
      conv => rhs; rw [← List.map_id l]
      congr 1
      funext b
      simp
theorem cmp_FnG {P : Program} {f : FuncId} {fn : Func} (hf : P.funcs[f]? = some fn) (hname : (fn.name == "runtime.NumGoroutine") = false)
    (hb : fn.body.isNone = true) (hn : Extern.findNext fn = none) (he : Extern.find fn = some Extern.BytealgCompare.compare) (a b : List UInt8) :
    FnG P f [.list (bys a), .list (bys b)] [] (.val (.int .i64 (Lib.compareBytes a b))) := by
  intro w R N cargs hw hv hN hr
  simp only [RepVs] at hr
  obtain ⟨u1, us1, h1, h2, u2, us2, h3, h4, h5⟩ := hr
  subst h3 h5
  have hc : cargs = #[u1, u2] := by apply Array.ext'; simpa using h1
  subst hc
  have r1 : RepV R w (.list (bys a)) u1 := h2.imp id .inl
  have r2 : RepV R w (.list (bys b)) u2 := h4.imp id .inl
  unfold CallF
  rw [run_callFunc_extern hf hname hb hn he]
  have hrun : (Extern.BytealgCompare.compare #[u1, u2]).run P w = .ok (.int .i64 (Lib.compareBytes a b)) w := by
    change Sem.run P (do pure (goInt (Extern.BytealgCompare.cmp (← Extern.Bytes.bytesOf u1) (← Extern.Bytes.bytesOf u2)))) w = _
    simp only [Sem.run_bind, run_bytesOf_list r1, run_bytesOf_list r2, Result.andThen_ok, Sem.run_pure, Lib.cmp_eq]
    rfl
  rw [hrun]
  simp only [Result.andThen_ok]
  exact ⟨_, [], R, rfl, .nil, .refl hw hv, rep_int⟩
end Go.Am
set_option linter.unusedVariables false
namespace Go.Am
theorem pass1_plainR {x : AV} (h : plain1 x = true) (H : Heap) (log : List Id) (K : Heap → List Id → Prop) : (pass1 x x).runL H log K = K [] log := by
  cases x <;> simp [plain1] at h <;> simp [pass1, RM.runL]
  exact fun _ => h
theorem passL_plainR : ∀ {xs : List AV}, plainL xs = true → ∀ (H : Heap) (log : List Id) (K : Heap → List Id → Prop), (passL xs xs).runL H log K = K [] log
  | [], _, H, log, K => by simp [passL, RM.runL]
  | x :: xs, h, H, log, K => by
    simp only [plainL, Bool.and_eq_true] at h
    simp only [passL, r_runL_bind, pass1_plainR h.1, passL_plainR h.2, r_runL_ret, List.append_nil]
theorem passA_plainR {x : AV} (h : plain x = true) (H : Heap) (log : List Id) (K : Heap → List Id → Prop) : (passA x x).runL H log K = K [] log := by
  cases x <;> simp only [plain] at h <;> (first | exact passL_plainR h H log K | (exact pass1_plainR h H log K) | skip)
  simp only [Bool.and_eq_true] at h
  simp only [passA, r_runL_asrt, r_runL_bind, passL_plainR h.1, passL_plainR h.2, r_runL_ret, List.append_nil, true_and]
theorem passAll_plainR : ∀ {xs : List AV}, plainA xs = true → ∀ (H : Heap) (log : List Id) (K : Heap → List Id → Prop), (passAll xs xs).runL H log K = K [] log
  | [], _, H, log, K => by simp [passAll, RM.runL]
  | x :: xs, h, H, log, K => by
    simp only [plainA, Bool.and_eq_true] at h
    simp only [passAll, r_runL_bind, passA_plainR h.1, passAll_plainR h.2, r_runL_ret, List.append_nil]
theorem r_callRM_L {args : List AV} {Hin out H log K} (h : plainA args = true) : (callRM args args Hin out false).runL H log K = (RM.need Hin (.ret (⟨out.ch, fun ids => ((out.f ids).1, (out.f ids).2)⟩ : Out))).runL H log K := by
  simp only [callRM, r_runL_bind, passAll_plainR h, r_runL_asrt, apart, true_and, List.append_nil]
  simp [RM.runL]
theorem r_callRM_LT {args : List AV} {out H log K} (h : plainA args = true) : (callRM args args [] out true).runL H log K = ((out.ch = [] ∧ (out.f []).2 = [] ∧ flat (out.f []).1 = true) ∧ K out log) := by
  simp only [callRM, r_runL_bind, passAll_plainR h, r_runL_asrt, apart, true_and, if_true]
  simp [RM.runL]
def needP (H : Heap) : Heap → Prop
  | [] => True
  | (r, e) :: h => hf H r = some e ∧ needP H h
theorem needP_all {H : Heap} : ∀ {h : Heap}, (∀ p, p ∈ h → hf H p.1 = some p.2) = needP H h
  | [] => by simp [needP]
  | (r, e) :: h => by simp [needP, ← needP_all (h := h)]
theorem r_needL {α : Type} {H h log K} {k : RM α} : (RM.need h k).runL H log K = (needP H h ∧ k.runL H (h.map Prod.fst ++ log) K) := by
  rw [r_runL_need, needP_all]
theorem needP_nil {H} : needP H [] = True := rfl
theorem needP_cons {H r e h} : needP H ((r, e) :: h) = (hf H r = some e ∧ needP H h) := rfl
attribute [go_sem ↓] r_callRM_L r_callRM_LT r_needL needP_nil needP_cons
attribute [go_sem] List.map_cons List.map_nil List.cons_append List.nil_append
end Go.Am
set_option linter.unusedVariables false
namespace Go.Am
attribute [push_cast] lk_cons hf_cons hf_nil r_bind_ret r_run_bind r_run_get r_putS r_putN r_passP
attribute [push_cast] wk wkT resA r_run_bind r_run_ret r_run_asrt idsOk entsOk fresh_f fresh_ch val_f val_ch List.nil_append List.cons_append List.append_nil spliceB_all List.length_replicate notIn and_self and_true true_and or_self or_true true_or false_or or_false not_false_eq_true ne_eq List.not_mem_nil List.mem_cons Nat.le_refl AV.own.injEq AV.int.injEq AV.agg.injEq AV.list.injEq AV.bool.injEq AV.ptr.injEq AV.map.injEq AV.str.injEq AV.tup.injEq Ent.row.injEq Ent.box.injEq Ent.map.injEq Option.some.injEq List.cons.injEq r_getI_run r_getI_bind elemsR exists_eq_left' exists_eq_left exists_eq_right and_assoc exists_const freshBut lk_cons voteA sgnA nmA viewA Nm.take8 initT over_f upd_f
theorem dsc (p : Prop) (h : p := by first | omega | exact u64_lo _ | exact u64_hi _ | (refine And.intro ?_ ?_ <;> simp only [*, not_false_eq_true] <;> done) | (simp only [plainA, plain, plain1, plainL, plainL_bys, Bool.and_self, Nat.le_refl, decide_true]; done) | (simp only [bys_len, encV_len, be_len, Nm.len, List.length_take, List.length_drop, List.length_append, List.length_map, List.length_cons, List.length_nil, List.length_replicate]; first | done | omega)) : p := h
end Go.Am
