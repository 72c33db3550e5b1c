/- A part of the proof of the laws of layer 32: abstract values and contracts of functions; no statement of its own. -/
import Derived.Orders
import Derived.Laws.Cells
import Derived.Laws.World
import Derived.Laws.Rows
import Derived.Laws.Sem
import Derived.Below
import Derived.Laws.Entries
import Derived.ChangeKeysEq
set_option linter.unusedSimpArgs false
set_option linter.unusedVariables false
set_option linter.unusedVariables false
namespace Go.Am

inductive Id | blk (b : Nat) | virt (n : Nat)
  deriving DecidableEq, Inhabited
structure Stp where
  i : Nat
  off : Nat
  deriving DecidableEq, Inhabited
inductive AV where
  | any
  | int (k : IntKind) (n : Int)
  | bool (b : Bool)
  | str (s : List UInt8)
  | agg (vs : List AV)
  | ptr (r : Id) (p : List Stp)
  | nilp
  | cref (v : AV)
  | list (xs : List AV)
  | nils
  | own (r : Id) (p : List Stp) (sz off len mc : Nat)
  | map (r : Id)
  | nilm
  | func (f : FuncId) (fi ca : List AV)
  | nilf
  | iface (t : TypeId) (v : AV)
  | nili
  | tup (vs : List AV)
  deriving Inhabited

inductive Ent where
  | box (v : AV)
  | cbox (v : AV)
  | row (e sz : Nat) (xs : List AV) (fz : Nat)
  | map (kt et : Nat) (l : List (AV × AV))
  | dead
  deriving Inhabited

abbrev Heap := List (Id × Ent)
def hf : Heap → Id → Option Ent
  | [], _ => none
  | (k, e) :: l, r => if k = r then some e else hf l r
def lk : List (Nat × AV) → Nat → AV
  | [], _ => .any
  | (k, v) :: l, t => if k = t then v else lk l t

def aggA : AV → Bool
  | .agg _ => true
  | _ => false
def aggV : Value → Bool
  | .agg _ => true
  | _ => false
def poff : List Stp → Nat
  | [] => 0
  | s :: p => s.off + poff p
theorem poff_append (p q : List Stp) : poff (p ++ q) = poff p + poff q := by
  induction p with
  | nil => simp [poff]
  | cons s p ih => simp [poff, ih]; omega

/-- the cells that nobody writes any more -/
abbrev CSet := Nat → Nat → Prop
def constAt (R : CSet) (w : World) (b o : Nat) (cs : List Value) : Prop :=
  ∀ i v, cs[i]? = some v → w.cell? ⟨b, o + i, none⟩ = some v ∧ R b (o + i)

mutual
def Rep (R : CSet) (w : World) : AV → List Value → Prop
  | .any, cs => ∃ u, cs = [u] ∧ u.oneCell' = true
  | .int k n, cs => cs = [.int k n]
  | .bool b, cs => cs = [.bool b]
  | .str s, cs => cs = [.string ⟨s.toArray⟩]
  | .agg vs, cs => RepL R w vs cs
  | .ptr r p, cs => (match r with | .blk b => cs = [.pointer (some ⟨b, poff p, none⟩)] | .virt _ => False)
  | .nilp, cs => cs = [.pointer none]
  | .cref v, cs => ∃ b o c, cs = [.pointer (some ⟨b, o, none⟩)] ∧ Rep R w v c ∧ constAt R w b o c
  | .list xs, cs => ∃ a c, cs = [.slice a xs.length c] ∧ xs.length ≤ c ∧ ∃ sz cells, RepE R w sz xs cells ∧ (xs = [] ∨ ∃ b o, a = some ⟨b, o, none⟩ ∧ constAt R w b o cells)
  | .nils, cs => cs = [.slice none 0 0]
  | .own r p sz off len mc, cs => (match r with
    | .blk b => ∃ a c, cs = [.slice a len c] ∧ len ≤ mc ∧ mc ≤ c ∧ (c = 0 ∨ (a = some ⟨b, poff p + off * sz, none⟩ ∧ ∃ e n, w.shape? b = some (e, n) ∧ poff p + (off + c) * sz ≤ n))
    | .virt _ => ∃ a, cs = [.slice a 0 0] ∧ len = 0 ∧ mc = 0)
  | .map r, cs => (match r with | .blk b => cs = [.map (some b)] | .virt _ => False)
  | .nilm, cs => cs = [.map none]
  | .func f fi ca, cs => ∃ A B, cs = [.func (.func f) A B] ∧ RepVs R w fi A.toList ∧ RepVs R w ca B.toList
  | .nilf, cs => cs = [.nilFunc]
  | .iface t v, cs => ∃ u, cs = [.iface t u] ∧ Rep R w v u.cells.toList ∧ aggA v = aggV u
  | .nili, cs => cs = [.nilIface]
  | .tup _, _ => False
def RepL (R : CSet) (w : World) : List AV → List Value → Prop
  | [], cs => cs = []
  | v :: vs, cs => ∃ c1 c2, cs = c1 ++ c2 ∧ Rep R w v c1 ∧ RepL R w vs c2
def RepE (R : CSet) (w : World) (sz : Nat) : List AV → List Value → Prop
  | [], cs => cs = []
  | v :: vs, cs => ∃ c1 c2, cs = c1 ++ c2 ∧ c1.length = sz ∧ Rep R w v c1 ∧ RepE R w sz vs c2
def RepVs (R : CSet) (w : World) : List AV → List Value → Prop
  | [], us => us = []
  | v :: vs, us => ∃ u us', us = u :: us' ∧ (v = .any ∨ Rep R w v u.cells.toList ∧ aggA v = aggV u) ∧ RepVs R w vs us'
end
def RepV (R : CSet) (w : World) (v : AV) (u : Value) : Prop :=
  v = .any ∨ (Rep R w v u.cells.toList ∧ aggA v = aggV u) ∨ ∃ vs A, v = .tup vs ∧ u = .tuple A ∧ RepVs R w vs A.toList

/-- what keeps a relation: constant cells stay, shapes stay -/
structure Keeps (R : CSet) (w : World) (R' : CSet) (w' : World) : Prop where
  sub : ∀ b o, R b o → R' b o
  cell : ∀ b o v, R b o → w.cell? ⟨b, o, none⟩ = some v → w'.cell? ⟨b, o, none⟩ = some v
  shape : ∀ b s, w.shape? b = some s → w'.shape? b = some s
theorem Keeps.refl (R : CSet) (w : World) : Keeps R w R w := ⟨fun _ _ h => h, fun _ _ _ _ h => h, fun _ _ h => h⟩
theorem Keeps.trans {R w R' w' R'' w''} (h : Keeps R w R' w') (k : Keeps R' w' R'' w'') : Keeps R w R'' w'' :=
  ⟨fun b o x => k.sub b o (h.sub b o x), fun b o v x y => k.cell b o v (h.sub b o x) (h.cell b o v x y), fun b s x => k.shape b s (h.shape b s x)⟩
theorem constAt.keeps {R w R' w'} (h : Keeps R w R' w') {b o cs} (hc : constAt R w b o cs) : constAt R' w' b o cs :=
  fun i v hi => ⟨h.cell _ _ _ (hc i v hi).2 (hc i v hi).1, h.sub _ _ (hc i v hi).2⟩

mutual
theorem Rep.keeps {R w R' w'} (h : Keeps R w R' w') : ∀ (v : AV) (cs : List Value), Rep R w v cs → Rep R' w' v cs
  | .any, _, hr => by simp only [Rep] at hr ⊢; exact hr
  | .int _ _, _, hr => hr
  | .bool _, _, hr => hr
  | .str _, _, hr => hr
  | .agg vs, cs, hr => by simp only [Rep] at hr ⊢; exact RepL.keeps h vs cs hr
  | .ptr r p, _, hr => by simp only [Rep] at hr ⊢; exact hr
  | .nilp, _, hr => hr
  | .cref v, _, hr => by
    simp only [Rep] at hr ⊢
    obtain ⟨b, o, c, h1, h2, h3⟩ := hr
    exact ⟨b, o, c, h1, Rep.keeps h v c h2, h3.keeps h⟩
  | .list xs, _, hr => by
    simp only [Rep] at hr ⊢
    obtain ⟨a, c, h1, h2, sz, cells, h3, h4⟩ := hr
    exact ⟨a, c, h1, h2, sz, cells, RepE.keeps h sz xs cells h3, h4.imp id fun ⟨b, o, e, k⟩ => ⟨b, o, e, k.keeps h⟩⟩
  | .nils, _, hr => hr
  | .own r p sz off len mc, cs, hr => by
    simp only [Rep] at hr ⊢
    cases r with
    | blk b =>
      obtain ⟨a, c, h1, h2, h3, h4⟩ := hr
      exact ⟨a, c, h1, h2, h3, h4.imp id fun ⟨ha, e, n, hs, hn⟩ => ⟨ha, e, n, h.shape _ _ hs, hn⟩⟩
    | virt n => exact hr
  | .map r, _, hr => by simp only [Rep] at hr ⊢; exact hr
  | .nilm, _, hr => hr
  | .func f fi ca, _, hr => by
    simp only [Rep] at hr ⊢
    obtain ⟨A, B, h1, h2, h3⟩ := hr
    exact ⟨A, B, h1, RepVs.keeps h fi _ h2, RepVs.keeps h ca _ h3⟩
  | .nilf, _, hr => hr
  | .iface t v, _, hr => by
    simp only [Rep] at hr ⊢
    obtain ⟨u, h1, h2, h3⟩ := hr
    exact ⟨u, h1, Rep.keeps h v _ h2, h3⟩
  | .nili, _, hr => hr
  | .tup vs, _, hr => by simp only [Rep] at hr
theorem RepL.keeps {R w R' w'} (h : Keeps R w R' w') : ∀ (vs : List AV) (cs : List Value), RepL R w vs cs → RepL R' w' vs cs
  | [], _, hr => by simp only [RepL] at hr ⊢; exact hr
  | v :: vs, _, hr => by
    simp only [RepL] at hr ⊢
    obtain ⟨c1, c2, h1, h2, h3⟩ := hr
    exact ⟨c1, c2, h1, Rep.keeps h v _ h2, RepL.keeps h vs _ h3⟩
theorem RepE.keeps {R w R' w'} (h : Keeps R w R' w') (sz : Nat) : ∀ (vs : List AV) (cs : List Value), RepE R w sz vs cs → RepE R' w' sz vs cs
  | [], _, hr => by simp only [RepE] at hr ⊢; exact hr
  | v :: vs, _, hr => by
    simp only [RepE] at hr ⊢
    obtain ⟨c1, c2, h1, h0, h2, h3⟩ := hr
    exact ⟨c1, c2, h1, h0, Rep.keeps h v _ h2, RepE.keeps h sz vs _ h3⟩
theorem RepVs.keeps {R w R' w'} (h : Keeps R w R' w') : ∀ (vs : List AV) (us : List Value), RepVs R w vs us → RepVs R' w' vs us
  | [], _, hr => by simp only [RepVs] at hr ⊢; exact hr
  | v :: vs, _, hr => by
    simp only [RepVs] at hr ⊢
    obtain ⟨u, us', h1, h2, h4⟩ := hr
    exact ⟨u, us', h1, h2.imp id fun h2 => ⟨Rep.keeps h v _ h2.1, h2.2⟩, RepVs.keeps h vs _ h4⟩
end
theorem RepV.keeps {R w R' w'} (h : Keeps R w R' w') {v u} (hr : RepV R w v u) : RepV R' w' v u :=
  hr.imp id fun hr => hr.imp (fun hr => ⟨Rep.keeps h _ _ hr.1, hr.2⟩) fun ⟨vs, A, h1, h2, h3⟩ => ⟨vs, A, h1, h2, RepVs.keeps h _ _ h3⟩


end Go.Am
set_option linter.unusedVariables false
namespace Go.Am

/-- how two values of a type are compared -/
inductive CT where
  | int | bool | str
  | agg (cs : List CT)
  | rep (n : Nat) (c : CT)
  | none
inductive TD where
  | bool | int (k : IntKind) | str | ptr (e : Nat) | slice (e : Nat) | arr (n e : Nat) | map (k e : Nat)
  | struct (fs : List (Nat × Nat)) | func | iface | other
structure TyA where
  td : TD
  size : Nat
  bytes : Nat
  zero : AV
  ct : CT

structure St where
  T : List (Nat × AV)
  H : Heap
def St.put (s : St) (d : Option Nat) (v : AV) : St := ⟨match d with | some d => (d, v) :: s.T | none => s.T, s.H⟩

def constA : Value → AV
  | .int k n => .int k n
  | .bool b => .bool b
  | .string s => .str s.data.toList
  | .pointer none => .nilp
  | .slice none n c => (match n, c with | 0, 0 => .nils | _, _ => .any)
  | .map none => .nilm
  | .nilFunc => .nilf
  | .nilIface => .nili
  | _ => .any
def ev (T : List (Nat × AV)) : Operand → AV
  | .tmp t => lk T t
  | .const v => constA v
  | .func f => .func f [] []
  | .global _ => .any

mutual
def ncells : AV → Nat
  | .agg vs => ncellsL vs
  | _ => 1
def ncellsL : List AV → Nat
  | [] => 0
  | v :: vs => ncells v + ncellsL vs
end
def isScalar : AV → Bool
  | .any | .agg _ | .tup _ => false
  | _ => true
def allSz (sz : Nat) : List AV → Bool
  | [] => true
  | v :: vs => ncells v == sz && allSz sz vs
def notTup : AV → Bool
  | .tup _ => false
  | _ => true
def notTups : List AV → Bool
  | [] => true
  | v :: vs => notTup v && notTups vs
def known : AV → Bool
  | .any | .tup _ => false
  | _ => true

def getP : AV → List Stp → Option AV
  | v, [] => some v
  | .agg vs, s :: p => if ncellsL (vs.take s.i) = s.off then (match vs[s.i]? with | some v => getP v p | none => none) else none
  | _, _ :: _ => none
def setP : AV → List Stp → AV → Option AV
  | v, [], u => if ncells v = ncells u then some u else none
  | .agg vs, s :: p, u => if ncellsL (vs.take s.i) = s.off then (match vs[s.i]? with | some v => (match setP v p u with | some v' => some (.agg (vs.set s.i v')) | none => none) | none => none) else none
  | _, _ :: _, _ => none
def entGet : Ent → List Stp → Option AV
  | .box v, p => getP v p
  | .cbox v, p => getP v p
  | .row _ sz xs _, s :: p => if s.off = s.i * sz then (match xs[s.i]? with | some v => getP v p | none => none) else none
  | _, _ => none
def entSet : Ent → List Stp → AV → Option Ent
  | .box v, p, u => (match setP v p u with | some v' => some (.box v') | none => none)
  | .row e sz xs fz, s :: p, u => if s.off = s.i * sz ∧ fz ≤ s.i then (match xs[s.i]? with | some v => (match setP v p u with | some v' => some (.row e sz (xs.set s.i v') fz) | none => none) | none => none) else none
  | _, _, _ => none

/-- what an operation comes to: it asks for ids (a new one, or a row's own), and gives a value and entries -/
structure Out where
  ch : List (Option Id)
  f : List Id → AV × Heap
def Out.val (v : AV) : Out := ⟨[], fun _ => (v, [])⟩
def Out.upd (v : AV) (u : Heap) : Out := ⟨[], fun _ => (v, u)⟩
def id0 (ids : List Id) : Id := match ids with | r :: _ => r | [] => .virt 0
def id1 (ids : List Id) : Id := match ids with | _ :: r :: _ => r | _ => .virt 0
def Out.fresh (f : Id → AV × Heap) : Out := ⟨[none], fun ids => f (id0 ids)⟩
def Out.over (q : Id) (f : Id → AV × Heap) : Out := ⟨[some q], fun ids => f (id0 ids)⟩
def Out.fresh2 (f : Id → Id → AV × Heap) : Out := ⟨[none, none], fun ids => f (id0 ids) (id1 ids)⟩

/-- a computation that asks the heap -/
inductive RM (α : Type) where
  | ret (a : α)
  | fail
  | get (r : Id) (k : Option Ent → RM α)
  | need (h : Heap) (k : RM α)
  | asrt (p : Prop) (k : RM α)
  | dem (k : Bool → RM α)
def RM.bind {α β : Type} : RM α → (α → RM β) → RM β
  | .ret a, f => f a
  | .fail, _ => .fail
  | .get r k, f => .get r fun e => (k e).bind f
  | .need h k, f => .need h (k.bind f)
  | .asrt p k, f => .asrt p (k.bind f)
  | .dem k, f => .dem fun b => (k b).bind f
def RM.map {α β : Type} (x : RM α) (f : α → β) : RM β := x.bind fun a => .ret (f a)
def RM.run {α : Type} (H : Heap) : RM α → (α → Prop) → Prop
  | .ret a, K => K a
  | .fail, _ => False
  | .get r k, K => (k (hf H r)).run H K
  | .need h k, K => (∀ p, p ∈ h → hf H p.1 = some p.2) ∧ k.run H K
  | .asrt p k, K => p ∧ k.run H K
  | .dem k, K => ∀ b, (k b).run H K
def opt {α : Type} : Option α → RM α
  | some a => .ret a
  | none => .fail

/-- r is no key of the heap, but for q -/
def freshBut (q : Option Id) : Heap → Id → Prop
  | [], _ => True
  | (k, _) :: l, r => (some k = q ∨ (k ≠ r ∧ r ≠ k)) ∧ freshBut q l r
def notIn : List Id → Id → Prop
  | [], _ => True
  | k :: l, r => (k ≠ r ∧ r ≠ k) ∧ notIn l r
def pickIds (H : Heap) : List (Option Id) → List Id → (List Id → Prop) → Prop
  | [], _, K => K []
  | c :: cs, used, K => ∀ r, freshBut c H r → notIn used r → pickIds H cs (r :: used) fun rs => K (r :: rs)
def evalOut (st : St) (d : Option Nat) (o : Out) (K : St → Prop) : Prop :=
  pickIds st.H o.ch [] fun ids => K ⟨match d with | some d => (d, (o.f ids).1) :: st.T | none => st.T, (o.f ids).2 ++ st.H⟩

def optOut (o : Option AV) : RM Out := match o with | some v => .ret (.val v) | none => .fail
section
variable (tb : Nat → Option TyA)

def fits (t : Nat) (v : AV) : Bool :=
  match tb t with
  | some ty => (match ty.td with
    | .struct _ | .arr _ _ => (match v with | .agg vs => ncellsL vs == ty.size | _ => false)
    | _ => isScalar v)
  | none => false

/-- the elements that a slice value shows -/
def elemsOf : AV → RM (List AV)
  | .list xs => .ret xs
  | .nils => .ret []
  | .own r p sz off len _ => .get r fun e =>
    match e with
    | some (.row _ sz' xs _) => (match p with | [] => if sz = sz' ∧ off + len ≤ xs.length then .ret ((xs.drop off).take len) else .fail | _ => .fail)
    | some (.box v) => (match getP v p with | some (.agg vs) => if off + len ≤ vs.length ∧ allSz sz vs = true then .ret ((vs.drop off).take len) else .fail | _ => .fail)
    | some (.cbox v) => (match getP v p with | some (.agg vs) => if off + len ≤ vs.length ∧ allSz sz vs = true then .ret ((vs.drop off).take len) else .fail | _ => .fail)
    | _ => .fail
  | _ => .fail
/-- a slice of the call's own that is handed on as a constant one: its row's elements are written no more -/
def frz : AV → RM (AV × Heap)
  | .own r p sz off len mc => (match p with
    | [] => .get r fun e => (match e with
      | some (.row e sz' xs fz) => if off + len ≤ xs.length ∧ sz = sz' then .ret (.list ((xs.drop off).take len), [(r, .row e sz' xs xs.length)]) else .fail
      | _ => .fail)
    | _ => .fail)
  | .nils => .ret (.list [], [])
  | v => .ret (v, [])
def frzL : List AV → RM (List AV × Heap)
  | [] => .ret ([], [])
  | v :: vs => (frz v).bind fun x => (frzL vs).bind fun y => .ret (x.1 :: y.1, y.2 ++ x.2)
def frzA : AV → RM (AV × Heap)
  | .agg vs => (frzL vs).bind fun x => .ret (.agg x.1, x.2)
  | v => frz v
def frzAL : List AV → RM (List AV × Heap)
  | [] => .ret ([], [])
  | v :: vs => (frzA v).bind fun x => (frzAL vs).bind fun y => .ret (x.1 :: y.1, y.2 ++ x.2)

def lenA : TD → AV → Option Int
  | .slice _, .list xs => some xs.length
  | .slice _, .nils => some 0
  | .slice _, .own _ _ _ _ len _ => some len
  | .str, .str s => some s.length
  | .arr n _, _ => some n
  | _, _ => none
def cmpI (op : BinOp) (a b : Int) : Option AV :=
  match op with
  | .eql => some (.bool (decide (a = b)))
  | .neq => some (.bool (!decide (a = b)))
  | .lss => some (.bool (decide (a < b)))
  | .leq => some (.bool (decide (a ≤ b)))
  | .gtr => some (.bool (decide (b < a)))
  | .geq => some (.bool (decide (b ≤ a)))
  | _ => none
def bitsI (op : BinOp) (k : IntKind) (a b : Int) : Option AV :=
  match op with
  | .and => some (.int k (k.wrap (BitVec.ofInt k.bits a &&& BitVec.ofInt k.bits b).toNat))
  | .or => some (.int k (k.wrap (BitVec.ofInt k.bits a ||| BitVec.ofInt k.bits b).toNat))
  | .xor => some (.int k (k.wrap (BitVec.ofInt k.bits a ^^^ BitVec.ofInt k.bits b).toNat))
  | .andNot => some (.int k (k.wrap (BitVec.ofInt k.bits a &&& ~~~BitVec.ofInt k.bits b).toNat))
  | _ => none
def binI (op : BinOp) (k : IntKind) (a b : Int) : Option AV :=
  match op with
  | .add => some (.int k (k.wrap (a + b)))
  | .sub => some (.int k (k.wrap (a - b)))
  | .mul => some (.int k (k.wrap (a * b)))
  | .quo => if b = 0 then none else some (.int k (k.wrap (a.tdiv b)))
  | .rem => if b = 0 then none else some (.int k (a.tmod b))
  | .and | .or | .xor | .andNot => bitsI op k a b
  | op => cmpI op a b
def shiftI (op : BinOp) (k : IntKind) (a b : Int) : Option AV :=
  if b < 0 then none else
  match op with
  | .shl => some (.int k (k.wrap (a * 2 ^ (min b.toNat k.bits))))
  | .shr => some (.int k (a.fdiv (2 ^ (min b.toNat k.bits))))
  | _ => none
def cmpS (op : BinOp) (a b : List UInt8) : Option AV :=
  match op with
  | .add => if a.length + b.length ≤ 4611686018427387904 then some (.str (a ++ b)) else none
  | .eql => some (.bool (decide (a = b)))
  | .neq => some (.bool (!decide (a = b)))
  | .lss => some (.bool (Op.bytesLess a b))
  | .leq => some (.bool (Op.bytesLess a b || decide (a = b)))
  | .gtr => some (.bool (!(Op.bytesLess a b || decide (a = b))))
  | .geq => some (.bool (!Op.bytesLess a b))
  | _ => none
mutual
def eqT : CT → AV → AV → Option Bool
  | .int, .int k a, .int k' b => if k = k' then some (decide (a = b)) else none
  | .bool, .bool a, .bool b => some (decide (a = b))
  | .str, .str a, .str b => some (decide (a = b))
  | .agg cs, .agg xs, .agg ys => eqTL cs xs ys
  | .rep n c, .agg xs, .agg ys => if xs.length = n ∧ ys.length = n then eqTR c xs ys else none
  | _, _, _ => none
def eqTL : List CT → List AV → List AV → Option Bool
  | [], [], [] => some true
  | c :: cs, x :: xs, y :: ys => (match eqT c x y with | some r => (match eqTL cs xs ys with | some r' => some (r && r') | none => none) | none => none)
  | _, _, _ => none
def eqTR : CT → List AV → List AV → Option Bool
  | _, [], [] => some true
  | c, x :: xs, y :: ys => (match eqT c x y with | some r => (match eqTR c xs ys with | some r' => some (r && r') | none => none) | none => none)
  | _, _, _ => none
end
/-- is this value nil? (none: that hangs on the memory) -/
def nilA : AV → RM Bool
  | .nilp | .nils | .nilm | .nilf | .nili => .ret true
  | .ptr _ _ | .cref _ | .map _ | .func _ _ _ | .iface _ _ => .ret false
  | .list xs => (match xs with | [] => .dem .ret | _ :: _ => .ret false)
  | .own _ _ _ _ len _ => if 0 < len then .ret false else .dem .ret
  | _ => .fail
def isNil : AV → Bool
  | .nilp | .nils | .nilm | .nilf | .nili => true
  | _ => false
def nilKind : TD → AV → Bool
  | .ptr _, .nilp | .ptr _, .ptr _ _ | .ptr _, .cref _ => true
  | .slice _, .nils | .slice _, .list _ | .slice _, .own _ _ _ _ _ _ => true
  | .map _ _, .nilm | .map _ _, .map _ => true
  | .func, .nilf | .func, .func _ _ _ => true
  | _, _ => false
def eqlA (t : Nat) (x y : AV) : RM Bool :=
  match tb t with
  | some ty => (match x, y with
    | .bool a, .bool b => (match ty.td with | .bool => .ret (decide (a = b)) | _ => .fail)
    | .agg xs, .agg ys => opt (eqT ty.ct (.agg xs) (.agg ys))
    | x, y => if nilKind ty.td x = true ∧ nilKind ty.td y = true then (if isNil y then nilA x else if isNil x then nilA y else .fail) else .fail)
  | none => .fail
def binA (op : BinOp) (t : Nat) (x y : AV) : RM AV :=
  match x, y with
  | .int k a, .int k' b => (match op with
    | .shl | .shr => opt (shiftI op k a b)
    | op => if k = k' then opt (binI op k a b) else .fail)
  | .str a, .str b => opt (cmpS op a b)
  | x, y => (match op with
    | .eql => (eqlA tb t x y).map fun b => .bool b
    | .neq => (eqlA tb t x y).map fun b => .bool !b
    | _ => .fail)
def fillA (places : Nat → Option (Nat × Nat)) : List AV → List (Nat × AV) → Option (List AV)
  | xs, [] => some xs
  | xs, (i, v) :: l =>
    match places i with
    | some (off, sz) => (match xs[i]? with
      | some x => if ncellsL (xs.take i) = off ∧ ncells x = sz ∧ ncells v = sz ∧ known v = true then fillA places (xs.set i v) l else none
      | none => none)
    | none => none

def bytesA : List AV → Option (List UInt8)
  | [] => some []
  | .int .u8 n :: l => (match bytesA l with | some bs => some (UInt8.ofNat n.toNat :: bs) | none => none)
  | _ :: _ => none
def byteA (b : UInt8) : AV := .int .u8 b.toNat

def bd (x : Option AV) (d y : Nat) : Option Nat :=
  match x with
  | none => some d
  | some v => (match v with | .int _ n => if 0 ≤ n ∧ n ≤ y then some n.toNat else none | _ => none)
/-- bounds of a slice expression: low, high, max over a length and a capacity that is at least mc -/
def sliceBd (len mc : Nat) (lo hi mx : Option AV) : Option (Nat × Nat × Nat) :=
  match bd mx mc mc with
  | none => none
  | some m =>
    match bd hi len m with
    | none => none
    | some h =>
      match bd lo 0 h with
      | none => none
      | some l => if h ≤ m ∧ (mx.isSome = true → hi.isSome = true) then some (l, h, m) else none
/-- the size of a slice type's elements -/
def esize (t : Nat) : Option Nat :=
  match tb t with
  | some ty => (match ty.td with
    | .slice e => (match tb e with | some te => some te.size | none => none)
    | _ => none)
  | none => none
def sliceA (t : Nat) (x : AV) (lo hi mx : Option AV) : Option AV :=
  match x with
  | .list xs => (match esize tb t with
    | some sz => if allSz sz xs = true then (match sliceBd xs.length xs.length lo hi mx with | some (l, h, _) => some (.list ((xs.drop l).take (h - l))) | none => none) else none
    | none => none)
  | .nils => (match esize tb t with
    | some _ => (match sliceBd 0 0 lo hi mx with | some _ => some .nils | none => none)
    | none => none)
  | .own r p sz off len mc => if esize tb t = some sz then (match sliceBd len mc lo hi mx with | some (l, h, m) => some (.own r p sz (off + l) (h - l) (m - l)) | none => none) else none
  | .cref (.agg vs) => (match tb t with
    | some ty => (match ty.td with
      | .arr n e => (match tb e with | some te => if vs.length = n ∧ allSz te.size vs = true then (match sliceBd n n lo hi mx with | some (l, h, _) => some (.list ((vs.drop l).take (h - l))) | none => none) else none | none => none)
      | _ => none)
    | none => none)
  | .str s => (match tb t with
    | some ty => (match ty.td with
      | .str => (match mx with | none => (match sliceBd s.length s.length lo hi none with | some (l, h, _) => some (.str ((s.drop l).take (h - l))) | none => none) | some _ => none)
      | _ => none)
    | none => none)
  | _ => none
/-- an array behind a pointer, cut -/
def sliceArr (t : Nat) (r : Id) (p : List Stp) (lo hi mx : Option AV) : RM Out :=
  match tb t with
  | some ty => (match ty.td with
    | .arr n e => (match tb e with
      | some te => .get r fun en => (match en with
        | some en => (match entGet en p with
          | some (.agg vs) => if vs.length = n ∧ allSz te.size vs = true then (match sliceBd n n lo hi mx with | some (l, h, m) => .ret (.val (.own r p te.size l (h - l) (m - l))) | none => .fail) else .fail
          | _ => .fail)
        | none => .fail)
      | none => .fail)
    | _ => .fail)
  | none => .fail
def sliceRM (t : Nat) (x : AV) (lo hi mx : Option AV) : RM Out :=
  match x with
  | .ptr r p => sliceArr tb t r p lo hi mx
  | v => optOut (sliceA tb t v lo hi mx)
def roomy (n bytes : Nat) : Prop := n * bytes ≤ 35184372088832 ∧ n ≤ 4611686018427387904
instance (n bytes : Nat) : Decidable (roomy n bytes) := inferInstanceAs (Decidable (_ ∧ _))

def appendA (t : Nat) (s : AV) (ys : List AV) : RM Out :=
  match tb t with
  | some ty => (match ty.td with
    | .slice e => (match tb e with
      | some te =>
        match s with
        | .nils => if roomy ys.length te.bytes ∧ 0 < te.size ∧ allSz te.size ys = true then .ret (.fresh fun r => (.own r [] te.size 0 ys.length ys.length, [(r, .row e te.size ys 0)])) else .fail
        | .own r p sz off len mc => (match p with
          | [] => .get r fun en => (match en with
            | some (.row e' sz' xs fz) =>
              if e' = e ∧ sz' = te.size ∧ sz = sz' ∧ allSz te.size ys = true ∧ roomy (len + ys.length) te.bytes then
                if ¬ (off = 0 ∧ len = xs.length) ∧ off + len + ys.length ≤ xs.length ∧ len + ys.length ≤ mc ∧ fz ≤ off + len then
                  .ret (.upd (.own r [] sz off (len + ys.length) mc) [(r, .row e' sz' (xs.take (off + len) ++ ys ++ xs.drop (off + len + ys.length)) fz)])
                else if off = 0 ∧ len = xs.length then
                  .ret (.over r fun r' => (.own r' [] sz 0 (len + ys.length) (len + ys.length), [(r', .row e' sz' (xs ++ ys) fz), (r, .dead)]))
                else .fail
              else .fail
            | _ => .fail)
          | _ => .fail)
        | _ => .fail
      | none => .fail)
    | _ => .fail)
  | none => .fail
/-- append(nil, make(.., n)...) -/
def appendZ (t : Nat) (n : Int) : RM Out :=
  match tb t with
  | some ty => (match ty.td with
    | .slice e => (match tb e with
      | some te => if 0 ≤ n ∧ roomy n.toNat te.bytes ∧ 0 < te.size then .ret (.fresh fun r => (.own r [] te.size 0 n.toNat n.toNat, [(r, .row e te.size (List.replicate n.toNat te.zero) 0)])) else .fail
      | none => .fail)
    | _ => .fail)
  | none => .fail
def spliceA (xs : List AV) (off : Nat) (ys : List AV) : List AV := xs.take off ++ ys ++ xs.drop (off + ys.length)
def copyA (t : Nat) (d : AV) (ys : List AV) : RM Out :=
  match d with
  | .nils => (match esize tb t with | some _ => .ret (.val (.int .i64 0)) | none => .fail)
  | .own r p sz off len mc =>
    if allSz sz (ys.take len) = true ∧ esize tb t = some sz then
    .get r fun en => (match en with
    | some (.row e sz' xs fz) => (match p with
      | [] => if sz = sz' ∧ off + len ≤ xs.length ∧ fz ≤ off then .ret (.upd (.int .i64 ((ys.take len).length : Nat)) [(r, .row e sz' (spliceA xs off (ys.take len)) fz)]) else .fail
      | _ => .fail)
    | some (.box v) => (match getP v p with
      | some (.agg vs) => if off + len ≤ vs.length ∧ allSz sz vs = true then (match setP v p (.agg (spliceA vs off (ys.take len))) with | some v' => .ret (.upd (.int .i64 ((ys.take len).length : Nat)) [(r, .box v')]) | none => .fail) else .fail
      | _ => .fail)
    | _ => .fail)
    else .fail
  | _ => .fail
def clearA (t : Nat) (d : AV) : RM Out :=
  match tb t with
  | some ty => (match ty.td with
    | .slice e => (match tb e with
      | some te => (match d with
        | .nils => .ret (.val (.tup []))
        | .own r p sz off len mc =>
          if sz = te.size then
          .get r fun en => (match en with
          | some (.row e' sz' xs fz) => (match p with
            | [] => if e' = e ∧ sz = sz' ∧ off + len ≤ xs.length ∧ fz ≤ off then .ret (.upd (.tup []) [(r, .row e' sz' (spliceA xs off (List.replicate len te.zero)) fz)]) else .fail
            | _ => .fail)
          | _ => .fail)
          else .fail
        | _ => .fail)
      | none => .fail)
    | _ => .fail)
  | none => .fail
/-! maps -/
def scalarC : CT → Bool
  | .int | .bool | .str => true
  | _ => false
/-- where a key lies -/
def idxK (c : CT) (k : AV) : List (AV × AV) → Option (Option Nat)
  | [] => some none
  | (k', _) :: l => (match eqT c k k' with | some b => if b = true then some (some 0) else (match idxK c k l with | some o => some (o.map (· + 1)) | none => none) | none => none)
def lkK (c : CT) (k : AV) : List (AV × AV) → RM (Option AV)
  | [] => .ret none
  | (k', v) :: l => (match eqT c k k' with | some b => if b = true then .ret (some v) else lkK c k l | none => .fail)
def updK (c : CT) (k v : AV) : List (AV × AV) → RM (List (AV × AV))
  | [] => .ret [(k, v)]
  | (k', v') :: l => (match eqT c k k' with | some b => if b = true then .ret ((k', v) :: l) else (updK c k v l).bind fun l' => .ret ((k', v') :: l') | none => .fail)
def delK (c : CT) (k : AV) : List (AV × AV) → RM (List (AV × AV))
  | [] => .ret []
  | (k', v') :: l => (match eqT c k k' with | some b => if b = true then .ret l else (delK c k l).bind fun l' => .ret ((k', v') :: l') | none => .fail)
/-- a map type's key and element, the key comparable here -/
def mapT (t : Nat) : Option (Nat × TyA × Nat × TyA) :=
  match tb t with
  | some ty => (match ty.td with
    | .map k e => (match tb k, tb e with | some tk, some te => if scalarC tk.ct = true then some (k, tk, e, te) else none | _, _ => none)
    | _ => none)
  | none => none
def mapGet (m : AV) : RM (List (AV × AV)) :=
  match m with
  | .nilm => .ret []
  | .map r => .get r fun e => (match e with | some (.map _ _ l) => .ret l | _ => .fail)
  | _ => .fail
def fitsK (tk : TyA) (k : AV) : Bool := match tk.ct, k with | .int, .int _ _ => true | .bool, .bool _ => true | .str, .str _ => true | _, _ => false
def lkOut (ok : Bool) (v : AV) (b : Bool) : RM Out := if notTup v = true then .ret (.val (if ok = true then .tup [v, .bool b] else v)) else .fail
def lookupA (t : Nat) (m k : AV) (commaOk : Bool) : RM Out :=
  match mapT tb t with
  | some (_, tk, _, te) => if fitsK tk k = true then (mapGet m).bind fun l => (lkK tk.ct k l).bind fun o => lkOut commaOk (match o with | some v => v | none => te.zero) o.isSome else .fail
  | none => .fail
def mapUpdA (t : Nat) (m k v : AV) : RM Out :=
  match mapT tb t with
  | some (_, tk, e, _) => (match m with
    | .map r => if fitsK tk k = true ∧ fits tb e v = true then .get r fun en => (match en with
      | some (.map kt et l) => (updK tk.ct k v l).bind fun l' => .ret (.upd .any [(r, .map kt et l')])
      | _ => .fail) else .fail
    | _ => .fail)
  | none => .fail
def deleteA (t : Nat) (m k : AV) : RM Out :=
  match mapT tb t with
  | some (_, tk, _, _) => (match m with
    | .map r => if fitsK tk k = true then .get r fun en => (match en with
      | some (.map kt et l) => (delK tk.ct k l).bind fun l' => .ret (.upd (.tup []) [(r, .map kt et l')])
      | _ => .fail) else .fail
    | _ => .fail)
  | none => .fail
def semBuiltin (b : Builtin) (ts : List Nat) (args : List AV) : RM Out :=
  match b with
  | .len => (match ts, args with
    | t :: _, [x] => (match tb t with | some ty => (match lenA ty.td x with | some n => .ret (.val (.int .i64 n)) | none => .fail) | none => .fail)
    | _, _ => .fail)
  | .cap => (match ts, args with
    | t :: _, [.nils] => (match esize tb t with | some _ => .ret (.val (.int .i64 0)) | none => .fail)
    | _, _ => .fail)
  | .min => (match args with | [.int k a, .int k' b] => if k = k' then .ret (.val (.int k (if b < a then b else a))) else .fail | _ => .fail)
  | .max => (match args with | [.int k a, .int k' b] => if k = k' then .ret (.val (.int k (if a < b then b else a))) else .fail | _ => .fail)
  | .append => (match ts, args with
    | t :: t2 :: _, [s, x] => (match tb t2 with
      | some ty2 => (match ty2.td with
        | .slice _ => (elemsOf x).bind fun ys => appendA tb t s ys
        | .str => (match x with | .str bs => appendA tb t s (bs.map byteA) | _ => .fail)
        | .int _ => (match s, x with | .nils, .int .i64 n => appendZ tb t n | _, _ => .fail)
        | _ => .fail)
      | none => .fail)
    | _, _ => .fail)
  | .copy => (match ts, args with
    | t :: _, [d, x] => (elemsOf x).bind fun ys => copyA tb t d ys
    | _, _ => .fail)
  | .clear => (match ts, args with
    | t :: _, [d] => clearA tb t d
    | _, _ => .fail)
  | .delete => (match ts, args with
    | t :: _, [m, k] => deleteA tb t m k
    | _, _ => .fail)
  | _ => .fail
def convA (src dst : Nat) (x : AV) : RM Out :=
  match tb src, tb dst with
  | some a, some b => (match b.td, x with
    | .int k, .int _ n => .ret (.val (.int k (k.wrap n)))
    | .str, .str s => .ret (.val (.str s))
    | .str, x => (match a.td with
      | .slice e => (match tb e with
        | some te => (match te.td with
          | .int .u8 => (elemsOf x).bind fun ys => (match bytesA ys with | some bs => .ret (.val (.str bs)) | none => .fail)
          | _ => .fail)
        | none => .fail)
      | _ => .fail)
    | _, _ => .fail)
  | _, _ => .fail
def buildA (t : Nat) (parts : List (Nat × AV)) : Option AV :=
  match tb t with
  | some ty => (match ty.zero with
    | .agg zs => (match ty.td with
      | .struct fs => (match fillA (fun i => match fs[i]? with | some (ft, off) => (match tb ft with | some fty => some (off, fty.size) | none => none) | none => none) zs parts with | some xs => some (.agg xs) | none => none)
      | .arr _ e => (match tb e with | some te => (match fillA (fun i => some (i * te.size, te.size)) zs parts with | some xs => some (.agg xs) | none => none) | none => none)
      | _ => none)
    | _ => none)
  | none => none
def idxA (x : AV) (i : AV) (t : Nat) : Option AV :=
  match i with
  | .int _ n =>
    match x with
    | .list xs => if 0 ≤ n ∧ n < xs.length then (match xs[n.toNat]? with | some v => if esize tb t = some (ncells v) then some (.cref v) else none | none => none) else none
    | .own r p sz off len _ => if 0 ≤ n ∧ n < len ∧ esize tb t = some sz then some (.ptr r (p ++ [⟨off + n.toNat, (off + n.toNat) * sz⟩])) else none
    | .ptr r p => (match tb t with
      | some ty => (match ty.td with
        | .arr m e => (match tb e with | some te => if 0 ≤ n ∧ n < m then some (.ptr r (p ++ [⟨n.toNat, n.toNat * te.size⟩])) else none | none => none)
        | _ => none)
      | none => none)
    | .cref (.agg vs) => (match tb t with
      | some ty => (match ty.td with
        | .arr m e => (match tb e with | some te => if 0 ≤ n ∧ n < m ∧ ncellsL (vs.take n.toNat) = n.toNat * te.size then (match vs[n.toNat]? with | some v => some (.cref v) | none => none) else none | none => none)
        | _ => none)
      | none => none)
    | _ => none
  | _ => none
def fieldAddrA (s : Nat) (x : AV) (f : Nat) : Option AV :=
  match tb s with
  | some ty => (match ty.td with
    | .struct fs => (match fs[f]? with
      | some (_, off) => (match x with
        | .ptr r p => some (.ptr r (p ++ [⟨f, off⟩]))
        | .cref (.agg vs) => if ncellsL (vs.take f) = off then (match vs[f]? with | some v => some (.cref v) | none => none) else none
        | _ => none)
      | none => none)
    | _ => none)
  | none => none
def fieldA (s : Nat) (x : AV) (f : Nat) : Option AV :=
  match tb s with
  | some ty => (match ty.td with
    | .struct fs => (match fs[f]? with
      | some (ft, off) => (match x with
        | .agg vs => if ncellsL (vs.take f) = off then (match vs[f]? with | some v => if fits tb ft v then some v else none | none => none) else none
        | _ => none)
      | none => none)
    | _ => none)
  | none => none
def indexA (t : Nat) (x i : AV) : Option AV :=
  match i with
  | .int _ n =>
    match x with
    | .agg vs => (match tb t with
      | some ty => (match ty.td with
        | .arr m e => (match tb e with | some te => if 0 ≤ n ∧ n < m ∧ ncellsL (vs.take n.toNat) = n.toNat * te.size then (match vs[n.toNat]? with | some v => if fits tb e v then some v else none | none => none) else none | none => none)
        | _ => none)
      | none => none)
    | .str s => (match tb t with
      | some ty => (match ty.td with
        | .str => if 0 ≤ n ∧ n < s.length then (match s[n.toNat]? with | some b => some (byteA b) | none => none) else none
        | _ => none)
      | none => none)
    | _ => none
  | _ => none
def loadA (t : Nat) (x : AV) : RM Out :=
  match x with
  | .ptr r p => .get r fun e => (match e with | some e => (match entGet e p with | some v => if fits tb t v then .ret (.val v) else .fail | none => .fail) | none => .fail)
  | .cref v => if fits tb t v then .ret (.val v) else .fail
  | _ => .fail
def isRow : Option Ent → Bool
  | some (.row _ _ _ _) => true
  | _ => false
def storeA (t : Nat) (x v : AV) : RM Out :=
  match x with
  | .ptr r p => .get r fun e => (match e with
    | some e => if fits tb t v then
        if isRow (some e) then (frzA v).bind fun v' => .asrt (freshBut none v'.2 r) (match entSet e p v'.1 with | some e' => .ret (.upd .any ((r, e') :: v'.2)) | none => .fail)
        else (match entSet e p v with | some e' => .ret (.upd .any [(r, e')]) | none => .fail)
      else .fail
    | none => .fail)
  | _ => .fail
def semOp (T : List (Nat × AV)) (o : Op) : RM Out :=
  match o with
  | .move x | .assign x => .ret (.val (ev T x))
  | .pick c a b => (match ev T c with | .bool t => .ret (.val (if t then ev T a else ev T b)) | _ => .fail)
  | .alloc e => (match tb e with | some ty => .ret (.fresh fun r => (.ptr r [], [(r, .box ty.zero)])) | none => .fail)
  | .box e x => if fits tb e (ev T x) then .ret (.fresh fun r => (.ptr r [], [(r, .box (ev T x))])) else .fail
  | .build t parts => optOut (buildA tb t (parts.toList.map fun p => (p.1, ev T p.2)))
  | .buildSlice t len parts => (match tb t with
    | some ty => (match ty.td with
      | .slice e => (match tb e with
        | some te => if 0 < te.size ∧ len * te.size ≤ 16777216 then
            (match fillA (fun i => some (i * te.size, te.size)) (List.replicate len te.zero) (parts.toList.map fun p => (p.1, ev T p.2)) with
            | some xs => (frzAL xs).bind fun y => .ret (.fresh fun r => (.own r [] te.size 0 len len, (r, .row e te.size y.1 0) :: y.2))
            | none => .fail)
          else .fail
        | none => .fail)
      | _ => .fail)
    | none => .fail)
  | .load t x => loadA tb t (ev T x)
  | .store t a x => storeA tb t (ev T a) (ev T x)
  | .nilCheck x => (match ev T x with | .ptr r p => .ret (.val (.ptr r p)) | .cref v => .ret (.val (.cref v)) | _ => .fail)
  | .binOp op t x y _ => (binA tb op t (ev T x) (ev T y)).bind fun v => .ret (.val v)
  | .unOp op _ x => (match op, ev T x with
    | .not, .bool b => .ret (.val (.bool !b))
    | .neg, .int k n => .ret (.val (.int k (k.wrap (0 - n))))
    | .xor, .int k n => optOut (bitsI .xor k (if k.signed then -1 else k.max) n)
    | _, _ => .fail)
  | .convert src dst x => convA tb src dst (ev T x)
  | .makeFunc fn first captured => (match fn with | .func f => if notTups (first.toList.map (ev T)) = true ∧ notTups (captured.toList.map (ev T)) = true then .ret (.val (.func f (first.toList.map (ev T)) (captured.toList.map (ev T)))) else .fail | _ => .fail)
  | .makeSlice t l c => (match tb t with
    | some ty => (match ty.td with
      | .slice e => (match tb e with
        | some te => (match ev T l, ev T c with
          | .int .i64 n, .int .i64 m => if 0 ≤ n ∧ n ≤ m ∧ roomy m.toNat te.bytes ∧ 0 < te.size then .ret (.fresh fun r => (.own r [] te.size 0 n.toNat m.toNat, [(r, .row e te.size (List.replicate n.toNat te.zero) 0)])) else .fail
          | _, _ => .fail)
        | none => .fail)
      | _ => .fail)
    | none => .fail)
  | .slice t x lo hi mx => sliceRM tb t (ev T x) (lo.map (ev T)) (hi.map (ev T)) (mx.map (ev T))
  | .fieldAddr s x f => optOut (fieldAddrA tb s (ev T x) f)
  | .field s x f => optOut (fieldA tb s (ev T x) f)
  | .indexAddr t x i => optOut (idxA tb (ev T x) (ev T i) t)
  | .index t x i => optOut (indexA tb t (ev T x) (ev T i))
  | .makeMap t rsv => (match rsv with | some _ => .fail | none => (match mapT tb t with | some (k, _, e, _) => .ret (.fresh fun r => (.map r, [(r, .map k e [])])) | none => .fail))
  | .lookup t m k ok => lookupA tb t (ev T m) (ev T k) ok
  | .mapUpdate t m k v => mapUpdA tb t (ev T m) (ev T k) (ev T v)
  | .extract t i => (match ev T t with | .tup vs => optOut vs[i]? | _ => .fail)
  | .call c => (match c.callee with | .builtin b => semBuiltin tb b c.argTypes.toList (c.args.toList.map (ev T)) | _ => .fail)
  | _ => .fail
end
end Go.Am
set_option linter.unusedVariables false
namespace Go.Am

def thawed (cs : Array Value) (fr : Nat × Nat) : Prop := ∀ o, o < cs.size → ¬ (fr.1 ≤ o ∧ o < fr.2)
def RepM (R : CSet) (w : World) : List (AV × AV) → List MapEntry → Prop
  | [], es => es = []
  | kv :: l, es => ∃ e es', es = e :: es' ∧ RepV R w kv.1 e.key ∧ RepV R w kv.2 e.val ∧ RepM R w l es'
/-- an entry of the abstract heap holds of the memory -/
def EntOK (P : Program) (R : CSet) (w : World) (r : Id) (en : Ent) : Prop :=
  match r with
  | .blk b => (match en with
    | .box v => ∃ cs e fr, w.heap[b]? = some (.cells cs e fr) ∧ thawed cs fr ∧ Rep R w v cs.toList
    | .cbox v => ∃ cs e fr, w.heap[b]? = some (.cells cs e fr) ∧ Rep R w v cs.toList ∧ constAt R w b 0 cs.toList
    | .row e sz xs fz => ∃ cs fr, w.heap[b]? = some (.cells cs e fr) ∧ thawed cs fr ∧ 0 < sz ∧ P.cellsOf e = sz ∧ fz ≤ xs.length ∧ (∃ cap, cs.size = cap * sz) ∧ (∀ o, o < fz * sz → R b o) ∧ ∃ cells rest, RepE R w sz xs cells ∧ cs.toList = cells ++ rest
    | .map _ _ l => ∃ es clock, w.heap[b]? = some (.map es clock) ∧ RepM R w l es.toList ∧ (∀ e, e ∈ es.toList → e.born < clock) ∧ es.toList.Pairwise (fun a b => a.born < b.born)
    | .dead => b < w.heap.size)
  | .virt _ => (match en with
    | .row e sz xs fz => xs = [] ∧ fz = 0 ∧ 0 < sz ∧ P.cellsOf e = sz
    | .dead => True
    | _ => False)
/-- the cells that a heap lets be written -/
def Wr (H : Heap) (b o : Nat) : Prop :=
  match hf H (.blk b) with
  | some (.box _) => True
  | some (.row _ sz _ fz) => fz * sz ≤ o
  | _ => False
structure WfH (P : Program) (R : CSet) (H : Heap) (w : World) : Prop where
  lt : ∀ b o, R b o → b < w.heap.size
  dis : ∀ b o, R b o → ¬ Wr H b o
  ents : ∀ r e, hf H r = some e → EntOK P R w r e
def NewId (N : Nat) (w : World) (r : Id) : Prop := match r with | .blk b => w.heap.size ≤ b | .virt n => N ≤ n
def VBound (N : Nat) (H : Heap) : Prop := ∃ M, N ≤ M ∧ ∀ n, hf H (.virt n) ≠ none → n < M
/-- from one state of the memory to a later one -/
structure StepOK (P : Program) (N : Nat) (R : CSet) (H : Heap) (w : World) (R' : CSet) (H' : Heap) (w' : World) : Prop where
  keeps : Keeps R w R' w'
  grow : ∀ b o, R' b o → R b o ∨ w.heap.size ≤ b ∨ Wr H b o
  wr : ∀ b o, Wr H' b o → Wr H b o ∨ w.heap.size ≤ b
  wf : WfH P R' H' w'
  others : ∀ b, b < w.heap.size → hf H (.blk b) = none → w'.heap[b]? = w.heap[b]? ∧ hf H' (.blk b) = none
  size : w.heap.size ≤ w'.heap.size
  env : w'.os = w.os ∧ w'.tape = w.tape ∧ w'.output = w.output
  news : ∀ r, hf H' r ≠ none → hf H r ≠ none ∨ NewId N w r
  virt : VBound N H'

inductive Picks (N : Nat) (w : World) (H : Heap) : List (Option Id) → List Id → List Id → Prop
  | nil {used} : Picks N w H [] used []
  | cons {c cs used r rs} : freshBut c H r → notIn used r → (NewId N w r ∨ c = some r) → Picks N w H cs (r :: used) rs → Picks N w H (c :: cs) used (r :: rs)

def CallF (P : Program) (f : FuncId) (args : Array Value) (w : World) (R : Ending → World → Prop) : Prop :=
  match (callFunc f args).run P w with
  | .ok (.enter g as) w1 => Calls P g as w1 R
  | .ok (.value v) w1 => R (.returned v) w1
  | _ => False
def Post (P : Program) (N : Nat) (R : CSet) (H : Heap) (w : World) (out : Out) (e : Ending) (w' : World) : Prop :=
  ∃ v ids R', e = .returned v ∧ Picks N w H out.ch [] ids ∧ StepOK P N R H w R' ((out.f ids).2 ++ H) w' ∧ RepV R' w' (out.f ids).1 v
/-- THE CONTRACT of a function: called with these arguments, over memory that holds these entries, it comes to this. -/
def FnG (P : Program) (f : FuncId) (args : List AV) (Hin : Heap) (out : Out) : Prop :=
  ∀ (w : World) (R : CSet) (N : Nat) (cargs : Array Value), WfH P R Hin w → VBound N Hin → (∀ n, hf Hin (.virt n) ≠ none → n < N) → RepVs R w args cargs.toList →
    CallF P f cargs w (Post P N R Hin w out)

-- how an argument of the caller's is handed on: what is left of its rows
mutual
def flat : AV → Bool
  | .int _ _ | .bool _ | .str _ | .nilp | .nils | .nilm | .nilf | .nili => true
  | .agg vs => flatL vs
  | .tup vs => flatL vs
  | _ => false
def flatL : List AV → Bool
  | [] => true
  | v :: vs => flat v && flatL vs
end
def pass1 (x y : AV) : RM Heap :=
  match x, y with
  | .tup _, _ => .fail
  | .own r p sz off len _, .list ys => .get r fun e => (match e with
    | some (.row e' sz' xs fz) => (match p with
      | [] => .asrt (sz = sz' ∧ off + len ≤ xs.length ∧ (xs.drop off).take len = ys) (.ret [(r, .row e' sz' xs xs.length)])
      | _ => .fail)
    | some (.box v) => (match getP v p with
      | some (.agg vs) => .asrt (off + len ≤ vs.length ∧ (vs.drop off).take len = ys ∧ allSz sz vs = true) (.ret [(r, .cbox v)])
      | _ => .fail)
    | some (.cbox v) => (match getP v p with
      | some (.agg vs) => .asrt (off + len ≤ vs.length ∧ (vs.drop off).take len = ys ∧ allSz sz vs = true) (.ret [])
      | _ => .fail)
    | _ => .fail)
  | .nils, .list ys => .asrt (ys = []) (.ret [])
  | .own r p sz off len mc, .own r' p' sz' off' len' mc' => .asrt (r = r' ∧ p = p' ∧ sz = sz' ∧ off = off' ∧ len = len' ∧ len' ≤ mc' ∧ mc' ≤ mc) (.ret [])
  | .ptr r p, .cref v => .get r fun e => (match e with
    | some (.box u) => (match p with | [] => .asrt (u = v) (.ret [(r, .cbox u)]) | _ => .fail)
    | some (.cbox u) => (match p with | [] => .asrt (u = v) (.ret []) | _ => .fail)
    | _ => .fail)
  | x, y => .asrt (x = y) (.ret [])
def passL : List AV → List AV → RM Heap
  | [], ys => .asrt (ys = []) (.ret [])
  | x :: xs, ys => (match ys with
    | y :: ys => (pass1 x y).bind fun a => (passL xs ys).bind fun b => .ret (b ++ a)
    | [] => .fail)
def passA (x y : AV) : RM Heap :=
  match x, y with
  | .agg xs, .agg ys => passL xs ys
  | .func f fi ca, .func g gi cb => .asrt (f = g) ((passL fi gi).bind fun a => (passL ca cb).bind fun b => .ret (b ++ a))
  | x, y => pass1 x y
def passAll : List AV → List AV → RM Heap
  | [], ys => .asrt (ys = []) (.ret [])
  | x :: xs, ys => (match ys with
    | y :: ys => (passA x y).bind fun a => (passAll xs ys).bind fun b => .ret (b ++ a)
    | [] => .fail)
def apart (h g : Heap) : Prop := match h with | [] => True | (k, _) :: l => freshBut none g k ∧ apart l g
def callRM (args pargs : List AV) (Hin : Heap) (out : Out) (tmp : Bool) : RM Out :=
  (passAll args pargs).bind fun fz => .asrt (apart fz Hin) (.need Hin
    (if tmp = true then .asrt (Hin = [] ∧ out.ch = [] ∧ (out.f []).2 = [] ∧ flat (out.f []).1 = true) (.ret out)
    else .ret ⟨out.ch, fun ids => ((out.f ids).1, (out.f ids).2 ++ fz)⟩))

/-- a contract, told for a call's arguments -/
structure CallSpec where
  pargs : List AV
  Hin : Heap
  out : Out
  tmp : Bool
def RM.runL {α : Type} (H : Heap) : RM α → List Id → (α → List Id → Prop) → Prop
  | .ret a, log, K => K a log
  | .fail, _, _ => False
  | .get r k, log, K => (k (hf H r)).runL H (r :: log) K
  | .need h k, log, K => (∀ p, p ∈ h → hf H p.1 = some p.2) ∧ k.runL H (h.map Prod.fst ++ log) K
  | .asrt p k, log, K => p ∧ k.runL H log K
  | .dem k, log, K => ∀ b, (k b).runL H log K
def gslot (ops : List Oper) (j : Nat) : Option Nat := match ops[j]? with | some o => o.dst | none => none
def gval (ops : List Oper) (T : List (Nat × AV)) (j : Nat) : AV := match gslot ops j with | some d => lk T d | none => .any
section
variable (P : Program) (tb : Nat → Option TyA) (sp : FuncId → List AV → RM CallSpec)
def semCall (fv : AV) (args : List AV) : RM Out :=
  match fv with
  | .func f fi ca => (sp f (fi ++ args ++ ca)).bind fun s => .asrt (FnG P f s.pargs s.Hin s.out) (callRM (fi ++ args ++ ca) s.pargs s.Hin s.out s.tmp)
  | _ => .fail
def semX (T : List (Nat × AV)) (op : Op) : RM Out :=
  match op with
  | .call c => (match c.callee with
    | .value f => semCall P sp (ev T f) (c.args.toList.map (ev T))
    | _ => semOp tb T (.call c))
  | op => semOp tb T op
/-- what is not wanted leaves no value -/
def semG (g : AV) (want : Bool) (x : RM Out) : RM Out := match g with | .bool b => if b = want then x else .ret (.val (.tup [])) | .tup l => (match l with | [] => .ret (.val (.tup [])) | _ :: _ => .fail) | _ => .fail
def stepRM (ops : List Oper) (T : List (Nat × AV)) (o : Oper) : RM Out :=
  match o.guard with
  | none => semX P tb sp T o.op
  | some (g, want) => semG (gval ops T g) want (semX P tb sp T o.op)
def WL (ops : List Oper) : List Oper → St → (St → Prop) → Prop
  | [], st, K => K st
  | o :: l, st, K => (stepRM P tb sp ops st.T o).run st.H fun out => evalOut st o.dst out fun st' => WL ops l st' K

/-! a region that draws its order: in the text's order -/
def disj : List Id → List Id → Prop
  | [], _ => True
  | a :: l, m => notIn m a ∧ disj l m
abbrev Trace := List (Nat × List Id × List Id)
def clash (prs : List (Nat × Nat)) (j : Nat) (log us : List Id) : Trace → Prop
  | [] => True
  | (i, log', us') :: tr => ((i, j) ∈ prs → disj us (log' ++ us') ∧ disj us' log) ∧ clash prs j log us tr
/-- the entries are of ids that were chosen, or known before -/
def keysOk (H : Heap) (ids : List Id) : List Id → Prop
  | [] => True
  | k :: ks => (k ∈ ids ∨ hf H k ≠ none) ∧ keysOk H ids ks
def covers (us : List Id) : List Id → Prop
  | [] => True
  | i :: is => i ∈ us ∧ covers us is
def chOk (H : Heap) : List (Option Id) → Prop
  | [] => True
  | c :: l => (match c with | some q => hf H q ≠ none | none => True) ∧ chOk H l
/-- what is asked of an operation's ids and entries -/
def tidy (H : Heap) (ch : List (Option Id)) (ids us : List Id) : Prop := covers us ids ∧ keysOk H ids us ∧ chOk H ch
def putO (st : St) (d : Option Nat) (o : AV × Heap) : St := ⟨match d with | some d => (d, o.1) :: st.T | none => st.T, o.2 ++ st.H⟩
def WD (ops : List Oper) (prs : List (Nat × Nat)) : List (Nat × Oper) → St → Trace → (St → Prop) → Prop
  | [], st, _, K => K st
  | (j, o) :: l, st, tr, K => (stepRM P tb sp ops st.T o).runL st.H [] fun out log => pickIds st.H out.ch [] fun ids =>
      tidy st.H out.ch ids ((out.f ids).2.map Prod.fst) ∧ clash prs j log ((out.f ids).2.map Prod.fst) tr ∧
      WD ops prs l (putO st o.dst (out.f ids)) ((j, log, (out.f ids).2.map Prod.fst) :: tr) K

inductive Ex | normal | exit (id : Nat) | ret
structure Base where
  w : World
  R : CSet
  H : Heap
  N : Nat
  n : Nat
/-- the abstract state speaks of this frame and this memory -/
structure SimR (B : Base) (R : CSet) (st : St) (a : Act) (w : World) : Prop where
  step : StepOK P B.N B.R B.H B.w R st.H w
  size : a.tmps.size = B.n
  tmps : ∀ t, RepV R w (lk st.T t) (a.tmps.getD t undef)
  defers : a.defers = []
def Ent' (st : St) (K : St → Prop) : Prop := ∀ B a w R, SimR P B R st a w → ∃ R' st', SimR P B R' st' a w ∧ K st'
def WLoop (b : St → (Ex → St → Prop) → Prop) (st : St) (Q : Ex → St → Prop) : Prop :=
  ∃ I : Nat → St → Prop, Ent' P st (fun st => ∃ n, I n st) ∧
    ∀ n st, I n st → b st fun e st' => match e with | .normal => Ent' P st' (fun st => ∃ m, m < n ∧ I m st) | e => Q e st'

/-! the order that a region's text leaves open -/
/-- for each operation, those that come ahead of it in every order -/
def ancs (ops : List Oper) : List (List Nat) :=
  ops.foldl (fun acc o => acc ++ [(o.after.toList.filter (Region.binds .any)).flatMap fun e => e.on :: (acc[e.on]?).getD []]) []
def pure' : Op → Bool
  | .move _ | .assign _ | .pick .. | .build .. | .nilCheck _ | .unOp .. | .makeFunc .. | .fieldAddr .. | .field .. | .indexAddr .. | .index .. | .extract .. => true
  | .binOp op .. => !(op matches .eql | .neq)
  | _ => false
/-- the pairs without an order: all of them, and those that touch memory -/
def openPairs (ops : List Oper) : List (Nat × Nat) :=
  (ancs ops).zipIdx.flatMap fun (an, j) => (List.range j).filterMap fun i => if an.contains i then none else some (i, j)
def memPairs (ops : List Oper) : List (Nat × Nat) :=
  let pu := (ops.map fun o => pure' o.op)
  (openPairs ops).filter fun (i, j) => !(pu[i]?).getD true && !(pu[j]?).getD true
/-- edges go back; operations without an order do not touch each other's slots; a region without a select -/
def orderly (ops : List Oper) : Bool :=
  ops.zipIdx.all (fun (o, j) => o.after.toList.all (fun e => !Region.binds .any e || e.on < j)) &&
  (openPairs ops).all (fun (i, j) => match ops[i]?, ops[j]? with | some x, some y => x.apart ops.toArray y && y.apart ops.toArray x | _, _ => false)
def WDraw (ops : List Oper) (st : St) (K : St → Prop) : Prop :=
  ∃ prs l, orderly ops = true ∧ memPairs ops = prs ∧ ops.zipIdx.map (fun p => (p.2, p.1)) = l ∧ WD P tb sp ops prs l st [] K
def WCond (c : AV) (x y : Prop) : Prop := match c with | .bool t => if t = true then x else y | _ => False
def W : Code → St → (Ex → St → Prop) → Prop
  | .skip, st, Q => Q .normal st
  | .seq a b, st, Q => W a st fun e st' => match e with | .normal => W b st' Q | e => Q e st'
  | .region _ ops d, st, Q => if d = true then WDraw P tb sp ops.toList st (Q .normal) else WL P tb sp ops.toList ops.toList st (Q .normal)
  | .cond c a b, st, Q => WCond (ev st.T c) (W a st Q) (W b st Q)
  | .block id b, st, Q => W b st fun e st' => match e with | .exit i => if i = id then Q .normal st' else Q (.exit i) st' | e => Q e st'
  | .loop b, st, Q => WLoop P (W b) st Q
  | .exit id, st, Q => Q (.exit id) st
  | .ret, st, Q => Q .ret st
  | _, _, _ => False
end
end Go.Am
set_option linter.unusedVariables false
namespace Go.Am

theorem hf_append (a b : Heap) (r : Id) : hf (a ++ b) r = match hf a r with | some e => some e | none => hf b r := by
  induction a with
  | nil => rfl
  | cons x a ih =>
    obtain ⟨k, e⟩ := x
    simp only [List.cons_append, hf]
    split
    · rfl
    · exact ih
theorem hf_mem {H : Heap} {r e} (h : hf H r = some e) : (r, e) ∈ H := by
  induction H with
  | nil => cases h
  | cons x H ih =>
    obtain ⟨k, e'⟩ := x
    simp only [hf] at h
    split at h
    · rename_i hk; subst hk; cases h; exact List.mem_cons_self
    · exact List.mem_cons_of_mem _ (ih h)
theorem hf_ne_none_of_mem {H : Heap} {r e} (h : (r, e) ∈ H) : hf H r ≠ none := by
  induction H with
  | nil => cases h
  | cons x H ih =>
    obtain ⟨k, e'⟩ := x
    simp only [hf]
    split
    · simp
    · rename_i hk
      rcases List.mem_cons.1 h with h | h
      · cases h; exact absurd rfl hk
      · exact ih h
theorem freshBut_spec {q : Option Id} {H : Heap} {r : Id} (h : freshBut q H r) : ∀ k, hf H k ≠ none → some k = q ∨ k ≠ r := by
  induction H with
  | nil => intro k hk; exact absurd rfl hk
  | cons x H ih =>
    obtain ⟨k', e⟩ := x
    intro k hk
    simp only [hf] at hk
    by_cases e1 : k' = k
    · subst e1; exact h.1.imp id And.left
    · rw [if_neg e1] at hk; exact ih h.2 k hk
theorem freshBut_of {q : Option Id} {H : Heap} {r : Id} (h : ∀ k, hf H k ≠ none → some k = q ∨ k ≠ r) : freshBut q H r := by
  induction H with
  | nil => trivial
  | cons x H ih =>
    obtain ⟨k', e⟩ := x
    refine ⟨(h k' (by simp [hf])).imp id fun a => ⟨a, a.symm⟩, ih fun k hk => h k ?_⟩
    simp only [hf]
    split
    · simp
    · exact hk
theorem freshBut_none {H : Heap} {r : Id} (q) (h : hf H r = none) : freshBut q H r :=
  freshBut_of fun k hk => .inr fun e => hk (by rw [e]; exact h)
theorem hf_of_fresh {H : Heap} {r : Id} (h : freshBut none H r) : hf H r = none := by
  cases e : hf H r with
  | none => rfl
  | some x => have := freshBut_spec h r (by simp [e]); simp at this
theorem notIn_spec {l : List Id} {r : Id} : notIn l r ↔ r ∉ l := by
  induction l with
  | nil => simp [notIn]
  | cons a l ih =>
    simp only [notIn, ih, List.mem_cons, not_or]
    exact ⟨fun h => ⟨h.1.2, h.2⟩, fun h => ⟨⟨fun e => h.1 e.symm, h.1⟩, h.2⟩⟩
theorem pickIds_ids {N w H} {ch used ids} (hp : Picks N w H ch used ids) : ∀ {K : List Id → Prop}, pickIds H ch used K → K ids := by
  induction hp with
  | nil => exact fun h => h
  | cons h1 h2 _ _ ih => exact fun h => ih (h _ h1 h2)

/-! ### Rep and lengths -/
mutual
theorem Rep.length {R w} : ∀ (v : AV) (cs : List Value), Rep R w v cs → cs.length = ncells v
  | .any, _, h => by simp only [Rep] at h; obtain ⟨u, rfl, _⟩ := h; simp [ncells]
  | .int _ _, _, h => by simp only [Rep] at h; subst h; simp [ncells]
  | .bool _, _, h => by simp only [Rep] at h; subst h; simp [ncells]
  | .str _, _, h => by simp only [Rep] at h; subst h; simp [ncells]
  | .agg vs, cs, h => by simp only [Rep] at h; simp only [ncells]; exact RepL.length vs cs h
  | .ptr r _, _, h => by simp only [Rep] at h; cases r <;> simp at h; subst h; simp [ncells]
  | .nilp, _, h => by simp only [Rep] at h; subst h; simp [ncells]
  | .cref _, _, h => by simp only [Rep] at h; obtain ⟨_, _, _, rfl, _⟩ := h; simp [ncells]
  | .list _, _, h => by simp only [Rep] at h; obtain ⟨_, _, rfl, _⟩ := h; simp [ncells]
  | .nils, _, h => by simp only [Rep] at h; subst h; simp [ncells]
  | .own r _ _ _ _ _, _, h => by
    simp only [Rep] at h
    cases r <;> simp only [] at h
    · obtain ⟨_, _, rfl, _⟩ := h; simp [ncells]
    · obtain ⟨_, rfl, _⟩ := h; simp [ncells]
  | .map r, _, h => by simp only [Rep] at h; cases r <;> simp at h; subst h; simp [ncells]
  | .nilm, _, h => by simp only [Rep] at h; subst h; simp [ncells]
  | .func _ _ _, _, h => by simp only [Rep] at h; obtain ⟨_, _, rfl, _⟩ := h; simp [ncells]
  | .nilf, _, h => by simp only [Rep] at h; subst h; simp [ncells]
  | .iface _ _, _, h => by simp only [Rep] at h; obtain ⟨_, rfl, _⟩ := h; simp [ncells]
  | .nili, _, h => by simp only [Rep] at h; subst h; simp [ncells]
  | .tup _, _, h => by simp only [Rep] at h
theorem RepL.length {R w} : ∀ (vs : List AV) (cs : List Value), RepL R w vs cs → cs.length = ncellsL vs
  | [], _, h => by simp only [RepL] at h; subst h; simp [ncellsL]
  | v :: vs, _, h => by
    simp only [RepL] at h
    obtain ⟨c1, c2, rfl, h1, h2⟩ := h
    simp only [List.length_append, ncellsL, Rep.length v c1 h1, RepL.length vs c2 h2]
end
mutual
theorem Rep.one {R w} : ∀ (v : AV) (cs : List Value), Rep R w v cs → ∀ c ∈ cs, c.oneCell' = true
  | .any, _, h => by simp only [Rep] at h; obtain ⟨u, rfl, hu⟩ := h; simpa using hu
  | .int _ _, _, h => by simp only [Rep] at h; subst h; simp [Value.oneCell']
  | .bool _, _, h => by simp only [Rep] at h; subst h; simp [Value.oneCell']
  | .str _, _, h => by simp only [Rep] at h; subst h; simp [Value.oneCell']
  | .agg vs, cs, h => by simp only [Rep] at h; exact RepL.one vs cs h
  | .ptr r _, _, h => by simp only [Rep] at h; cases r <;> simp at h; subst h; simp [Value.oneCell']
  | .nilp, _, h => by simp only [Rep] at h; subst h; simp [Value.oneCell']
  | .cref _, _, h => by simp only [Rep] at h; obtain ⟨_, _, _, rfl, _⟩ := h; simp [Value.oneCell']
  | .list _, _, h => by simp only [Rep] at h; obtain ⟨_, _, rfl, _⟩ := h; simp [Value.oneCell']
  | .nils, _, h => by simp only [Rep] at h; subst h; simp [Value.oneCell']
  | .own r _ _ _ _ _, _, h => by
    simp only [Rep] at h
    cases r <;> simp only [] at h
    · obtain ⟨_, _, rfl, _⟩ := h; simp [Value.oneCell']
    · obtain ⟨_, rfl, _⟩ := h; simp [Value.oneCell']
  | .map r, _, h => by simp only [Rep] at h; cases r <;> simp at h; subst h; simp [Value.oneCell']
  | .nilm, _, h => by simp only [Rep] at h; subst h; simp [Value.oneCell']
  | .func _ _ _, _, h => by simp only [Rep] at h; obtain ⟨_, _, rfl, _⟩ := h; simp [Value.oneCell']
  | .nilf, _, h => by simp only [Rep] at h; subst h; simp [Value.oneCell']
  | .iface _ _, _, h => by simp only [Rep] at h; obtain ⟨_, rfl, _⟩ := h; simp [Value.oneCell']
  | .nili, _, h => by simp only [Rep] at h; subst h; simp [Value.oneCell']
  | .tup _, _, h => by simp only [Rep] at h
theorem RepL.one {R w} : ∀ (vs : List AV) (cs : List Value), RepL R w vs cs → ∀ c ∈ cs, c.oneCell' = true
  | [], _, h => by simp only [RepL] at h; subst h; simp
  | v :: vs, _, h => by
    simp only [RepL] at h
    obtain ⟨c1, c2, rfl, h1, h2⟩ := h
    intro c hc
    rcases List.mem_append.1 hc with hc | hc
    · exact Rep.one v c1 h1 c hc
    · exact RepL.one vs c2 h2 c hc
end
/-- what stands at place i of a struct or an array -/
theorem RepL.at_ {R w} : ∀ {vs : List AV} {cs : List Value} {i : Nat} {v : AV}, RepL R w vs cs → vs[i]? = some v →
    Rep R w v ((cs.drop (ncellsL (vs.take i))).take (ncells v)) ∧ ncellsL (vs.take i) + ncells v ≤ cs.length
  | [], _, _, _, _, h => by simp at h
  | x :: vs, _, 0, v, hr, h => by
    simp only [RepL] at hr
    obtain ⟨c1, c2, rfl, h1, h2⟩ := hr
    simp only [List.getElem?_cons_zero, Option.some.injEq] at h
    subst h
    have := Rep.length _ _ h1
    simp only [List.take_zero, ncellsL, List.drop_zero]
    rw [← this, List.take_left]
    exact ⟨h1, by simp⟩
  | x :: vs, _, i + 1, v, hr, h => by
    simp only [RepL] at hr
    obtain ⟨c1, c2, rfl, h1, h2⟩ := hr
    simp only [List.getElem?_cons_succ] at h
    obtain ⟨k1, k2⟩ := RepL.at_ h2 h
    have := Rep.length _ _ h1
    simp only [List.take_succ_cons, ncellsL, ← this, List.length_append]
    rw [List.drop_append]
    simp only [Nat.add_sub_cancel_left, List.drop_of_length_le (Nat.le_add_right c1.length _), List.nil_append]
    exact ⟨k1, by omega⟩
theorem RepL.set {R w} : ∀ {vs : List AV} {cs : List Value} {i : Nat} {v u : AV} {us : List Value}, RepL R w vs cs → vs[i]? = some v → Rep R w u us → us.length = ncells v →
    RepL R w (vs.set i u) (cs.take (ncellsL (vs.take i)) ++ us ++ cs.drop (ncellsL (vs.take i) + us.length))
  | [], _, _, _, _, _, _, h, _, _ => by simp at h
  | x :: vs, _, 0, v, u, us, hr, h, hu, hl => by
    simp only [RepL] at hr
    obtain ⟨c1, c2, rfl, h1, h2⟩ := hr
    simp only [List.getElem?_cons_zero, Option.some.injEq] at h
    subst h
    have := Rep.length _ _ h1
    simp only [List.take_zero, ncellsL, List.take_zero, List.nil_append, List.set_cons_zero, Nat.zero_add, RepL]
    refine ⟨us, c2, ?_, hu, h2⟩
    rw [hl, ← this, List.drop_left]
  | x :: vs, _, i + 1, v, u, us, hr, h, hu, hl => by
    simp only [RepL] at hr
    obtain ⟨c1, c2, rfl, h1, h2⟩ := hr
    simp only [List.getElem?_cons_succ] at h
    have k := RepL.set h2 h hu hl
    have := Rep.length _ _ h1
    simp only [List.take_succ_cons, ncellsL, ← this, List.set_cons_succ, RepL]
    refine ⟨c1, _, ?_, h1, k⟩
    rw [Nat.add_assoc, List.take_append, List.drop_append]
    simp only [Nat.add_sub_cancel_left, List.take_of_length_le (Nat.le_add_right c1.length _), List.drop_of_length_le (Nat.le_add_right c1.length _), List.nil_append, List.append_assoc]
theorem RepE.len {R w sz} : ∀ {vs : List AV} {cs : List Value}, RepE R w sz vs cs → cs.length = vs.length * sz
  | [], _, h => by simp only [RepE] at h; subst h; simp
  | v :: vs, _, h => by
    simp only [RepE] at h
    obtain ⟨c1, c2, rfl, h0, h1, h2⟩ := h
    simp only [List.length_append, h0, RepE.len h2, List.length_cons, Nat.add_mul]
    omega
theorem RepE.allSz {R w sz} : ∀ {vs : List AV} {cs : List Value}, RepE R w sz vs cs → Am.allSz sz vs = true
  | [], _, _ => rfl
  | v :: vs, _, h => by
    simp only [RepE] at h
    obtain ⟨c1, c2, rfl, h0, h1, h2⟩ := h
    simp only [Am.allSz, ← Rep.length _ _ h1, h0, RepE.allSz h2, beq_self_eq_true, Bool.and_self]
theorem RepE.toL {R w sz} : ∀ {vs : List AV} {cs : List Value}, RepE R w sz vs cs → RepL R w vs cs
  | [], _, h => by simpa [RepE, RepL] using h
  | v :: vs, _, h => by
    simp only [RepE] at h
    obtain ⟨c1, c2, rfl, h0, h1, h2⟩ := h
    simp only [RepL]
    exact ⟨c1, c2, rfl, h1, RepE.toL h2⟩
theorem RepE.ofL {R w sz} : ∀ {vs : List AV} {cs : List Value}, RepL R w vs cs → Am.allSz sz vs = true → RepE R w sz vs cs
  | [], _, h, _ => by simpa [RepE, RepL] using h
  | v :: vs, _, h, ha => by
    simp only [RepL] at h
    obtain ⟨c1, c2, rfl, h1, h2⟩ := h
    simp only [Am.allSz, Bool.and_eq_true, beq_iff_eq] at ha
    simp only [RepE]
    exact ⟨c1, c2, rfl, by rw [Rep.length _ _ h1]; exact ha.1, h1, RepE.ofL h2 ha.2⟩
theorem ncellsL_allSz {sz} : ∀ {vs : List AV}, allSz sz vs = true → ncellsL vs = vs.length * sz
  | [], _ => by simp [ncellsL]
  | v :: vs, h => by
    simp only [allSz, Bool.and_eq_true, beq_iff_eq] at h
    simp only [ncellsL, h.1, ncellsL_allSz h.2, List.length_cons, Nat.add_mul]
    omega
theorem allSz_take {sz} : ∀ {vs : List AV} (n : Nat), allSz sz vs = true → allSz sz (vs.take n) = true
  | [], _, _ => by simp [allSz]
  | v :: vs, 0, _ => by simp [allSz]
  | v :: vs, n + 1, h => by
    simp only [allSz, Bool.and_eq_true, List.take_succ_cons] at h ⊢
    exact ⟨h.1, allSz_take n h.2⟩
theorem allSz_drop {sz} : ∀ {vs : List AV} (n : Nat), allSz sz vs = true → allSz sz (vs.drop n) = true
  | [], _, _ => by simp [allSz]
  | v :: vs, 0, h => by simpa using h
  | v :: vs, n + 1, h => by
    simp only [allSz, Bool.and_eq_true] at h
    exact allSz_drop n h.2
theorem allSz_append {sz} : ∀ {vs us : List AV}, allSz sz vs = true → allSz sz us = true → allSz sz (vs ++ us) = true
  | [], _, _, h => h
  | v :: vs, _, h, k => by
    simp only [allSz, Bool.and_eq_true, List.cons_append] at h ⊢
    exact ⟨h.1, allSz_append h.2 k⟩
theorem RepE.append {R w sz} : ∀ {vs us : List AV} {cs ds : List Value}, RepE R w sz vs cs → RepE R w sz us ds → RepE R w sz (vs ++ us) (cs ++ ds)
  | [], _, _, _, h, k => by simp only [RepE] at h; subst h; simpa using k
  | v :: vs, _, _, _, h, k => by
    simp only [RepE] at h
    obtain ⟨c1, c2, rfl, h0, h1, h2⟩ := h
    simp only [List.cons_append, RepE, List.append_assoc]
    exact ⟨c1, _, rfl, h0, h1, RepE.append h2 k⟩
theorem RepE.take {R w sz} : ∀ {vs : List AV} {cs : List Value} (n : Nat), RepE R w sz vs cs → RepE R w sz (vs.take n) (cs.take (n * sz))
  | [], _, n, h => by simp only [RepE] at h; subst h; simp [RepE]
  | v :: vs, _, 0, h => by simp [RepE]
  | v :: vs, _, n + 1, h => by
    simp only [RepE] at h
    obtain ⟨c1, c2, rfl, h0, h1, h2⟩ := h
    simp only [List.take_succ_cons, RepE]
    refine ⟨c1, c2.take (n * sz), ?_, h0, h1, RepE.take n h2⟩
    rw [Nat.succ_mul, Nat.add_comm, ← h0, List.take_append]
    simp [List.take_of_length_le]
theorem RepE.drop {R w sz} : ∀ {vs : List AV} {cs : List Value} (n : Nat), RepE R w sz vs cs → RepE R w sz (vs.drop n) (cs.drop (n * sz))
  | [], _, n, h => by simp only [RepE] at h; subst h; simp [RepE]
  | v :: vs, _, 0, h => by simpa using h
  | v :: vs, _, n + 1, h => by
    simp only [RepE] at h
    obtain ⟨c1, c2, rfl, h0, h1, h2⟩ := h
    simp only [List.drop_succ_cons]
    have e : (n + 1) * sz = c1.length + n * sz := by rw [Nat.succ_mul, h0]; omega
    rw [e, List.drop_append, List.drop_of_length_le (Nat.le_add_right _ _), List.nil_append, Nat.add_sub_cancel_left]
    exact RepE.drop n h2
theorem RepE.set {R w sz} {vs : List AV} {cs : List Value} {i : Nat} {u : AV} {us : List Value} (h : RepE R w sz vs cs) (hi : i < vs.length) (hu : Rep R w u us) (hl : us.length = sz) :
    RepE R w sz (vs.set i u) (cs.take (i * sz) ++ us ++ cs.drop (i * sz + sz)) := by
  have e : vs.set i u = vs.take i ++ [u] ++ vs.drop (i + 1) := by
    rw [List.set_eq_take_append_cons_drop, if_pos hi]; simp
  rw [e]
  refine RepE.append (RepE.append (RepE.take i h) ?_) ?_
  · simp only [RepE]; exact ⟨us, [], by simp, hl, hu, rfl⟩
  · have := RepE.drop (i + 1) h
    rwa [Nat.succ_mul] at this
theorem RepE.at_ {R w sz} {vs : List AV} {cs : List Value} {i : Nat} {v : AV} (h : RepE R w sz vs cs) (hi : vs[i]? = some v) :
    Rep R w v ((cs.drop (i * sz)).take sz) ∧ i * sz + sz ≤ cs.length ∧ ncells v = sz := by
  obtain ⟨k1, k2⟩ := RepL.at_ h.toL hi
  have hlt : i < vs.length := (List.getElem?_eq_some_iff.1 hi).1
  have e1 : ncellsL (vs.take i) = i * sz := by
    rw [ncellsL_allSz (allSz_take i h.allSz), List.length_take, Nat.min_eq_left (by omega)]
  have e2 : ncells v = sz := by
    have := allSz_drop i h.allSz
    rw [List.drop_eq_getElem_cons hlt] at this
    have e3 : vs[i] = v := (List.getElem?_eq_some_iff.1 hi).2
    rw [e3] at this
    simp only [Am.allSz, Bool.and_eq_true, beq_iff_eq] at this
    exact this.1
  rw [e1, e2] at k1 k2
  exact ⟨k1, k2, e2⟩
end Go.Am
set_option linter.unusedVariables false
namespace Go.Am

theorem EntOK.keeps {P R w R' w' r en} (h : EntOK P R w r en) (hk : Keeps R w R' w') (hs : w.heap.size ≤ w'.heap.size) (hb : ∀ b, r = .blk b → w'.heap[b]? = w.heap[b]?) : EntOK P R' w' r en := by
  cases r with
  | virt n => exact h
  | blk b =>
    have hb := hb b rfl
    cases en with
    | box v => obtain ⟨cs, e, fr, h1, h2, h3⟩ := h; exact ⟨cs, e, fr, by rw [hb]; exact h1, h2, Rep.keeps hk _ _ h3⟩
    | cbox v => obtain ⟨cs, e, fr, h1, h2, h3⟩ := h; exact ⟨cs, e, fr, by rw [hb]; exact h1, Rep.keeps hk _ _ h2, h3.keeps hk⟩
    | row e sz xs fz =>
      obtain ⟨cs, fr, h1, h2, h3, h4, h5, h6, h9, cells, rest, h7, h8⟩ := h
      exact ⟨cs, fr, by rw [hb]; exact h1, h2, h3, h4, h5, h6, fun o ho => hk.sub _ _ (h9 o ho), cells, rest, RepE.keeps hk _ _ _ h7, h8⟩
    | map kt et l =>
      obtain ⟨es, cl, h1, h2, h3, h4⟩ := h
      refine ⟨es, cl, by rw [hb]; exact h1, ?_, h3, h4⟩
      clear h1 h3 h4
      generalize es.toList = es at *
      induction l generalizing es with
      | nil => exact h2
      | cons kv l ih =>
        obtain ⟨e, es', rfl, k1, k2, k3⟩ := h2
        exact ⟨e, es', rfl, k1.keeps hk, k2.keeps hk, ih es' k3⟩
    | dead => exact Nat.lt_of_lt_of_le h hs
theorem EntOK.lt {P R w b en} (h : EntOK P R w (.blk b) en) : b < w.heap.size := by
  have key : ∀ x : Obj, w.heap[b]? = some x → b < w.heap.size := fun x hx => (Array.getElem?_eq_some_iff.1 hx).1
  cases en with
  | box v => obtain ⟨_, _, _, h1, _⟩ := h; exact key _ h1
  | cbox v => obtain ⟨_, _, _, h1, _⟩ := h; exact key _ h1
  | row e sz xs fz => obtain ⟨_, _, h1, _⟩ := h; exact key _ h1
  | map kt et l => obtain ⟨_, _, h1, _⟩ := h; exact key _ h1
  | dead => exact h
theorem WfH.none_of_ge {P R H w b} (h : WfH P R H w) (hb : w.heap.size ≤ b) : hf H (.blk b) = none := by
  cases e : hf H (.blk b) with
  | none => rfl
  | some x => have := (h.ents _ _ e).lt; omega

theorem StepOK.refl {P N R H w} (h : WfH P R H w) (hv : VBound N H) : StepOK P N R H w R H w :=
  ⟨.refl _ _, fun _ _ h => .inl h, fun _ _ h => .inl h, h, fun _ _ h => ⟨rfl, h⟩, Nat.le_refl _, ⟨rfl, rfl, rfl⟩, fun _ h => .inl h, hv⟩
theorem StepOK.trans {P N R H w R' H' w' R'' H'' w''} (h : StepOK P N R H w R' H' w') (k : StepOK P N R' H' w' R'' H'' w'') : StepOK P N R H w R'' H'' w'' where
  keeps := h.keeps.trans k.keeps
  grow b o hr := by
    rcases k.grow b o hr with x | x | x
    · exact h.grow b o x
    · exact .inr (.inl (Nat.le_trans h.size x))
    · exact (h.wr b o x).elim (fun x => .inr (.inr x)) fun x => .inr (.inl x)
  wr b o hw := by
    rcases k.wr b o hw with x | x
    · exact h.wr b o x
    · exact .inr (Nat.le_trans h.size x)
  wf := k.wf
  others b hb hn := by
    obtain ⟨h1, h2⟩ := h.others b hb hn
    obtain ⟨k1, k2⟩ := k.others b (Nat.lt_of_lt_of_le hb h.size) h2
    exact ⟨k1.trans h1, k2⟩
  size := Nat.le_trans h.size k.size
  env := ⟨k.env.1.trans h.env.1, k.env.2.1.trans h.env.2.1, k.env.2.2.trans h.env.2.2⟩
  news r hr := by
    rcases k.news r hr with x | x
    · exact h.news r x
    · refine .inr ?_
      cases r with
      | blk b => exact Nat.le_trans h.size x
      | virt n => exact x
  virt := k.virt

theorem Wr_cons_ne {H : Heap} {r en b o} (h : r ≠ .blk b) : Wr ((r, en) :: H) b o ↔ Wr H b o := by
  simp [Wr, hf, h]

theorem StepOK.entry {P N R H w} (hwf : WfH P R H w) (hv : VBound N H) (r : Id) (en : Ent) {R' : CSet} {w' : World}
    (hk : Keeps R w R' w') (hgrow : ∀ b o, R' b o → R b o ∨ w.heap.size ≤ b ∨ Wr H b o)
    (hblk : ∀ b, r ≠ .blk b → b < w.heap.size → w'.heap[b]? = w.heap[b]?) (hsize : w.heap.size ≤ w'.heap.size)
    (henv : w'.os = w.os ∧ w'.tape = w.tape ∧ w'.output = w.output) (hen : EntOK P R' w' r en)
    (hwr : ∀ b o, r = .blk b → Wr ((r, en) :: H) b o → Wr H b o ∨ w.heap.size ≤ b)
    (hdis : ∀ b o, r = .blk b → R' b o → ¬ Wr ((r, en) :: H) b o) (hdis2 : ∀ b o, r ≠ .blk b → R' b o → R b o)
    (hlt : ∀ b o, R' b o → b < w'.heap.size) (hnew : hf H r ≠ none ∨ NewId N w r) (hold : ∀ b, r = .blk b → hf H r = none → w.heap.size ≤ b) :
    StepOK P N R H w R' ((r, en) :: H) w' where
  keeps := hk
  grow := hgrow
  wr b o hw := by
    by_cases e : r = .blk b
    · exact hwr b o e hw
    · exact .inl ((Wr_cons_ne e).1 hw)
  wf := by
    refine ⟨hlt, fun b o hr => ?_, fun r' e' hr => ?_⟩
    · by_cases e : r = .blk b
      · exact hdis b o e hr
      · rw [Wr_cons_ne e]; exact hwf.dis b o (hdis2 b o e hr)
    · simp only [hf] at hr
      split at hr
      · rename_i e; subst e; cases hr; exact hen
      · rename_i e
        refine (hwf.ents r' e' hr).keeps hk hsize fun b hb => hblk b (fun e1 => e (e1.trans hb.symm)) ?_
        subst hb
        exact (hwf.ents _ _ hr).lt
  others b hb hn := by
    have e : r ≠ .blk b := fun e => by
      have := hold b e (by rw [e]; exact hn); omega
    exact ⟨hblk b e hb, by simp only [hf, if_neg e]; exact hn⟩
  size := hsize
  env := henv
  news r' hr := by
    simp only [hf] at hr
    split at hr
    · rename_i e; subst e; exact hnew
    · exact .inl hr
  virt := by
    obtain ⟨M, hM, hb⟩ := hv
    cases r with
    | blk b => exact ⟨M, hM, fun n hn => hb n (by simpa [hf] using hn)⟩
    | virt m =>
      refine ⟨max M (m + 1), by omega, fun n hn => ?_⟩
      simp only [hf] at hn
      split at hn
      · rename_i e; cases e; omega
      · have := hb n hn; omega

theorem Keeps.of_heap {R w R' w'} (hR : ∀ b o, R b o → R' b o) (h : ∀ b, b < w.heap.size → w'.heap[b]? = w.heap[b]?) : Keeps R w R' w' := by
  refine ⟨hR, fun b o v hr hc => ?_, fun b s hs => ?_⟩
  · have hb := World.block_lt_of_cell? w _ hc
    simpa [World.cell?, h b hb] using hc
  · by_cases hb : b < w.heap.size
    · simpa [World.shape?, h b hb] using hs
    · simp [World.shape?, Array.getElem?_eq_none (Nat.le_of_not_lt hb)] at hs

/-- the memory has the same blocks -/
theorem StepOK.same {P N R H w w'} (hwf : WfH P R H w) (hv : VBound N H) (hh : w'.heap = w.heap) (henv : w'.os = w.os ∧ w'.tape = w.tape ∧ w'.output = w.output) : StepOK P N R H w R H w' := by
  have hk : Keeps R w R w' := .of_heap (fun _ _ h => h) fun b _ => by rw [hh]
  refine ⟨hk, fun _ _ h => .inl h, fun _ _ h => .inl h, ⟨fun b o hr => by rw [hh]; exact hwf.lt b o hr, hwf.dis, fun r e hr => (hwf.ents r e hr).keeps hk (by rw [hh]; exact Nat.le_refl _) fun b _ => by rw [hh]⟩, fun b hb hn => ⟨by rw [hh], hn⟩, by rw [hh]; exact Nat.le_refl _, henv, fun r hr => .inl hr, hv⟩

/-- a new block, that the heap tells -/
theorem StepOK.alloc {P N R H w w'} (hwf : WfH P R H w) (hv : VBound N H) (o : Obj) (hh : w'.heap = w.heap.push o) (henv : w'.os = w.os ∧ w'.tape = w.tape ∧ w'.output = w.output) (en : Ent)
    (hen : Keeps R w R w' → EntOK P R w' (.blk w.heap.size) en) : StepOK P N R H w R ((.blk w.heap.size, en) :: H) w' := by
  have hold : ∀ b, b < w.heap.size → w'.heap[b]? = w.heap[b]? := fun b hb => by rw [hh, Array.getElem?_push, if_neg (by omega)]
  have hk : Keeps R w R w' := .of_heap (fun _ _ h => h) hold
  refine .entry hwf hv _ en hk (fun b o h => .inl h) (fun b _ hb => hold b hb) (by rw [hh]; simp) henv (hen hk) (fun b o e _ => .inr (by cases e; omega)) ?_ (fun b o _ h => h)
    (fun b o h => by have := hwf.lt b o h; rw [hh]; simp; omega) (.inr (Nat.le_refl _)) (fun b e _ => by cases e; exact Nat.le_refl _)
  intro b q e hr hw
  cases e
  exact Nat.lt_irrefl _ (hwf.lt _ _ hr)
/-- a new block that the heap does not tell -/
theorem StepOK.junk {P N R H w w'} (hwf : WfH P R H w) (hv : VBound N H) (o : Obj) (hh : w'.heap = w.heap.push o) (henv : w'.os = w.os ∧ w'.tape = w.tape ∧ w'.output = w.output) : StepOK P N R H w R H w' := by
  have hold : ∀ b, b < w.heap.size → w'.heap[b]? = w.heap[b]? := fun b hb => by rw [hh, Array.getElem?_push, if_neg (by omega)]
  have hk : Keeps R w R w' := .of_heap (fun _ _ h => h) hold
  have hs : w.heap.size ≤ w'.heap.size := by rw [hh]; simp
  refine ⟨hk, fun _ _ h => .inl h, fun _ _ h => .inl h, ⟨fun b o hr => Nat.lt_of_lt_of_le (hwf.lt b o hr) hs, hwf.dis, fun r e hr => (hwf.ents r e hr).keeps hk hs fun b hb => hold b (by subst hb; exact (hwf.ents _ _ hr).lt)⟩, fun b hb hn => ⟨hold b hb, hn⟩, hs, henv, fun r hr => .inl hr, hv⟩
/-- a row without a block -/
theorem StepOK.virt' {P N R H w} (hwf : WfH P R H w) (hv : VBound N H) (n e sz : Nat) (hn : N ≤ n) (hz : 0 < sz) (he : P.cellsOf e = sz) : StepOK P N R H w R ((.virt n, .row e sz [] 0) :: H) w :=
  .entry hwf hv _ _ (.refl _ _) (fun _ _ h => .inl h) (fun _ _ _ => rfl) (Nat.le_refl _) ⟨rfl, rfl, rfl⟩ ⟨rfl, rfl, hz, he⟩ (fun b o e => by cases e) (fun b o e => by cases e) (fun _ _ _ h => h) hwf.lt (.inr hn) (fun b e => by cases e)
/-- an entry is given up -/
theorem StepOK.die {P N R H w} (hwf : WfH P R H w) (hv : VBound N H) (r : Id) (hr : hf H r ≠ none) : StepOK P N R H w R ((r, .dead) :: H) w := by
  refine .entry hwf hv _ _ (.refl _ _) (fun _ _ h => .inl h) (fun _ _ _ => rfl) (Nat.le_refl _) ⟨rfl, rfl, rfl⟩ ?_ ?_ ?_ (fun _ _ _ h => h) hwf.lt (.inl hr) ?_
  · cases r with
    | virt n => exact trivial
    | blk b =>
      cases e : hf H (.blk b) with
      | none => exact absurd e hr
      | some x => exact (hwf.ents _ _ e).lt
  · intro b o e hw; subst e; simp [Wr, hf] at hw
  · intro b o e _ hw; subst e; simp [Wr, hf] at hw
  · intro b e h; subst e; exact absurd h hr

/-- the block's cells with some of them replaced -/
def spl (cs : Array Value) (o : Nat) (vs : List Value) : Array Value := (cs.toList.take o ++ vs ++ cs.toList.drop (o + vs.length)).toArray
theorem spl_size {cs : Array Value} {o : Nat} {vs : List Value} (h : o + vs.length ≤ cs.size) : (spl cs o vs).size = cs.size := by
  simp [spl]; omega
theorem spl_get {cs : Array Value} {o : Nat} {vs : List Value} (h : o + vs.length ≤ cs.size) (i : Nat) : (spl cs o vs)[i]? = if o ≤ i ∧ i < o + vs.length then vs[i - o]? else cs[i]? := by
  simp only [spl, List.getElem?_toArray, List.append_assoc, List.getElem?_append, List.length_take, Array.length_toList, List.getElem?_drop, List.getElem?_take, Array.getElem?_toList]
  rw [Nat.min_eq_left (by omega)]
  by_cases h1 : i < o
  · rw [if_pos h1, if_pos h1, if_neg (by omega)]
  · rw [if_neg h1]
    by_cases h2 : i - o < vs.length
    · rw [if_pos h2, if_pos (by omega)]
    · rw [if_neg h2, if_neg (by omega)]
      congr 1
      omega
def upW (w : World) (b : Nat) (o : Obj) : World := { w with heap := w.heap.setIfInBounds b o }
/-- some cells of one of the heap's own blocks are written -/
theorem StepOK.put {P N R H w} (hwf : WfH P R H w) (hv : VBound N H) {b o : Nat} {en0 en1 : Ent} {cs : Array Value} {e : TypeId} {fr : Nat × Nat} {vs : List Value}
    (h0 : hf H (.blk b) = some en0) (hb : w.heap[b]? = some (.cells cs e fr)) (hlen : o + vs.length ≤ cs.size) (hw : ∀ i, o ≤ i → i < o + vs.length → Wr H b i)
    (hwr : ∀ i, Wr ((.blk b, en1) :: H) b i → Wr H b i)
    (hen : Keeps R w R (upW w b (.cells (spl cs o vs) e fr)) → EntOK P R (upW w b (.cells (spl cs o vs) e fr)) (.blk b) en1) :
    StepOK P N R H w R ((.blk b, en1) :: H) (upW w b (.cells (spl cs o vs) e fr)) := by
  have hlt : b < w.heap.size := (Array.getElem?_eq_some_iff.1 hb).1
  have hother : ∀ k, k ≠ b → (upW w b (.cells (spl cs o vs) e fr)).heap[k]? = w.heap[k]? := fun k hk => by
    simp only [upW]; rw [Array.getElem?_setIfInBounds, if_neg (fun e => hk e.symm)]
  have hthis : (upW w b (.cells (spl cs o vs) e fr)).heap[b]? = some (.cells (spl cs o vs) e fr) := by
    simp only [upW]; rw [Array.getElem?_setIfInBounds, if_pos rfl, if_pos hlt]
  have hk : Keeps R w R (upW w b (.cells (spl cs o vs) e fr)) := by
    refine ⟨fun _ _ h => h, fun k i v hr hc => ?_, fun k s hs => ?_⟩
    · by_cases e1 : k = b
      · subst e1
        have hn := hwf.dis _ _ hr
        simp only [World.cell?, hthis]
        simp only [World.cell?, hb] at hc
        simp only [Option.isSome_none, Bool.false_eq_true, if_false] at hc ⊢
        rw [spl_get hlen, if_neg fun h => hn (hw i h.1 h.2)]
        exact hc
      · simpa [World.cell?, hother k e1] using hc
    · by_cases e1 : k = b
      · subst e1
        simp only [World.shape?, hthis, spl_size hlen]
        simpa [World.shape?, hb] using hs
      · simpa [World.shape?, hother k e1] using hs
  refine .entry hwf hv _ en1 hk (fun _ _ h => .inl h) (fun k hk _ => hother k fun e => hk (by rw [e])) (by simp [upW]) ⟨rfl, rfl, rfl⟩ (hen hk) ?_ ?_ (fun _ _ _ h => h)
    (fun k i h => by simpa [upW] using hwf.lt k i h) (.inl (by simp [h0])) ?_
  · intro k i e1 h; cases e1; exact .inl (hwr i h)
  · intro k i e1 hr h; cases e1; exact hwf.dis _ _ hr (hwr i h)
  · intro k e1 hn; cases e1; simp [h0] at hn
/-- more of a row becomes constant -/
theorem StepOK.freeze {P N R H w} (hwf : WfH P R H w) (hv : VBound N H) {r : Id} {e sz : Nat} {xs : List AV} {fz : Nat} (fz' : Nat) (h0 : hf H r = some (.row e sz xs fz)) (h1 : fz ≤ fz') (h2 : fz' ≤ xs.length) :
    StepOK P N R H w (fun b o => R b o ∨ (r = .blk b ∧ fz * sz ≤ o ∧ o < fz' * sz)) ((r, .row e sz xs fz') :: H) w := by
  have hm : fz * sz ≤ fz' * sz := Nat.mul_le_mul_right _ h1
  refine .entry hwf hv _ _ ⟨fun _ _ h => .inl h, fun _ _ _ _ h => h, fun _ _ h => h⟩ ?_ (fun _ _ _ => rfl) (Nat.le_refl _) ⟨rfl, rfl, rfl⟩ ?_ ?_ ?_ ?_ ?_ (.inl (by simp [h0])) ?_
  · rintro b o (h | ⟨rfl, h3, h4⟩)
    · exact .inl h
    · exact .inr (.inr (by simp only [Wr, h0]; exact h3))
  · have hk : Keeps R w (fun b o => R b o ∨ (r = .blk b ∧ fz * sz ≤ o ∧ o < fz' * sz)) w := ⟨fun _ _ h => .inl h, fun _ _ _ _ h => h, fun _ _ h => h⟩
    have := (hwf.ents _ _ h0).keeps hk (Nat.le_refl _) fun _ _ => rfl
    cases r with
    | blk b =>
      obtain ⟨cs, fr, k1, k2, k3, k4, k5, k6, k7, k8⟩ := this
      refine ⟨cs, fr, k1, k2, k3, k4, h2, k6, fun o ho => ?_, k8⟩
      by_cases h : o < fz * sz
      · exact k7 o h
      · exact .inr ⟨rfl, by omega, ho⟩
    | virt n =>
      obtain ⟨k1, k2, k3⟩ := this
      subst k1
      exact ⟨rfl, by simpa using h2, k3⟩
  · intro b o e1 hw; subst e1
    simp only [Wr, hf, if_true] at hw
    exact .inl (by simp only [Wr, h0]; omega)
  · intro b o e1 hr hw; subst e1
    simp only [Wr, hf, if_true] at hw
    rcases hr with hr | ⟨_, _, h4⟩
    · have := hwf.dis _ _ hr
      simp only [Wr, h0] at this
      omega
    · omega
  · rintro b o hne (h | ⟨e1, _⟩)
    · exact h
    · exact absurd e1 hne
  · rintro b o (h | ⟨rfl, _⟩)
    · exact hwf.lt _ _ h
    · exact (hwf.ents _ _ h0).lt
  · intro b e1 hn; subst e1; simp [h0] at hn
/-- a box becomes constant -/
theorem StepOK.cbox {P N R H w} (hwf : WfH P R H w) (hv : VBound N H) {r : Id} {v : AV} (h0 : hf H r = some (.box v)) :
    StepOK P N R H w (fun b o => R b o ∨ r = .blk b) ((r, .cbox v) :: H) w := by
  have hk : Keeps R w (fun b o => R b o ∨ r = .blk b) w := ⟨fun _ _ h => .inl h, fun _ _ _ _ h => h, fun _ _ h => h⟩
  have h1 := hwf.ents _ _ h0
  refine .entry hwf hv _ _ hk ?_ (fun _ _ _ => rfl) (Nat.le_refl _) ⟨rfl, rfl, rfl⟩ ?_ ?_ ?_ ?_ ?_ (.inl (by simp [h0])) ?_
  · rintro b o (h | rfl)
    · exact .inl h
    · exact .inr (.inr (by simp only [Wr, h0]))
  · cases r with
    | virt n => exact h1.elim
    | blk b =>
      obtain ⟨cs, e, fr, k1, k2, k3⟩ := h1
      refine ⟨cs, e, fr, k1, Rep.keeps hk _ _ k3, fun i u hi => ⟨?_, .inr rfl⟩⟩
      rw [cell_of_row w b _ cs e fr k1]
      simpa using hi
  · intro b o e1 hw; subst e1; simp [Wr, hf] at hw
  · intro b o e1 _ hw; subst e1; simp [Wr, hf] at hw
  · rintro b o hne (h | e1)
    · exact h
    · exact absurd e1 hne
  · rintro b o (h | rfl)
    · exact hwf.lt _ _ h
    · exact h1.lt
  · intro b e1 hn; subst e1; simp [h0] at hn
end Go.Am
set_option linter.unusedVariables false
namespace Go.Am

mutual
def zcells : AV → Option (List Value)
  | .int k n => some [.int k n]
  | .bool b => some [.bool b]
  | .str s => some [.string ⟨s.toArray⟩]
  | .nilp => some [.pointer none]
  | .nils => some [.slice none 0 0]
  | .nilm => some [.map none]
  | .nilf => some [.nilFunc]
  | .nili => some [.nilIface]
  | .agg vs => zcellsL vs
  | _ => none
def zcellsL : List AV → Option (List Value)
  | [] => some []
  | v :: vs => (match zcells v with | some a => (match zcellsL vs with | some b => some (a ++ b) | none => none) | none => none)
end
mutual
theorem zcells_rep {R w} : ∀ (v : AV) (cs : List Value), zcells v = some cs → Rep R w v cs
  | .int _ _, _, h => by simp only [zcells, Option.some.injEq] at h; subst h; simp only [Rep]
  | .bool _, _, h => by simp only [zcells, Option.some.injEq] at h; subst h; simp only [Rep]
  | .str _, _, h => by simp only [zcells, Option.some.injEq] at h; subst h; simp only [Rep]
  | .nilp, _, h => by simp only [zcells, Option.some.injEq] at h; subst h; simp only [Rep]
  | .nils, _, h => by simp only [zcells, Option.some.injEq] at h; subst h; simp only [Rep]
  | .nilm, _, h => by simp only [zcells, Option.some.injEq] at h; subst h; simp only [Rep]
  | .nilf, _, h => by simp only [zcells, Option.some.injEq] at h; subst h; simp only [Rep]
  | .nili, _, h => by simp only [zcells, Option.some.injEq] at h; subst h; simp only [Rep]
  | .agg vs, cs, h => by simp only [zcells] at h; simp only [Rep]; exact zcellsL_rep vs cs h
  | .any, _, h => by simp [zcells] at h
  | .ptr _ _, _, h => by simp [zcells] at h
  | .cref _, _, h => by simp [zcells] at h
  | .list _, _, h => by simp [zcells] at h
  | .own _ _ _ _ _ _, _, h => by simp [zcells] at h
  | .map _, _, h => by simp [zcells] at h
  | .func _ _ _, _, h => by simp [zcells] at h
  | .iface _ _, _, h => by simp [zcells] at h
  | .tup _, _, h => by simp [zcells] at h
theorem zcellsL_rep {R w} : ∀ (vs : List AV) (cs : List Value), zcellsL vs = some cs → RepL R w vs cs
  | [], _, h => by simp only [zcellsL, Option.some.injEq] at h; subst h; simp only [RepL]
  | v :: vs, cs, h => by
    simp only [zcellsL] at h
    cases e1 : zcells v with
    | none => simp [e1] at h
    | some a =>
      cases e2 : zcellsL vs with
      | none => simp [e1, e2] at h
      | some b =>
        simp only [e1, e2, Option.some.injEq] at h
        simp only [RepL]
        exact ⟨a, b, h.symm, zcells_rep v a e1, zcellsL_rep vs b e2⟩
end

mutual
def csize : CT → Nat
  | .agg cs => csizeL cs
  | .rep n c => n * csize c
  | _ => 1
def csizeL : List CT → Nat
  | [] => 0
  | c :: cs => csize c + csizeL cs
end
/-- a comparison's shape fits the type -/
inductive CtOK (P : Program) : Nat → Nat → CT → Prop
  | int {d t k} : P.underlying t = some (.int k) → P.cellsOf t = 1 → CtOK P (d + 1) t .int
  | bool {d t} : P.underlying t = some .bool → P.cellsOf t = 1 → CtOK P (d + 1) t .bool
  | str {d t} : P.underlying t = some .string → P.cellsOf t = 1 → CtOK P (d + 1) t .str
  | rep {d t n e c} : P.underlying t = some (.array n e) → P.cellsOf t = n * csize c → CtOK P d e c → CtOK P (d + 1) t (.rep n c)
  | agg {d t fs cs} : P.underlying t = some (.struct fs) → P.cellsOf t = csizeL cs → P.stoodInHeld t = false → fs.size = cs.length →
      (∀ (i : Nat) (f : Field), fs[i]? = some f → f.name ≠ "_" ∧ f.offset = csizeL (cs.take i)) → (∀ (i : Nat) (f : Field) (c : CT), fs[i]? = some f → cs[i]? = some c → CtOK P d f.type c) → CtOK P (d + 1) t (.agg cs)
def tdOK (P : Program) (t : Nat) (td : TD) : Prop :=
  match td with
  | .bool => P.underlying t = some .bool
  | .int k => P.underlying t = some (.int k)
  | .str => P.underlying t = some .string
  | .ptr e => P.underlying t = some (.pointer e)
  | .slice e => P.underlying t = some (.slice e)
  | .arr n e => P.underlying t = some (.array n e)
  | .map k e => P.underlying t = some (.map k e)
  | .struct fs => ∃ Fs : Array Field, P.underlying t = some (.struct Fs) ∧ Fs.toList.map (fun f => (f.type, f.offset)) = fs ∧ Fs.toList.all (fun f => P.cellsOf f.type != 0) = true
  | .func => ∃ a b c, P.underlying t = some (.func a b c)
  | .iface => ∃ m, P.underlying t = some (.interface m)
  | .other => ∃ d, P.underlying t = some d ∧ (match d with | .struct _ | .array _ _ => false | _ => true) = true
def aggTd : TD → Bool
  | .struct _ | .arr _ _ => true
  | _ => false
structure TyOK (P : Program) (t : Nat) (ty : TyA) : Prop where
  info : ∃ i z, P.info? t = some i ∧ i.size = ty.size ∧ i.bytes = ty.bytes ∧ i.zero = some z ∧ zcells ty.zero = some z.cells.toList ∧ aggA ty.zero = aggV z
  zsz : ncells ty.zero = ty.size
  zagg : aggA ty.zero = aggTd ty.td
  td : tdOK P t ty.td
  ct : ty.ct = .none ∨ (CtOK P 10000 t ty.ct ∧ P.eqGuardType P.depth t = false)
def TbOK (P : Program) (tb : Nat → Option TyA) : Prop := ∀ t ty, tb t = some ty → TyOK P t ty

section
variable {P : Program} {tb : Nat → Option TyA}
theorem TyOK.size {t ty} (h : TyOK P t ty) (w : World) : (sizeOf t).run P w = .ok ty.size w := by
  obtain ⟨i, z, h1, h2, _⟩ := h.info
  rw [run_sizeOf w h1]
  simp [Program.cellsOf, h1, h2]
theorem TyOK.cells {t ty} (h : TyOK P t ty) : P.cellsOf t = ty.size := by
  obtain ⟨i, z, h1, h2, _⟩ := h.info
  simp [Program.cellsOf, h1, h2]
theorem TyOK.zero {t ty} (h : TyOK P t ty) (w : World) : ∃ z, (zeroValue t).run P w = .ok z w ∧ zcells ty.zero = some z.cells.toList ∧ aggA ty.zero = aggV z := by
  obtain ⟨i, z, h1, h2, h3, h4, h5, h6⟩ := h.info
  exact ⟨z, by simp [zeroValue, run_typeInfo w h1, h4], h5, h6⟩
theorem TyOK.isAgg {t ty} (h : TyOK P t ty) (w : World) : (isAgg t).run P w = .ok (aggTd ty.td) w := by
  have := h.td
  unfold tdOK at this
  cases e : ty.td with
  | struct fs =>
    rw [e] at this
    obtain ⟨Fs, h1, _⟩ := this
    simp [Go.isAgg, run_underlying h1, aggTd]
  | func => rw [e] at this; obtain ⟨a, b, c, h1⟩ := this; simp [Go.isAgg, run_underlying h1, aggTd]
  | iface => rw [e] at this; obtain ⟨m, h1⟩ := this; simp [Go.isAgg, run_underlying h1, aggTd]
  | other =>
    rw [e] at this
    obtain ⟨d, h1, h2⟩ := this
    simp only [Go.isAgg, Sem.run_bind, run_underlying h1, Result.andThen_ok, aggTd]
    cases d <;> simp at h2 ⊢
  | _ => rw [e] at this; simp [Go.isAgg, run_underlying this, aggTd]
theorem fits_agg {t ty v} (ht : tb t = some ty) (h : fits tb t v = true) : (aggTd ty.td = true ∧ (∃ vs, v = .agg vs) ∧ ncells v = ty.size) ∨ (aggTd ty.td = false ∧ isScalar v = true) := by
  simp only [fits, ht] at h
  unfold aggTd
  cases e : ty.td <;> simp only [e] at h <;> first
    | exact .inr ⟨rfl, h⟩
    | (cases v <;> simp only [Bool.false_eq_true] at h
       rename_i vs
       exact .inl ⟨rfl, ⟨vs, rfl⟩, by simpa [ncells] using h⟩)
theorem isScalar_one {v} (h : isScalar v = true) : ncells v = 1 ∧ aggA v = false := by
  cases v <;> simp [isScalar] at h <;> simp [ncells, aggA]
theorem ncells_scalar {v : AV} (h : aggA v = false) : ncells v = 1 := by cases v <;> simp [aggA] at h <;> simp [ncells]
theorem fits_size (hb : TbOK P tb) {t ty v} (ht : tb t = some ty) (h : fits tb t v = true) : ncells v = ty.size ∧ known v = true := by
  rcases fits_agg ht h with ⟨_, ⟨vs, rfl⟩, h3⟩ | ⟨h2, h3⟩
  · exact ⟨h3, rfl⟩
  · rw [(isScalar_one h3).1, ← (hb t ty ht).zsz, ncells_scalar (by rw [(hb t ty ht).zagg, h2])]
    exact ⟨rfl, by cases v <;> simp [isScalar] at h3 <;> rfl⟩
/-- where cells say a value that fits, a load gives it -/
theorem run_loadVar_rep (hb : TbOK P tb) {R w t v b o cs} (hf : fits tb t v = true) (hr : Rep R w v cs) (hc : ∀ i u, cs[i]? = some u → w.cell? ⟨b, o + i, none⟩ = some u) :
    ∃ u, (loadVar t ⟨b, o, none⟩).run P w = .ok u w ∧ RepV R w v u := by
  cases ht : tb t with
  | none => simp [fits, ht] at hf
  | some ty =>
    have hy := hb t ty ht
    have hlen := Rep.length _ _ hr
    have hadd : ∀ i, (⟨b, o, none⟩ : Addr).add i = ⟨b, o + i, none⟩ := fun i => by unfold Addr.add; split <;> simp_all
    rcases fits_agg ht hf with ⟨h1, ⟨vs, rfl⟩, h2⟩ | ⟨h1, h2⟩
    · refine ⟨.agg cs.toArray, ?_, .inr (.inl ⟨by simpa [Value.cells] using hr, by simp [aggA, aggV]⟩)⟩
      simp only [loadVar, Sem.run_bind, hy.isAgg, h1, Result.andThen_ok, if_true, hy.size, Sem.run_pure]
      rw [← h2, ← hlen, run_loadCells_list w ⟨b, o, none⟩ cs fun j v hj => by rw [hadd]; exact hc j v hj]
      rfl
    · obtain ⟨h3, h4⟩ := isScalar_one h2
      rw [h3] at hlen
      match cs, hlen with
      | [u], _ =>
        refine ⟨u, ?_, .inr (.inl ⟨?_, ?_⟩)⟩
        · have := hc 0 u rfl
          simp only [Nat.add_zero] at this
          simp only [loadVar, Sem.run_bind, hy.isAgg, h1, Result.andThen_ok, Bool.false_eq_true, if_false, run_load, this]
        · have := Rep.one _ _ hr u (by simp)
          cases u <;> simp_all [Value.cells, Value.oneCell']
        · rw [h4]
          have := Rep.one _ _ hr u (by simp)
          cases u <;> simp_all [aggV, Value.oneCell']
theorem upW_upW (w : World) (b : Nat) (x y : Obj) : upW (upW w b x) b y = upW w b y := by
  simp [upW]
theorem run_storeCells_spl (b o : Nat) (e : TypeId) (fr : Nat × Nat) : ∀ (vs : List Value) (i : Nat) (cs : Array Value) (w : World), w.heap[b]? = some (.cells cs e fr) → thawed cs fr → o + i + vs.length ≤ cs.size → (∀ v ∈ vs, v.oneCell' = true) →
    (storeCells ⟨b, o, none⟩ vs i).run P w = .ok () (upW w b (.cells (spl cs (o + i) vs) e fr))
  | [], i, cs, w, hb, _, hlen, _ => by
    have hlt : b < w.heap.size := (Array.getElem?_eq_some_iff.1 hb).1
    have e1 : spl cs (o + i) [] = cs := by
      apply Array.ext_getElem?; intro k; rw [spl_get (by simpa using hlen), if_neg (by simp)]
    simp only [storeCells, Sem.run_pure, e1, upW]
    congr 1
    have : w.heap.setIfInBounds b (.cells cs e fr) = w.heap := by
      apply Array.ext_getElem?; intro k
      rw [Array.getElem?_setIfInBounds]
      split
      · rename_i hk; subst hk; rw [hb]
      · rfl
    rw [this]
  | v :: vs, i, cs, w, hb, hth, hlen, hone => by
    have hlt : b < w.heap.size := (Array.getElem?_eq_some_iff.1 hb).1
    simp only [List.length_cons] at hlen
    have hadd : (⟨b, o, none⟩ : Addr).add i = ⟨b, o + i, none⟩ := by unfold Addr.add; split <;> simp_all
    have hcell : w.cell? ⟨b, o + i, none⟩ = cs[o + i]? := cell_of_row w b _ cs e fr hb
    have hin : o + i < cs.size := by omega
    have hfz : w.frozen? ⟨b, o + i, none⟩ = false := by
      have := hth (o + i) hin
      simp only [World.frozen?, hb]
      rw [Bool.and_eq_false_iff]
      by_cases h1 : fr.1 ≤ o + i
      · right; simp; omega
      · left; simp; omega
    have hset : w.setCell ⟨b, o + i, none⟩ v = upW w b (.cells (cs.setIfInBounds (o + i) v) e fr) := by
      simp only [World.setCell, upW]
      congr 1
      apply Array.ext_getElem?; intro k
      rw [Array.getElem?_modify, Array.getElem?_setIfInBounds]
      split
      · rename_i hk; subst hk; simp [hlt, (Array.getElem?_eq_some_iff.1 hb).2]
      · rfl
    simp only [storeCells, Sem.run_bind]
    rw [hadd, run_store P w _ v _ (hone v (by simp)), hcell, Array.getElem?_eq_getElem hin]
    simp only [hfz, Bool.false_eq_true, if_false, Result.andThen_ok, hset]
    have hb' : (upW w b (.cells (cs.setIfInBounds (o + i) v) e fr)).heap[b]? = some (.cells (cs.setIfInBounds (o + i) v) e fr) := by
      simp only [upW]; rw [Array.getElem?_setIfInBounds, if_pos rfl, if_pos hlt]
    have hth' : thawed (cs.setIfInBounds (o + i) v) fr := fun q hq => hth q (by simpa using hq)
    rw [run_storeCells_spl b o e fr vs (i + 1) (cs.setIfInBounds (o + i) v) _ hb' hth' (by simp; omega) (fun u hu => hone u (by simp [hu])), upW_upW]
    congr 3
    apply Array.ext_getElem?; intro k
    rw [spl_get (by simp; omega), spl_get (by simp; omega), Array.getElem?_setIfInBounds]
    by_cases h1 : o + i = k
    · subst h1
      rw [if_neg (by omega), if_pos rfl, if_pos hin, if_pos (by simp)]
      simp
    · by_cases h2 : o + (i + 1) ≤ k ∧ k < o + (i + 1) + vs.length
      · rw [if_pos h2, if_pos (by simp only [List.length_cons]; omega)]
        rw [show k - (o + i) = (k - (o + (i + 1))) + 1 by omega]
        simp
      · rw [if_neg h2, if_neg h1, if_neg (by simp only [List.length_cons]; omega)]
theorem run_storeVar_rep (hb : TbOK P tb) {t ty v u R w b o cs e fr} (ht : tb t = some ty) (hsz : ncells v = ty.size) (hr : Rep R w v u.cells.toList) (hblk : w.heap[b]? = some (.cells cs e fr)) (hth : thawed cs fr) (hlen : o + ncells v ≤ cs.size) :
    (storeVar t ⟨b, o, none⟩ u).run P w = .ok () (upW w b (.cells (spl cs o u.cells.toList) e fr)) := by
  have hl := Rep.length _ _ hr
  have hl' : u.cells.size = ncells v := by simpa using hl
  simp only [storeVar, Sem.run_bind, (hb t ty ht).size, Result.andThen_ok, hl', hsz, ne_eq, not_true_eq_false, if_false, Sem.run_pure]
  have := run_storeCells_spl (P := P) b o e fr u.cells.toList 0 cs w hblk hth (by simp only [Nat.add_zero]; rw [hl]; omega) (Rep.one _ _ hr)
  simpa using this
end
end Go.Am
set_option linter.unusedVariables false
namespace Go.Am

def OutOK (P : Program) (N : Nat) (R : CSet) (H : Heap) (w : World) (out : Out) (u : Value) (w' : World) : Prop :=
  ∃ ids R', Picks N w H out.ch [] ids ∧ StepOK P N R H w R' ((out.f ids).2 ++ H) w' ∧ RepV R' w' (out.f ids).1 u
def Done (P : Program) (N : Nat) (R : CSet) (H : Heap) (w : World) (r : Result Value) (K : Out → Prop) : Prop :=
  ∃ out u w', r = .ok u w' ∧ K out ∧ OutOK P N R H w out u w'

theorem RM.run_bind {α β H} (x : RM α) (f : α → RM β) (K : β → Prop) : (x.bind f).run H K ↔ x.run H fun a => (f a).run H K := by
  induction x with
  | ret a => rfl
  | fail => rfl
  | get r k ih => exact ih _
  | need h k ih => simp only [RM.bind, RM.run, ih]
  | asrt p k ih => simp only [RM.bind, RM.run, ih]
  | dem k ih => simp only [RM.bind, RM.run, ih]

section
variable {P : Program} {tb : Nat → Option TyA} {N : Nat} {R : CSet} {H : Heap} {w : World}

theorem RepV.any {u} : RepV R w .any u := .inl rfl
theorem RepV.of {v u} (h : Rep R w v u.cells.toList) (ha : aggA v = aggV u) : RepV R w v u := .inr (.inl ⟨h, ha⟩)
theorem RepV.cells {v u} (h : RepV R w v u) (hk : known v = true) : Rep R w v u.cells.toList ∧ aggA v = aggV u := by
  rcases h with rfl | h | ⟨vs, A, rfl, _⟩
  · simp [known] at hk
  · exact h
  · simp [known] at hk
theorem cells_one {u : Value} (h : aggV u = false) : u.cells = #[u] := by cases u <;> simp [aggV] at h <;> rfl
theorem RepV.one {v u} (h : RepV R w v u) (hk : known v = true) (ha : aggA v = false) : Rep R w v [u] := by
  obtain ⟨h1, h2⟩ := h.cells hk
  rw [ha] at h2
  rw [cells_one h2.symm] at h1
  exact h1
theorem RepV.of_one {v u} (h : Rep R w v [u]) (ha : aggA v = false) : RepV R w v u := by
  have hone := Rep.one _ _ h u (by simp)
  have : aggV u = false := by cases u <;> simp_all [aggV, Value.oneCell']
  exact .of (by rw [cells_one this]; exact h) (by rw [ha, this])
theorem RepV.int {k n u} (h : RepV R w (.int k n) u) : u = .int k n := by have := h.one rfl rfl; simpa [Rep] using this
theorem RepV.bool {b u} (h : RepV R w (.bool b) u) : u = .bool b := by have := h.one rfl rfl; simpa [Rep] using this
theorem RepV.str {s u} (h : RepV R w (.str s) u) : u = .string ⟨s.toArray⟩ := by have := h.one rfl rfl; simpa [Rep] using this
theorem RepV.nils {u} (h : RepV R w .nils u) : u = .slice none 0 0 := by have := h.one rfl rfl; simpa [Rep] using this
theorem RepV.nilp {u} (h : RepV R w .nilp u) : u = .pointer none := by have := h.one rfl rfl; simpa [Rep] using this
theorem RepV.agg {vs u} (h : RepV R w (.agg vs) u) : ∃ cs, u = .agg cs ∧ RepL R w vs cs.toList := by
  obtain ⟨h1, h2⟩ := h.cells rfl
  cases u <;> simp [aggA, aggV] at h2
  rename_i cs
  exact ⟨cs, rfl, by simpa [Rep, Value.cells] using h1⟩
theorem RepV.ptr {r p u} (h : RepV R w (.ptr r p) u) : ∃ b, r = .blk b ∧ u = .pointer (some ⟨b, poff p, none⟩) := by
  have := h.one rfl rfl
  cases r with
  | blk b => exact ⟨b, rfl, by simpa [Rep] using this⟩
  | virt n => simp [Rep] at this
theorem RepV.cref {v u} (h : RepV R w (.cref v) u) : ∃ b o c, u = .pointer (some ⟨b, o, none⟩) ∧ Rep R w v c ∧ constAt R w b o c := by
  have := h.one rfl rfl
  simp only [Rep, List.cons.injEq, and_true] at this
  exact this
theorem RepV.tup {vs u} (h : RepV R w (.tup vs) u) : ∃ A, u = .tuple A ∧ RepVs R w vs A.toList := by
  rcases h with h | ⟨h, _⟩ | ⟨vs', A, h1, h2, h3⟩
  · cases h
  · simp [Rep] at h
  · cases h1; exact ⟨A, h2, h3⟩
theorem rep_int {k n} : RepV R w (.int k n) (.int k n) := .of_one (by simp [Rep]) rfl
theorem rep_bool {b} : RepV R w (.bool b) (.bool b) := .of_one (by simp [Rep]) rfl
theorem rep_str {s : List UInt8} : RepV R w (.str s) (.string ⟨s.toArray⟩) := .of_one (by simp [Rep]) rfl

theorem constA_rep (v : Value) : RepV R w (constA v) v := by
  cases v with
  | bool b => exact rep_bool
  | int k n => exact rep_int
  | string s => exact .of_one (by simp [Rep, constA]) rfl
  | pointer a => cases a with
    | none => exact .of_one (by simp [Rep, constA]) rfl
    | some a => exact .any
  | slice a n c =>
    cases a with
    | none =>
      cases n with
      | zero => cases c with
        | zero => exact .of_one (by simp [Rep, constA]) rfl
        | succ c => exact .any
      | succ n => exact .any
    | some a => exact .any
  | map r => cases r with
    | none => exact .of_one (by simp [Rep, constA]) rfl
    | some r => exact .any
  | nilFunc => exact .of_one (by simp [Rep, constA]) rfl
  | nilIface => exact .of_one (by simp [Rep, constA]) rfl
  | _ => exact .any
theorem ev_rep {T : List (Nat × AV)} {a : Act} (hT : ∀ t, RepV R w (lk T t) (a.tmps.getD t undef)) (x : Operand) : RepV R w (ev T x) (a.eval x) := by
  cases x with
  | tmp t => exact hT t
  | const v => exact constA_rep v
  | global g => exact .any
  | func f => exact .of_one (by simp only [ev, Act.eval, Rep]; exact ⟨#[], #[], rfl, by simp [RepVs], by simp [RepVs]⟩) rfl
def RepVL (R : CSet) (w : World) : List AV → List Value → Prop
  | [], us => us = []
  | v :: vs, us => ∃ u us', us = u :: us' ∧ RepV R w v u ∧ RepVL R w vs us'
theorem evs_rep {T : List (Nat × AV)} {a : Act} (hT : ∀ t, RepV R w (lk T t) (a.tmps.getD t undef)) (xs : List Operand) : RepVL R w (xs.map (ev T)) (xs.map a.eval) := by
  induction xs with
  | nil => rfl
  | cons x xs ih => exact ⟨_, _, rfl, ev_rep hT x, ih⟩

/-- nothing of the memory turns -/
theorem OutOK.val (hw : WfH P R H w) (hv : VBound N H) {v u} (h : RepV R w v u) : OutOK P N R H w (.val v) u w :=
  ⟨[], R, .nil, .refl hw hv, h⟩
theorem Done.val (hw : WfH P R H w) (hv : VBound N H) {v u K} (h : RepV R w v u) (hK : K (.val v)) : Done P N R H w (.ok u w) K :=
  ⟨_, u, w, rfl, hK, .val hw hv h⟩
theorem Picks.fresh_blk (hw : WfH P R H w) : Picks N w H [none] [] [.blk w.heap.size] :=
  .cons (freshBut_none _ (hw.none_of_ge (Nat.le_refl _))) trivial (.inl (Nat.le_refl _)) .nil
theorem VBound.fresh (hv : VBound N H) : ∃ n, N ≤ n ∧ hf H (.virt n) = none := by
  obtain ⟨M, hM, h⟩ := hv
  refine ⟨M, hM, ?_⟩
  cases e : hf H (.virt M) with
  | none => rfl
  | some x => have := h M (by simp [e]); omega
/-- a new block -/
theorem OutOK.fresh (hw : WfH P R H w) (hv : VBound N H) {w' : World} {o : Obj} (hh : w'.heap = w.heap.push o) (henv : w'.os = w.os ∧ w'.tape = w.tape ∧ w'.output = w.output) {f : Id → AV × Heap} {v : AV} {en : Ent} {u}
    (hf' : f (.blk w.heap.size) = (v, [(.blk w.heap.size, en)])) (hen : Keeps R w R w' → EntOK P R w' (.blk w.heap.size) en) (hr : Keeps R w R w' → RepV R w' v u) : OutOK P N R H w (.fresh f) u w' := by
  have hs := StepOK.alloc hw hv o hh henv en hen
  exact ⟨[.blk w.heap.size], R, .fresh_blk hw, by simpa [Out.fresh, id0, hf'] using hs, by simpa [Out.fresh, id0, hf'] using hr hs.keeps⟩
theorem alloc_get {w w' : World} {o : Obj} (hh : w'.heap = w.heap.push o) : w'.heap[w.heap.size]? = some o := by rw [hh]; simp

/-! ### constant lists out of rows -/
/-- the same rows and boxes, some more of them constant -/
structure SR (H H1 : Heap) : Prop where
  row : ∀ r e sz xs fz, hf H r = some (.row e sz xs fz) → ∃ fz', hf H1 r = some (.row e sz xs fz')
  box : ∀ r v, hf H r = some (.box v) → hf H1 r = some (.box v) ∨ hf H1 r = some (.cbox v)
  cbox : ∀ r v, hf H r = some (.cbox v) → hf H1 r = some (.cbox v)
theorem SR.refl (H : Heap) : SR H H := ⟨fun _ _ _ _ fz h => ⟨fz, h⟩, fun _ _ h => .inl h, fun _ _ h => h⟩
theorem SR.cons_row {H H1 : Heap} (h : SR H H1) {r e sz xs fz} (fz') (hr : hf H r = some (.row e sz xs fz)) : SR H ((r, .row e sz xs fz') :: H1) := by
  refine ⟨fun r' e' sz' xs' fz1 h1 => ?_, fun r' v h1 => ?_, fun r' v h1 => ?_⟩
  · by_cases e1 : r = r'
    · subst e1; rw [hr] at h1; cases h1; exact ⟨fz', by simp [hf]⟩
    · simpa [hf, e1] using h.row _ _ _ _ _ h1
  · by_cases e1 : r = r'
    · subst e1; rw [hr] at h1; cases h1
    · simpa [hf, e1] using h.box _ _ h1
  · by_cases e1 : r = r'
    · subst e1; rw [hr] at h1; cases h1
    · simpa [hf, e1] using h.cbox _ _ h1
theorem SR.cons_cbox {H H1 : Heap} (h : SR H H1) {r v} (hr : hf H r = some (.box v)) : SR H ((r, .cbox v) :: H1) := by
  refine ⟨fun r' e' sz' xs' fz1 h1 => ?_, fun r' v h1 => ?_, fun r' v h1 => ?_⟩
  · by_cases e1 : r = r'
    · subst e1; rw [hr] at h1; cases h1
    · simpa [hf, e1] using h.row _ _ _ _ _ h1
  · by_cases e1 : r = r'
    · subst e1; rw [hr] at h1; cases h1; exact .inr (by simp [hf])
    · simpa [hf, e1] using h.box _ _ h1
  · by_cases e1 : r = r'
    · subst e1; rw [hr] at h1; cases h1
    · simpa [hf, e1] using h.cbox _ _ h1

/-- freezing a whole row: the step and the constant cells -/
theorem freeze_all {R H w} (hw : WfH P R H w) (hv : VBound N H) {r e sz xs fz} (h0 : hf H r = some (.row e sz xs fz)) :
    ∃ R1, StepOK P N R H w R1 ((r, .row e sz xs xs.length) :: H) w ∧ ∀ b, r = .blk b → ∃ cells, RepE R1 w sz xs cells ∧ constAt R1 w b 0 cells := by
  have h1 := hw.ents _ _ h0
  cases r with
  | virt n =>
    obtain ⟨rfl, rfl, h2, h3⟩ := h1
    exact ⟨_, .freeze hw hv 0 h0 (Nat.le_refl _) (Nat.le_refl _), fun b e => by cases e⟩
  | blk b =>
    obtain ⟨cs, fr, k1, k2, k3, k4, k5, k6, k9, cells, rest, k7, k8⟩ := h1
    have hcell : ∀ i u, cells[i]? = some u → w.cell? ⟨b, i, none⟩ = some u := fun i u hi => by
      rw [cell_of_row w b _ cs e fr k1, ← Array.getElem?_toList, k8, List.getElem?_append_left (List.getElem?_eq_some_iff.1 hi).1]
      exact hi
    have hs := StepOK.freeze hw hv xs.length h0 k5 (Nat.le_refl _)
    refine ⟨_, hs, fun b' e' => ?_⟩
    cases e'
    refine ⟨cells, RepE.keeps hs.keeps _ _ _ k7, fun i u hi => ⟨by rw [Nat.zero_add]; exact hcell i u hi, ?_⟩⟩
    have hlen := k7.len
    have := (List.getElem?_eq_some_iff.1 hi).1
    by_cases h : i < fz * sz
    · exact .inl (by rw [Nat.zero_add]; exact k9 i h)
    · exact .inr ⟨rfl, by omega, by omega⟩
end
end Go.Am
set_option linter.unusedVariables false
namespace Go.Am
section
variable {P : Program} {tb : Nat → Option TyA} {N : Nat} {R : CSet} {H : Heap} {w : World}

/-- a slice value's first n elements stand in memory as these -/
def Shows (R : CSet) (w : World) (sz : Nat) (ys : List AV) (a : Option Addr) : Prop :=
  ∃ cells, RepE R w sz ys cells ∧ (ys = [] ∨ ∃ b o, a = some ⟨b, o, none⟩ ∧ ∀ i u, cells[i]? = some u → w.cell? ⟨b, o + i, none⟩ = some u)
theorem allSz_all {sz} {vs : List AV} : allSz sz vs = true ↔ ∀ v ∈ vs, ncells v = sz := by
  induction vs with
  | nil => simp [allSz]
  | cons v vs ih => simp [allSz, ih]
theorem cells_take_drop {α} {cells rest cs : List α} {o n : Nat} (h : cs = cells ++ rest) (hn : o + n ≤ cells.length) (i : Nat) (u : α) (hi : ((cells.drop o).take n)[i]? = some u) : cs[o + i]? = some u := by
  have hlt : i < n := by
    have := (List.getElem?_eq_some_iff.1 hi).1
    simp at this; omega
  rw [List.getElem?_take_of_lt hlt, List.getElem?_drop] at hi
  rw [h, List.getElem?_append_left (by omega)]
  exact hi
theorem own_shows (hw : WfH P R H w) {r sz off len mc u} (hu : RepV R w (.own r [] sz off len mc) u) {e sz' xs fz} (hr : hf H r = some (.row e sz' xs fz)) (hs : sz = sz') (hl : off + len ≤ xs.length) :
    ∃ a c, u = .slice a len c ∧ len ≤ c ∧ Shows R w sz ((xs.drop off).take len) a := by
  subst hs
  have h1 := hw.ents _ _ hr
  have h2 := hu.one rfl rfl
  cases r with
  | virt n =>
    obtain ⟨rfl, _⟩ := h1
    simp only [Rep, List.cons.injEq, and_true] at h2
    obtain ⟨a, rfl, rfl, _⟩ := h2
    exact ⟨a, 0, rfl, Nat.le_refl _, [], by simp [RepE], .inl (by simp)⟩
  | blk b =>
    obtain ⟨cs, fr, k1, k2, k3, k4, k5, k6, k9, cells, rest, k7, k8⟩ := h1
    simp only [Rep, List.cons.injEq, and_true] at h2
    obtain ⟨a, c, rfl, h3, h4, h5⟩ := h2
    refine ⟨a, c, rfl, by omega, ((cells.drop (off * sz)).take (len * sz)), RepE.take _ (RepE.drop _ k7), ?_⟩
    rcases h5 with h5 | ⟨ha, _⟩
    · left
      have : len = 0 := by omega
      simp [this]
    · right
      refine ⟨b, off * sz, by simpa [poff] using ha, fun i u hi => ?_⟩
      rw [cell_of_row w b _ cs e fr k1, ← Array.getElem?_toList]
      exact cells_take_drop k8 (by rw [k7.len, ← Nat.add_mul]; exact Nat.mul_le_mul_right _ hl) i u hi
/-- places of a value in a block -/
theorem getP_rep {b} : ∀ {p : List Stp} {v u : AV} {cs : List Value} {o : Nat}, getP v p = some u → Rep R w v cs → (∀ i x, cs[i]? = some x → w.cell? ⟨b, o + i, none⟩ = some x) →
    ∃ ds, Rep R w u ds ∧ (∀ i x, ds[i]? = some x → w.cell? ⟨b, o + poff p + i, none⟩ = some x) ∧ poff p + ds.length ≤ cs.length
  | [], v, u, cs, o, h, hr, hc => by
    simp only [getP, Option.some.injEq] at h
    subst h
    exact ⟨cs, hr, by simpa [poff] using hc, by simp [poff]⟩
  | s :: p, v, u, cs, o, h, hr, hc => by
    cases v with
    | agg vs =>
      simp only [getP] at h
      split at h
      · rename_i hoff
        cases e : vs[s.i]? with
        | none => simp [e] at h
        | some v' =>
          simp only [e] at h
          simp only [Rep] at hr
          obtain ⟨k1, k2⟩ := RepL.at_ hr e
          rw [hoff] at k1 k2
          have hlen := Rep.length _ _ k1
          have hin : ∀ i x, ((cs.drop s.off).take (ncells v'))[i]? = some x → w.cell? ⟨b, o + s.off + i, none⟩ = some x := by
            intro i x hi
            have hlt : i < ncells v' := by have := (List.getElem?_eq_some_iff.1 hi).1; rw [hlen] at this; exact this
            rw [List.getElem?_take_of_lt hlt, List.getElem?_drop] at hi
            rw [Nat.add_assoc]
            exact hc _ x hi
          obtain ⟨ds, d1, d2, d3⟩ := getP_rep h k1 hin
          refine ⟨ds, d1, fun i x hi => ?_, ?_⟩
          · have := d2 i x hi
            simp only [poff]
            rwa [← Nat.add_assoc]
          · simp only [poff]; omega
      · cases h
    | _ => simp [getP] at h
theorem box_cells {b cs e fr} (hb : w.heap[b]? = some (.cells cs e fr)) : ∀ i x, cs.toList[i]? = some x → w.cell? ⟨b, 0 + i, none⟩ = some x := by
  intro i x hi
  rw [cell_of_row w b _ cs e fr hb, Nat.zero_add, ← Array.getElem?_toList]
  exact hi
/-- what an array in a block shows -/
theorem arr_shows {b o sz off len vs cs} (hr : Rep R w (.agg vs) cs) (hc : ∀ i x, cs[i]? = some x → w.cell? ⟨b, o + i, none⟩ = some x) (hl : off + len ≤ vs.length) (ha : allSz sz vs = true) :
    ∃ cells, RepE R w sz ((vs.drop off).take len) cells ∧ ∀ i u, cells[i]? = some u → w.cell? ⟨b, o + off * sz + i, none⟩ = some u := by
  simp only [Rep] at hr
  have he := RepE.ofL hr ha
  refine ⟨(cs.drop (off * sz)).take (len * sz), RepE.take _ (RepE.drop _ he), fun i u hi => ?_⟩
  rw [Nat.add_assoc]
  refine hc _ u ?_
  exact cells_take_drop (cs := cs) (rest := []) (by simp) (by rw [he.len, ← Nat.add_mul]; exact Nat.mul_le_mul_right _ hl) i u hi
theorem own_box_shows {b p sz off len mc u vs cs} (hu : RepV R w (.own (.blk b) p sz off len mc) u) {v : AV} (hg : getP v p = some (.agg vs)) (hr : Rep R w v cs) (hc : ∀ i x, cs[i]? = some x → w.cell? ⟨b, 0 + i, none⟩ = some x)
    (hl : off + len ≤ vs.length) (ha : allSz sz vs = true) : ∃ a c, u = .slice a len c ∧ len ≤ c ∧ Shows R w sz ((vs.drop off).take len) a := by
  have h2 := hu.one rfl rfl
  simp only [Rep, List.cons.injEq, and_true] at h2
  obtain ⟨a, c, rfl, h3, h4, h5⟩ := h2
  obtain ⟨ds, d1, d2, d3⟩ := getP_rep hg hr hc
  obtain ⟨cells, c1, c2⟩ := arr_shows (b := b) (o := 0 + poff p) d1 d2 hl ha
  refine ⟨a, c, rfl, by omega, cells, c1, ?_⟩
  rcases h5 with h5 | ⟨ha, _⟩
  · left
    have : len = 0 := by omega
    simp [this]
  · right
    exact ⟨b, poff p + off * sz, ha, by simpa using c2⟩
theorem elemsOf_ok (hw : WfH P R H w) {x u K} (hu : RepV R w x u) (h : (elemsOf x).run H K) : ∃ ys a c sz, K ys ∧ u = .slice a ys.length c ∧ ys.length ≤ c ∧ Shows R w sz ys a := by
  cases x with
  | list xs =>
    have h2 := hu.one rfl rfl
    simp only [Rep, List.cons.injEq, and_true] at h2
    obtain ⟨a, c, rfl, h3, sz, cells, h4, h5⟩ := h2
    exact ⟨xs, a, c, sz, h, rfl, h3, cells, h4, h5.imp id fun ⟨b, o, e, k⟩ => ⟨b, o, e, fun i u hi => (k i u hi).1⟩⟩
  | nils =>
    rw [hu.nils]
    exact ⟨[], none, 0, 1, h, rfl, Nat.le_refl _, [], by simp [RepE], .inl rfl⟩
  | own r p sz off len mc =>
    simp only [elemsOf, RM.run] at h
    cases e : hf H r with
    | none => rw [e] at h; exact h.elim
    | some en =>
      rw [e] at h
      cases en with
      | row e' sz' xs fz =>
        cases p with
        | cons s p => exact h.elim
        | nil =>
          simp only [] at h
          split at h
          · rename_i hc
            obtain ⟨a, c, h1, h2, h3⟩ := own_shows hw hu e hc.1 hc.2
            have hl : ((xs.drop off).take len).length = len := by simp; omega
            exact ⟨_, a, c, sz, h, by rw [hl]; exact h1, by rw [hl]; exact h2, h3⟩
          · exact h.elim
      | box v =>
        have h1 := hw.ents _ _ e
        cases r with
        | virt n => exact h1.elim
        | blk b =>
          obtain ⟨cs, t, fr, k1, k2, k3⟩ := h1
          simp only [] at h
          cases eg : getP v p with
          | none => rw [eg] at h; exact h.elim
          | some g =>
            rw [eg] at h
            cases g with
            | agg vs =>
              simp only [] at h
              split at h
              · rename_i hc
                obtain ⟨a, c, h1, h2, h3⟩ := own_box_shows hu eg k3 (box_cells k1) hc.1 hc.2
                have hl : ((vs.drop off).take len).length = len := by simp; omega
                exact ⟨_, a, c, sz, h, by rw [hl]; exact h1, by rw [hl]; exact h2, h3⟩
              · exact h.elim
            | _ => exact h.elim
      | cbox v =>
        have h1 := hw.ents _ _ e
        cases r with
        | virt n => exact h1.elim
        | blk b =>
          obtain ⟨cs, t, fr, k1, k3, k2⟩ := h1
          simp only [] at h
          cases eg : getP v p with
          | none => rw [eg] at h; exact h.elim
          | some g =>
            rw [eg] at h
            cases g with
            | agg vs =>
              simp only [] at h
              split at h
              · rename_i hc
                obtain ⟨a, c, h1, h2, h3⟩ := own_box_shows hu eg k3 (box_cells k1) hc.1 hc.2
                have hl : ((vs.drop off).take len).length = len := by simp; omega
                exact ⟨_, a, c, sz, h, by rw [hl]; exact h1, by rw [hl]; exact h2, h3⟩
              · exact h.elim
            | _ => exact h.elim
      | _ => exact h.elim
  | _ => exact h.elim

/-- the step that freezes: the new value is the old one, read as a constant -/
theorem frz_ok {H1 : Heap} {R1 : CSet} (hsr : SR H H1) (hw : WfH P R1 H1 w) (hv : VBound N H1) {x : AV} {cs : List Value} {K : AV × Heap → Prop} (hx : Rep R1 w x cs) (h : (frz x).run H K) :
    ∃ y us R2, K (y, us) ∧ StepOK P N R1 H1 w R2 (us ++ H1) w ∧ SR H (us ++ H1) ∧ Rep R2 w y cs ∧ aggA y = aggA x ∧ ncells y = ncells x ∧ known y = known x := by
  have triv : ∀ (hh : K (x, [])), ∃ y us R2, K (y, us) ∧ StepOK P N R1 H1 w R2 (us ++ H1) w ∧ SR H (us ++ H1) ∧ Rep R2 w y cs ∧ aggA y = aggA x ∧ ncells y = ncells x ∧ known y = known x :=
    fun hh => ⟨x, [], R1, hh, .refl hw hv, hsr, hx, rfl, rfl, rfl⟩
  cases x with
  | nils =>
    simp only [Rep] at hx
    subst hx
    exact ⟨.list [], [], R1, h, .refl hw hv, hsr, by simp only [Rep]; exact ⟨none, 0, rfl, Nat.le_refl _, 1, [], by simp [RepE], by simp⟩, rfl, by simp [ncells], rfl⟩
  | own r p sz off len mc =>
    cases p with
    | cons s p => exact h.elim
    | nil =>
      simp only [frz, RM.run] at h
      cases e : hf H r with
      | none => rw [e] at h; exact h.elim
      | some en =>
        rw [e] at h
        cases en with
        | row e' sz' xs fz =>
          simp only [] at h
          split at h
          · rename_i hc
            obtain ⟨hc1, rfl⟩ := hc
            obtain ⟨fz1, e1⟩ := hsr.row _ _ _ _ _ e
            obtain ⟨R2, hs, hcells⟩ := freeze_all hw hv e1
            refine ⟨_, _, R2, h, hs, hsr.cons_row _ e, ?_, rfl, by simp [ncells], rfl⟩
            cases r with
            | virt n =>
              have := hw.ents _ _ e1
              obtain ⟨rfl, _⟩ := this
              simp only [Rep] at hx ⊢
              obtain ⟨a, rfl, rfl, rfl⟩ := hx
              exact ⟨a, 0, by simp, by simp, 1, [], by simp [RepE], .inl (by simp)⟩
            | blk b =>
              obtain ⟨cells, d1, d2⟩ := hcells b rfl
              simp only [Rep] at hx ⊢
              obtain ⟨a, c, rfl, h3, h4, h5⟩ := hx
              have hl : ((xs.drop off).take len).length = len := by simp; omega
              refine ⟨a, c, by rw [hl], by rw [hl]; omega, sz, (cells.drop (off * sz)).take (len * sz), RepE.take _ (RepE.drop _ d1), ?_⟩
              rcases h5 with h5 | ⟨ha, _⟩
              · left
                have : len = 0 := by omega
                simp [this]
              · right
                refine ⟨b, off * sz, by simpa [poff] using ha, fun i u hi => ?_⟩
                have := cells_take_drop (cs := cells) (rest := []) (by simp) (by rw [d1.len, ← Nat.add_mul]; exact Nat.mul_le_mul_right _ hc1) i u hi
                simpa using d2 _ u this
          · exact h.elim
        | _ => exact h.elim
  | _ => exact triv h
theorem frzL_ok : ∀ {xs : List AV} {H1 : Heap} {R1 : CSet} {cs : List Value} {K : List AV × Heap → Prop} (hsr : SR H H1) (hw : WfH P R1 H1 w) (hv : VBound N H1) (hx : RepL R1 w xs cs) (h : (frzL xs).run H K),
    ∃ ys us R2, K (ys, us) ∧ StepOK P N R1 H1 w R2 (us ++ H1) w ∧ SR H (us ++ H1) ∧ RepL R2 w ys cs ∧ ncellsL ys = ncellsL xs
  | [], H1, R1, cs, K, hsr, hw, hv, hx, h => ⟨[], [], R1, h, .refl hw hv, hsr, hx, rfl⟩
  | x :: xs, H1, R1, cs, K, hsr, hw, hv, hx, h => by
    simp only [frzL, RM.run_bind] at h
    simp only [RepL] at hx
    obtain ⟨c1, c2, rfl, h1, h2⟩ := hx
    obtain ⟨y, us, R2, k1, k2, k3, k4, _, k5, _⟩ := frz_ok hsr hw hv h1 h
    obtain ⟨ys, us', R3, m1, m2, m3, m4, m5⟩ := frzL_ok k3 k2.wf k2.virt (RepL.keeps k2.keeps _ _ h2) k1
    refine ⟨_, _, R3, m1, ?_, ?_, ?_, by simp [ncellsL, k5, m5]⟩
    · rw [List.append_assoc]; exact k2.trans m2
    · rw [List.append_assoc]; exact m3
    · simp only [RepL]; exact ⟨c1, c2, rfl, Rep.keeps m2.keeps _ _ k4, m4⟩
theorem frzA_ok {H1 : Heap} {R1 : CSet} (hsr : SR H H1) (hw : WfH P R1 H1 w) (hv : VBound N H1) {x : AV} {cs : List Value} {K : AV × Heap → Prop} (hx : Rep R1 w x cs) (h : (frzA x).run H K) :
    ∃ y us R2, K (y, us) ∧ StepOK P N R1 H1 w R2 (us ++ H1) w ∧ SR H (us ++ H1) ∧ Rep R2 w y cs ∧ aggA y = aggA x ∧ ncells y = ncells x ∧ known y = known x := by
  cases x with
  | agg vs =>
    simp only [frzA, RM.run_bind] at h
    simp only [Rep] at hx
    obtain ⟨ys, us, R2, k1, k2, k3, k4, k5⟩ := frzL_ok (H1 := H1) (R1 := R1) hsr hw hv hx h
    exact ⟨_, us, R2, k1, k2, k3, by simpa [Rep] using k4, rfl, by simpa [ncells] using k5, rfl⟩
  | _ => exact frz_ok hsr hw hv hx h
theorem frzAL_ok : ∀ {xs : List AV} {H1 : Heap} {R1 : CSet} {cs : List Value} {sz : Nat} {K : List AV × Heap → Prop} (hsr : SR H H1) (hw : WfH P R1 H1 w) (hv : VBound N H1) (hx : RepE R1 w sz xs cs) (h : (frzAL xs).run H K),
    ∃ ys us R2, K (ys, us) ∧ StepOK P N R1 H1 w R2 (us ++ H1) w ∧ SR H (us ++ H1) ∧ RepE R2 w sz ys cs ∧ ys.length = xs.length
  | [], H1, R1, cs, sz, K, hsr, hw, hv, hx, h => ⟨[], [], R1, h, .refl hw hv, hsr, hx, rfl⟩
  | x :: xs, H1, R1, cs, sz, K, hsr, hw, hv, hx, h => by
    simp only [frzAL, RM.run_bind] at h
    simp only [RepE] at hx
    obtain ⟨c1, c2, rfl, h0, h1, h2⟩ := hx
    obtain ⟨y, us, R2, k1, k2, k3, k4, _⟩ := frzA_ok hsr hw hv h1 h
    obtain ⟨ys, us', R3, m1, m2, m3, m4, m5⟩ := frzAL_ok k3 k2.wf k2.virt (RepE.keeps k2.keeps _ _ _ h2) k1
    refine ⟨_, _, R3, m1, ?_, ?_, ?_, by simp [m5]⟩
    · rw [List.append_assoc]; exact k2.trans m2
    · rw [List.append_assoc]; exact m3
    · simp only [RepE]; exact ⟨c1, c2, rfl, h0, Rep.keeps m2.keeps _ _ k4, m4⟩
end
end Go.Am
set_option linter.unusedVariables false
namespace Go.Am
section
variable {P : Program} {tb : Nat → Option TyA} {N : Nat} {R : CSet} {H : Heap} {w : World}

theorem entGet_cells {b en p v} (h : EntOK P R w (.blk b) en) (hg : entGet en p = some v) : ∃ ds, Rep R w v ds ∧ (∀ i x, ds[i]? = some x → w.cell? ⟨b, poff p + i, none⟩ = some x) ∧ ∃ e k, w.shape? b = some (e, k) ∧ poff p + ds.length ≤ k := by
  cases en with
  | box v0 =>
    obtain ⟨cs, e, fr, k1, k2, k3⟩ := h
    obtain ⟨ds, d1, d2, d3⟩ := getP_rep (b := b) (o := 0) hg k3 (box_cells k1)
    exact ⟨ds, d1, by simpa using d2, e, cs.size, by simp [World.shape?, k1], by simpa using d3⟩
  | cbox v0 =>
    obtain ⟨cs, e, fr, k1, k3, k2⟩ := h
    obtain ⟨ds, d1, d2, d3⟩ := getP_rep (b := b) (o := 0) hg k3 (box_cells k1)
    exact ⟨ds, d1, by simpa using d2, e, cs.size, by simp [World.shape?, k1], by simpa using d3⟩
  | row e sz xs fz =>
    cases p with
    | nil => simp [entGet] at hg
    | cons s p =>
      obtain ⟨cs, fr, k1, k2, k3, k4, k5, k6, k9, cells, rest, k7, k8⟩ := h
      simp only [entGet] at hg
      split at hg
      · rename_i hoff
        cases e' : xs[s.i]? with
        | none => simp [e'] at hg
        | some v' =>
          simp only [e'] at hg
          obtain ⟨m1, m2, m3⟩ := k7.at_ e'
          have hin : ∀ i x, ((cells.drop (s.i * sz)).take sz)[i]? = some x → w.cell? ⟨b, s.off + i, none⟩ = some x := by
            intro i x hi
            rw [cell_of_row w b _ cs e fr k1, ← Array.getElem?_toList, hoff]
            exact cells_take_drop k8 m2 i x hi
          obtain ⟨ds, d1, d2, d3⟩ := getP_rep (b := b) (o := s.off) hg m1 hin
          refine ⟨ds, d1, by simpa [poff] using d2, e, cs.size, by simp [World.shape?, k1], ?_⟩
          have hcs : cs.size = cells.length + rest.length := by rw [← Array.length_toList, k8]; simp
          simp only [List.length_take, List.length_drop] at d3
          simp only [poff]
          omega
      · cases hg
  | map kt et l => simp [entGet] at hg
  | dead => simp [entGet] at hg
theorem load_ok (hb : TbOK P tb) (hw : WfH P R H w) (hv : VBound N H) {t x u K} (hu : RepV R w x u) (h : (loadA tb t x).run H K) : Done P N R H w ((Instr.loadAt t u).run P w) K := by
  cases x with
  | ptr r p =>
    obtain ⟨b, rfl, rfl⟩ := hu.ptr
    simp only [loadA, RM.run] at h
    cases e : hf H (.blk b) with
    | none => rw [e] at h; exact h.elim
    | some en =>
      rw [e] at h
      simp only [] at h
      cases eg : entGet en p with
      | none => rw [eg] at h; exact h.elim
      | some v =>
        rw [eg] at h
        simp only [] at h
        split at h
        · rename_i hf'
          obtain ⟨ds, d1, d2, _⟩ := entGet_cells (hw.ents _ _ e) eg
          obtain ⟨u, hr, hu⟩ := run_loadVar_rep hb hf' d1 d2
          simp only [Instr.loadAt, Instr.sureAddr, Sem.run_bind, Sem.run_pure, Result.andThen_ok, hr]
          exact .val hw hv hu h
        · exact h.elim
  | cref v =>
    obtain ⟨b, o, c, rfl, h1, h2⟩ := hu.cref
    simp only [loadA] at h
    split at h
    · rename_i hf'
      obtain ⟨u, hr, hu⟩ := run_loadVar_rep hb hf' h1 fun i x hi => (h2 i x hi).1
      simp only [Instr.loadAt, Instr.sureAddr, Sem.run_bind, Sem.run_pure, Result.andThen_ok, hr]
      exact .val hw hv hu h
    · exact h.elim
  | _ => exact h.elim

theorem setP_rep : ∀ {p : List Stp} {v u v' : AV} {cs us : List Value}, setP v p u = some v' → Rep R w v cs → Rep R w u us → poff p + us.length ≤ cs.length ∧ Rep R w v' (cs.take (poff p) ++ us ++ cs.drop (poff p + us.length)) ∧ ncells v' = ncells v
  | [], v, u, v', cs, us, h, hr, hu => by
    simp only [setP] at h
    split at h
    · rename_i hn
      cases h
      have h1 := Rep.length _ _ hr
      have h2 := Rep.length _ _ hu
      simp only [poff, List.take_zero, List.nil_append, Nat.zero_add]
      rw [List.drop_of_length_le (by omega), List.append_nil]
      exact ⟨by omega, hu, hn.symm⟩
    · cases h
  | s :: p, v, u, v', cs, us, h, hr, hu => by
    cases v with
    | agg vs =>
      simp only [setP] at h
      split at h
      · rename_i hoff
        cases e : vs[s.i]? with
        | none => simp [e] at h
        | some x =>
          simp only [e] at h
          cases e2 : setP x p u with
          | none => simp [e2] at h
          | some x' =>
            simp only [e2, Option.some.injEq] at h
            subst h
            simp only [Rep] at hr
            obtain ⟨k1, k2⟩ := RepL.at_ hr e
            obtain ⟨m1, m2, m3⟩ := setP_rep e2 k1 hu
            have hl1 := Rep.length _ _ k1
            have hl2 := Rep.length _ _ m2
            rw [hoff] at k1 k2 m1 m2 hl1 hl2
            have hset := RepL.set hr e m2 (by rw [hl2, m3])
            have hlx : (List.take (ncells x) (List.drop s.off cs)).length = ncells x := hl1
            refine ⟨?_, ?_, ?_⟩
            · simp only [poff]; rw [hlx] at m1; omega
            · simp only [Rep]
              rw [hoff, hl2, m3] at hset
              refine Eq.mp (congrArg (RepL R w (vs.set s.i x')) ?_) hset
              simp only [poff]
              have e1 : cs.take (s.off + poff p) = cs.take s.off ++ (cs.drop s.off).take (poff p) := by rw [List.take_add]
              have e2 : (List.take (ncells x) (List.drop s.off cs)).take (poff p) = (cs.drop s.off).take (poff p) := by
                rw [List.take_take, Nat.min_eq_left]; rw [hlx] at m1; omega
              have e3 : (List.take (ncells x) (List.drop s.off cs)).drop (poff p + us.length) ++ cs.drop (s.off + ncells x) = cs.drop (s.off + poff p + us.length) := by
                rw [hlx] at m1
                rw [List.drop_take, List.drop_drop]
                have : cs.drop (s.off + ncells x) = (cs.drop (s.off + (poff p + us.length))).drop (ncells x - (poff p + us.length)) := by
                  rw [List.drop_drop]; congr 1; omega
                rw [this, List.take_append_drop, Nat.add_assoc]
              rw [e1, e2, ← e3]
              simp [List.append_assoc]
            · simp only [ncells]
              have h1 := RepL.length _ _ hset
              have h2 := RepL.length _ _ hr
              rw [hlx] at m1
              rw [← h1, ← h2]
              simp only [List.length_append, List.length_take, List.length_drop, hoff]
              omega
      · cases h
    | _ => simp [setP] at h

theorem thawed_spl {cs : Array Value} {fr : Nat × Nat} {o : Nat} {vs : List Value} (h : thawed cs fr) (hl : o + vs.length ≤ cs.size) : thawed (spl cs o vs) fr := fun q hq => h q (by rwa [spl_size hl] at hq)
theorem upW_get {b : Nat} {o o0 : Obj} (h : w.heap[b]? = some o0) : (upW w b o).heap[b]? = some o := by
  simp only [upW]; rw [Array.getElem?_setIfInBounds, if_pos rfl, if_pos (Array.getElem?_eq_some_iff.1 h).1]
theorem spl_toList {cs : Array Value} {o : Nat} {vs : List Value} : (spl cs o vs).toList = cs.toList.take o ++ vs ++ cs.toList.drop (o + vs.length) := by simp [spl]

/-- a value put at a place of one of the heap's own blocks -/
theorem entSet_step {b en en' p v us} (hw : WfH P R H w) (hv : VBound N H) (h0 : hf H (.blk b) = some en) (hs : entSet en p v = some en') (hu : Rep R w v us) :
    ∃ cs e fr, w.heap[b]? = some (.cells cs e fr) ∧ thawed cs fr ∧ poff p + us.length ≤ cs.size ∧ StepOK P N R H w R ((.blk b, en') :: H) (upW w b (.cells (spl cs (poff p) us) e fr)) := by
  have h := hw.ents _ _ h0
  cases en with
  | box v0 =>
    obtain ⟨cs, e, fr, k1, k2, k3⟩ := h
    simp only [entSet] at hs
    cases e1 : setP v0 p v with
    | none => simp [e1] at hs
    | some v' =>
      simp only [e1, Option.some.injEq] at hs
      subst hs
      obtain ⟨m1, m2, m3⟩ := setP_rep e1 k3 hu
      have hl : poff p + us.length ≤ cs.size := by simpa using m1
      refine ⟨cs, e, fr, k1, k2, hl, .put hw hv h0 k1 hl (fun i _ _ => by simp [Wr, h0]) (fun i _ => by simp [Wr, h0]) fun hk => ?_⟩
      exact ⟨_, e, fr, upW_get k1, thawed_spl k2 hl, Rep.keeps hk _ _ (by rw [spl_toList]; exact m2)⟩
  | row e sz xs fz =>
    cases p with
    | nil => simp [entSet] at hs
    | cons s p =>
      obtain ⟨cs, fr, k1, k2, k3, k4, k5, k6, k9, cells, rest, k7, k8⟩ := h
      simp only [entSet] at hs
      split at hs
      · rename_i hoff
        obtain ⟨hoff, hfz⟩ := hoff
        cases e' : xs[s.i]? with
        | none => simp [e'] at hs
        | some x =>
          simp only [e'] at hs
          cases e1 : setP x p v with
          | none => simp [e1] at hs
          | some x' =>
            simp only [e1, Option.some.injEq] at hs
            subst hs
            obtain ⟨m1, m2, m3⟩ := k7.at_ e'
            obtain ⟨n1, n2, n3⟩ := setP_rep e1 m1 hu
            have hlt : s.i < xs.length := (List.getElem?_eq_some_iff.1 e').1
            have hlx : (List.take sz (List.drop (s.i * sz) cells)).length = sz := by simp; omega
            rw [hlx] at n1
            have hcs : cs.size = cells.length + rest.length := by rw [← Array.length_toList, k8]; simp
            have hl : poff (s :: p) + us.length ≤ cs.size := by simp only [poff]; omega
            have hset := k7.set hlt n2 (by rw [Rep.length _ _ n2, n3, m3])
            refine ⟨cs, e, fr, k1, k2, hl, .put hw hv h0 k1 hl ?_ ?_ fun hk => ?_⟩
            · intro i h1 h2
              simp only [Wr, h0]
              have := Nat.mul_le_mul_right sz hfz
              simp only [poff] at h1
              omega
            · intro i hi
              simpa [Wr, hf, h0] using hi
            · refine ⟨_, fr, upW_get k1, thawed_spl k2 hl, k3, k4, by simpa using k5, ?_, k9, _, rest, RepE.keeps hk _ _ _ hset, ?_⟩
              · rw [spl_size hl]; exact k6
              · rw [spl_toList, k8]
                simp only [poff]
                have a1 : (cells ++ rest).take (s.off + poff p) = cells.take (s.i * sz) ++ (cells.drop (s.i * sz)).take (poff p) := by
                  rw [hoff, List.take_append_of_le_length (by omega), List.take_add]
                have a2 : (List.take sz (List.drop (s.i * sz) cells)).take (poff p) = (cells.drop (s.i * sz)).take (poff p) := by
                  rw [List.take_take, Nat.min_eq_left (by omega)]
                have a3 : (List.take sz (List.drop (s.i * sz) cells)).drop (poff p + us.length) ++ cells.drop (s.i * sz + sz) = cells.drop (s.off + poff p + us.length) := by
                  rw [List.drop_take, List.drop_drop, hoff]
                  have : cells.drop (s.i * sz + sz) = (cells.drop (s.i * sz + (poff p + us.length))).drop (sz - (poff p + us.length)) := by
                    rw [List.drop_drop]; congr 1; omega
                  rw [this, List.take_append_drop, Nat.add_assoc]
                have a4 : (cells ++ rest).drop (s.off + poff p + us.length) = cells.drop (s.off + poff p + us.length) ++ rest := by
                  rw [List.drop_append_of_le_length (by omega)]
                rw [a1, a4, ← a2, ← a3]
                simp [List.append_assoc]
      · cases hs
  | _ => simp [entSet] at hs
theorem store_ok (hb : TbOK P tb) (hw : WfH P R H w) (hv : VBound N H) {t x v u y K} (hu : RepV R w x u) (hy : RepV R w v y) (h : (storeA tb t x v).run H K) :
    ∃ out w', (Instr.storeAt t u y).run P w = .ok () w' ∧ K out ∧ ∀ u0, OutOK P N R H w out u0 w' := by
  cases x with
  | ptr r p =>
    obtain ⟨b, rfl, rfl⟩ := hu.ptr
    simp only [storeA, RM.run] at h
    cases e : hf H (.blk b) with
    | none => rw [e] at h; exact h.elim
    | some en =>
      rw [e] at h
      simp only [] at h
      split at h
      · rename_i hfit
        cases ht : tb t with
        | none => simp [fits, ht] at hfit
        | some ty =>
          obtain ⟨hsz, hkn⟩ := fits_size hb ht hfit
          obtain ⟨hy1, hy2⟩ := hy.cells hkn
          have hfz : ∃ v' us R2, StepOK P N R H w R2 (us ++ H) w ∧ Rep R2 w v' y.cells.toList ∧ ncells v' = ncells v ∧ ∃ en', entSet en p v' = some en' ∧ K (.upd .any ((.blk b, en') :: us)) ∧ hf (us ++ H) (.blk b) = some en := by
            split at h
            · rename_i hrow
              simp only [RM.run_bind] at h
              obtain ⟨v', us, R2, k1, k2, k3, k4, _, k5, _⟩ := frzA_ok (.refl H) hw hv hy1 h
              simp only [RM.run] at k1
              obtain ⟨k0, k1⟩ := k1
              cases es : entSet en p v' with
              | none => rw [es] at k1; exact k1.elim
              | some en' => rw [es] at k1; exact ⟨v', us, R2, k2, k4, k5, en', es, k1, by rw [hf_append, hf_of_fresh k0]; exact e⟩
            · cases es : entSet en p v with
              | none => rw [es] at h; exact h.elim
              | some en' => rw [es] at h; exact ⟨v, [], R, .refl hw hv, hy1, rfl, en', es, h, e⟩
          obtain ⟨v', us, R2, s1, s3, s4, en', s5, s6, s7⟩ := hfz
          obtain ⟨cs, e', fr, m1, m2, m3, m4⟩ := entSet_step s1.wf s1.virt s7 s5 s3
          have hl := Rep.length _ _ s3
          refine ⟨_, _, ?_, s6, fun _ => ⟨[], R2, .nil, s1.trans m4, .any⟩⟩
          simp only [Instr.storeAt, Instr.sureAddr, Sem.run_bind, Sem.run_pure, Result.andThen_ok]
          exact run_storeVar_rep hb ht (by rw [s4]; exact hsz) s3 m1 m2 (by rw [← hl]; exact m3)
      · exact h.elim
  | _ => exact h.elim

/-! ### new variables -/
theorem run_newVar (t : TypeId) (u : Value) : (newVar t u).run P w = .ok ⟨w.heap.size, 0, none⟩ (w.alloc (.cells u.cells t)) := by
  simp only [newVar, newRow, Sem.run_bind, run_newObj, Result.andThen_ok, Sem.run_pure]; rfl
theorem alloc_heap (w : World) (o : Obj) : (w.alloc o).heap = w.heap.push o := rfl
theorem thawed00 (cs : Array Value) : thawed cs (0, 0) := fun o _ h => by omega
theorem box_ok (hw : WfH P R H w) (hv : VBound N H) {t : Nat} {v : AV} {u : Value} (hr : Rep R w v u.cells.toList) :
    OutOK P N R H w (.fresh fun r => (.ptr r [], [(r, .box v)])) (.pointer (some ⟨w.heap.size, 0, none⟩)) (w.alloc (.cells u.cells t)) :=
  .fresh hw hv (alloc_heap w _) ⟨rfl, rfl, rfl⟩ rfl
    (fun hk => ⟨u.cells, t, (0, 0), alloc_get (alloc_heap w _), thawed00 _, Rep.keeps hk _ _ hr⟩)
    (fun _ => .of_one (by simp [Rep, poff]) rfl)
end
end Go.Am
