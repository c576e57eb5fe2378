/- The weakest precondition of code over a heap view: nice forms of the operations, regions, statements, loops, calls. -/
import Derived.Test.YtaffcoiomggpfaaVBase
import Derived.Scope
namespace Go.V
set_option linter.constructorNameAsVariable false
set_option linter.unusedVariables false

/-- The temporaries of a frame. -/
def Tau := Nat → Value
def Tau.upd (τ : Tau) (i : Nat) (v : Value) : Tau := fun j => cond (Nat.beq j i) v (τ j)
def Tau.put (τ : Tau) (dst : Option Nat) (v : Value) : Tau := match dst with
  | some d => τ.upd d v
  | none => τ
def ev (τ : Tau) : Operand → Value
  | .tmp t => τ t
  | .const v => v
  | .global g => .pointer (some ⟨g, 0, none⟩)
  | .func f => .func (.func f) #[] #[]
theorem Tau.upd_self (τ : Tau) (i : Nat) : τ.upd i (τ i) = τ := by
  funext j; simp only [Tau.upd]; cases h : Nat.beq j i
  · rfl
  · rw [Nat.eq_of_beq_eq_true h]; rfl
theorem Tau.upd_eq (τ : Tau) {i : Nat} {v : Value} (h : τ i = v) : τ.upd i v = τ := by subst h; exact Tau.upd_self τ i

abbrev Chain := List PanicEntry

/-- A contract of a Go function: called in any world of which the view H tells the truth, it returns v with a view H' of which Q holds (or panics with E). -/
def goFn (P : Program) (f : FuncId) : Bool := match P.funcs[f]? with
  | some fn => !(fn.name == "runtime.NumGoroutine") && fn.body.isSome
  | none => false
def Does (P : Program) (f : FuncId) (args : Array Value) (H : Heap) (Q : Value → Heap → Prop) (E : Chain → Heap → Prop) : Prop :=
  goFn P f = true ∧ ∀ w, Sub H w → Calls P f args w fun e w' => match e with
    | .returned v => ∃ H', Sub H' w' ∧ Keeps H H' w w' ∧ Q v H'
    | .panicked ch => ∃ H', Sub H' w' ∧ Keeps H H' w w' ∧ E ch H'
    | .outgrown => False

theorem Does.mono {P : Program} {f : FuncId} {args : Array Value} {H : Heap} {Q Q' : Value → Heap → Prop} {E E' : Chain → Heap → Prop}
    (h : Does P f args H Q E) (hq : ∀ v H, Q v H → Q' v H) (he : ∀ c H, E c H → E' c H) : Does P f args H Q' E' := by
  refine ⟨h.1, fun w hs => ?_⟩
  refine Calls.mono (h.2 w hs) fun e w' hr => ?_
  cases e with
  | returned v => obtain ⟨H', a, b, c⟩ := hr; exact ⟨H', a, b, hq _ _ c⟩
  | panicked ch => obtain ⟨H', a, b, c⟩ := hr; exact ⟨H', a, b, he _ _ c⟩
  | outgrown => exact hr

/-! ### Types of a program, as shapes -/
inductive Shp where
  | i (k : IntKind) | b | s | p | sl | m | v
  deriving DecidableEq
def exS : Shp → (Value → Prop) → Prop
  | .i k, K => ∃ n : Int, K (.int k n)
  | .b, K => ∃ b : Bool, K (.bool b)
  | .s, K => ∃ s : ByteArray, K (.string s)
  | .p, K => ∃ p : Option Addr, K (.pointer p)
  | .sl, K => ∃ (p : Option Addr) (n c : Nat), K (.slice p n c)
  | .m, K => ∃ r : Option Nat, K (.map r)
  | .v, K => ∃ v : Value, K v
def exL : List Shp → (List Value → Prop) → Prop
  | [], K => K []
  | s :: l, K => exS s fun v => exL l fun vs => K (v :: vs)
def rep {α : Type} : Nat → List α → List α
  | 0, _ => []
  | n + 1, l => l ++ rep n l
def shpD : TypeDesc → Shp
  | .int k => .i k | .bool => .b | .string => .s | .pointer _ => .p | .slice _ => .sl | .map _ _ => .m | _ => .v
def und (P : Program) (t : TypeId) : TypeDesc := (P.underlying t).getD .bool
def aggD : TypeDesc → Bool
  | .struct _ | .array _ _ => true
  | _ => false
def leafs (P : Program) : Nat → TypeId → List Shp
  | 0, _ => []
  | n + 1, t => match und P t with
    | .struct fs => fs.toList.flatMap fun f => leafs P n f.type
    | .array len e => rep len (leafs P n e)
    | d => [shpD d]
def sizeT (P : Program) (t : TypeId) : Nat := ((P.info? t).map (·.size)).getD 0
def bytesT (P : Program) (t : TypeId) : Nat := ((P.info? t).map (·.bytes)).getD 0
def zeroT (P : Program) (t : TypeId) : Value := ((P.info? t).bind (·.zero)).getD undef
def zcells (P : Program) (t : TypeId) : Array Value := (zeroT P t).cells
def knownT (P : Program) (t : TypeId) : Bool := (P.info? t).isSome && (P.underlying t).isSome && ((P.info? t).bind (·.zero)).isSome
def elemT (P : Program) (t : TypeId) : TypeId := match und P t with
  | .slice e | .array _ e | .pointer e => e
  | _ => 0
def fieldsT (P : Program) (t : TypeId) : List Field := match und P t with
  | .struct fs => fs.toList
  | _ => []

/-- Cells from an address on. -/
def Heap.rd (H : Heap) (a : Addr) : Nat → List Value → Prop
  | _, [] => True
  | i, v :: vs => H.cell? (a.add i) = some v ∧ H.rd a (i + 1) vs
/-- Values laid over cells from a place on. -/
def over (c : Array Value) : Nat → List Value → Array Value
  | _, [] => c
  | o, v :: vs => over (c.setIfInBounds o v) (o + 1) vs
/-- Cells are written. -/
def wr (a : Addr) (vs : List Value) (H : Heap) (K : Heap → Prop) : Prop :=
  ∃ c t fr, H a.block = some (.cells c t fr) ∧ a.spot = none ∧ a.off + vs.length ≤ c.size ∧ (a.off + vs.length ≤ fr.1 ∨ fr.2 ≤ a.off) ∧ vs.all oneC = true ∧
    K (H.set a.block (.cells (over c a.off vs) t fr))
/-- A new block. -/
def nw (o : Obj) (H : Heap) (K : Nat → Heap → Prop) : Prop := ∀ id, H id = none → K id (H.set id o)
def sel (b : Bool) (X Y : Prop) : Prop := match b with
  | true => X
  | false => Y
theorem sel_iff (b : Bool) (X Y : Prop) : sel b X Y ↔ (b = true → X) ∧ (b = false → Y) := by cases b <;> simp [sel]

def ptr (p : Option Addr) (K : Addr → Prop) : Prop := match p with
  | some a => K a
  | none => False
theorem ptr_some (a : Addr) (K : Addr → Prop) : ptr (some a) K = K a := rfl
def sAt (s : ByteArray) (n : Int) : Int := ((s.data.getD n.toNat 0).toNat : Int)
/-- A bound of a slice expression. -/
def bnd (o : Option Value) (d y : Nat) (K : Nat → Prop) : Prop := match o with
  | none => K d
  | some (.int _ i) => (0 ≤ i ∧ i ≤ (y : Int)) ∧ K i.toNat
  | _ => False
/-- The cells that a slice of so many cells reads as. -/
def Heap.rdS (H : Heap) (p : Option Addr) (vs : List Value) : Prop := match p with
  | none => vs = []
  | some ad => H.rd ad 0 vs
def wrS (p : Option Addr) (o : Nat) (vs : List Value) (H : Heap) (K : Heap → Prop) : Prop := match vs with
  | [] => K H
  | v :: l => ptr p fun ad => wr (ad.add o) (v :: l) H K

/-! ### The nice forms of operations: K takes the operation's value -/
section
variable (P : Program)
def tyD (t : TypeId) (K : TypeDesc → Prop) : Prop := match P.underlying t with
  | some d => K d
  | none => False
def tyI (t : TypeId) (K : TypeInfo → Prop) : Prop := match P.info? t with
  | some i => K i
  | none => False
/-- The zero value's cells, if they are as many as the type says. -/
def tyZ (t : TypeId) (K : List Value → Prop) : Prop := tyI P t fun i => match i.zero with
  | some z => match Nat.beq z.cells.size i.size with
    | true => K z.cells.toList
    | false => False
  | none => False
def nLoad (t : TypeId) (a : Value) (K : Value → Heap → Prop) (H : Heap) : Prop :=
  match a with
  | .pointer p => ptr p fun ad => tyD P t fun d => match aggD d with
    | true => tyI P t fun i => match Nat.beq (leafs P 100 t).length i.size && Nat.blt 0 i.size with
      | true => exL (leafs P 100 t) fun vs => H.rd ad 0 vs ∧ K (.agg vs.toArray) H
      | false => False
    | false => exS (shpD d) fun v => H.cell? ad = some v ∧ K v H
  | _ => False
def nStore (t : TypeId) (a x : Value) (K : Value → Heap → Prop) (H : Heap) : Prop :=
  match a with
  | .pointer p => ptr p fun ad => tyI P t fun i => match Nat.beq x.cells.size i.size with
    | true => wr ad x.cells.toList H fun H => K undef H
    | false => False
  | _ => False
def nBox (t : TypeId) (x : Value) (K : Value → Heap → Prop) (H : Heap) : Prop :=
  nw (.cells x.cells t (0, 0)) H fun id H => K (.pointer (some ⟨id, 0, none⟩)) H
def nAlloc (t : TypeId) (K : Value → Heap → Prop) (H : Heap) : Prop :=
  tyI P t fun i => match i.zero with
  | some z => nw (.cells z.cells t (0, 0)) H fun id H => K (.pointer (some ⟨id, 0, none⟩)) H
  | none => False
def nNilCheck (x : Value) (K : Value → Heap → Prop) (H : Heap) : Prop :=
  match x with
  | .pointer p => ptr p fun ad => K (.pointer (some ad)) H
  | .iface t v => K (.iface t v) H
  | .func (.func f) a b => K (.func (.func f) a b) H
  | .map r => K (.map r) H
  | .slice p n c => K (.slice p n c) H
  | _ => False
def nFieldAddr (s : TypeId) (x : Value) (f : Nat) (K : Value → Heap → Prop) (H : Heap) : Prop :=
  match x with
  | .pointer p => ptr p fun ad => tyD P s fun d => match d with
    | .struct fs => match fs[f]? with
      | some fd => tyI P fd.type fun i => match Nat.beq i.size 0 with
        | false => K (.pointer (some (ad.add fd.offset))) H
        | true => False
      | none => False
    | _ => False
  | _ => False
def nIndexAddr (t : TypeId) (x i : Value) (K : Value → Heap → Prop) (H : Heap) : Prop :=
  match i with
  | .int _ n => tyD P t fun d => match d, x with
    | .array len e, .pointer p => tyI P e fun i => ptr p fun ad => (0 ≤ n ∧ n < (len : Int)) ∧ K (.pointer (some (ad.add (n.toNat * i.size)))) H
    | .slice e, .slice p len _ => tyI P e fun i => (0 ≤ n ∧ n < (len : Int)) ∧ ptr p fun ad => K (.pointer (some (ad.add (n.toNat * i.size)))) H
    | _, _ => False
  | _ => False
def nIndex (t : TypeId) (x i : Value) (K : Value → Heap → Prop) (H : Heap) : Prop :=
  match i with
  | .int _ n => tyD P t fun d => match d, x with
    | .array len e, .agg cs => tyI P e fun i => tyD P e fun d => match aggD d with
      | true => False
      | false => (0 ≤ n ∧ n < (len : Int)) ∧ exS (shpD d) fun v => cs.toList[n.toNat * i.size]? = some v ∧ K v H
    | .string, .string s => (0 ≤ n ∧ n < (s.size : Int)) ∧ K (.int .u8 (sAt s n)) H
    | _, _ => False
  | _ => False
def nField (t : TypeId) (x : Value) (f : Nat) (K : Value → Heap → Prop) (H : Heap) : Prop :=
  match x with
  | .agg cs => tyD P t fun d => match d with
    | .struct fs => match fs[f]? with
      | some fd => tyD P fd.type fun d => match aggD d with
        | true => tyI P fd.type fun i => K (.agg ((cs.toList.drop fd.offset).take i.size).toArray) H
        | false => match cs.toList[fd.offset]? with
          | some v => K v H
          | none => False
      | none => False
    | _ => False
  | _ => False
def nSlice (t : TypeId) (x : Value) (lo hi mx : Option Value) (K : Value → Heap → Prop) (H : Heap) : Prop :=
  tyD P t fun d => match d, x with
  | .string, .string s => match mx with
    | none => bnd hi s.size s.size fun h => bnd lo 0 h fun l => K (.string (s.extract l h)) H
    | some _ => False
  | .slice e, .slice p n c => tyI P e fun i => match mx, hi with
    | some _, none => False
    | _, _ => bnd mx c c fun m => bnd hi n m fun h => bnd lo 0 h fun l => K (.slice (if m = l then p else p.map (·.add (l * i.size))) (h - l) (m - l)) H
  | .array n e, .pointer p => tyI P e fun i => ptr p fun ad => match mx, hi with
    | some _, none => False
    | _, _ => bnd mx n n fun m => bnd hi n m fun h => bnd lo 0 h fun l => K (.slice (some (if m = l then ad else ad.add (l * i.size))) (h - l) (m - l)) H
  | _, _ => False
def nMake (t : TypeId) (l c : Value) (K : Value → Heap → Prop) (H : Heap) : Prop :=
  match l, c with
  | .int _ l, .int _ c => tyD P t fun d => match d with
    | .slice e => tyI P e fun i => tyZ P e fun z => (0 ≤ l ∧ l ≤ c ∧ c ≤ 281474976710656 ∧ i.bytes * c ≤ 281474976710656) ∧
        nw (.cells (rep c.toNat z).toArray e (0, 0)) H fun id H => K (.slice (some ⟨id, 0, none⟩) l.toNat c.toNat) H
    | _ => False
  | _, _ => False
def nPick (c a b : Value) (K : Value → Heap → Prop) (H : Heap) : Prop :=
  match c with
  | .bool c => sel c (K a H) (K b H)
  | _ => False
def intOp (op : BinOp) (k : IntKind) (a b : Int) : Option Value :=
  match op with
  | .add => some (.int k (k.wrap (a + b)))
  | .sub => some (.int k (k.wrap (a - b)))
  | .mul => some (.int k (k.wrap (a * b)))
  | .and => some (.int k (k.wrap (BitVec.ofInt k.bits a &&& BitVec.ofInt k.bits b).toNat))
  | .or => some (.int k (k.wrap (BitVec.ofInt k.bits a ||| BitVec.ofInt k.bits b).toNat))
  | .xor => some (.int k (k.wrap (BitVec.ofInt k.bits a ^^^ BitVec.ofInt k.bits b).toNat))
  | .andNot => some (.int k (k.wrap (BitVec.ofInt k.bits a &&& ~~~BitVec.ofInt k.bits b).toNat))
  | .eql => some (.bool (a == b))
  | .neq => some (.bool (a != b))
  | .lss => some (.bool (a < b))
  | .leq => some (.bool (a ≤ b))
  | .gtr => some (.bool (a > b))
  | .geq => some (.bool (a ≥ b))
  | _ => none
def strOp (op : BinOp) (a b : ByteArray) : Option Value :=
  match op with
  | .eql => some (.bool (a.toList == b.toList))
  | .neq => some (.bool (!(a.toList == b.toList)))
  | .lss => some (.bool (Op.bytesLess a.toList b.toList))
  | _ => none
def scalarD : TypeDesc → Bool
  | .int _ | .bool | .string => true
  | _ => false
def eqV : Value → Value → Bool
  | .int _ a, .int _ b => a == b
  | .bool a, .bool b => a == b
  | .string a, .string b => a == b
  | _, _ => false
def eqVs : List Value → List Value → Bool
  | [], [] => true
  | a :: l, b :: m => eqV a b && eqVs l m
  | _, _ => false
/-- Values of the kinds that can be compared cell by cell. -/
def confB : List Shp → List Value → Bool
  | [], [] => true
  | .i k :: l, .int k' _ :: vs => decide (k = k') && confB l vs
  | .b :: l, .bool _ :: vs => confB l vs
  | .s :: l, .string _ :: vs => confB l vs
  | _, _ => false
/-- Fields that lie one behind the other, as many cells as their kinds. -/
def offsB (lf : TypeId → List Shp) : Nat → List Field → Bool
  | _, [] => true
  | o, f :: l => Nat.beq f.offset o && (match P.info? f.type with
      | some i => Nat.beq (lf f.type).length i.size && offsB lf (o + i.size) l
      | none => false)
/-- A type whose values are compared cell by cell. -/
def flatB : Nat → TypeId → Bool
  | 0, _ => false
  | n + 1, t => match P.underlying t with
    | some (.struct fs) => !P.stoodInHeld t && offsB P (leafs P n) 0 fs.toList && fs.toList.all fun f => !(f.name == "_") && flatB n f.type
    | some (.array len e) => flatB n e && (match P.info? e with
      | some i => Nat.beq (leafs P n e).length i.size && Nat.blt 0 i.size
      | none => false)
    | some (.int _) | some .bool | some .string => true
    | _ => false
def boolB (t : TypeId) : Bool := match P.underlying t with
  | some .bool => true
  | _ => false
/-- The value of an operation on numbers, strings, bools, and what is asked ahead. -/
def binS (isB : Bool) (op : BinOp) (x y : Value) : Option (Option Prop × Value) :=
  match op, x, y with
  | .shl, .int k a, .int _ b => some (some (0 ≤ b), .int k (k.wrap (a * 2 ^ min b.toNat k.bits)))
  | .shr, .int k a, .int _ b => some (some (0 ≤ b), .int k (a.fdiv (2 ^ min b.toNat k.bits)))
  | .quo, .int k a, .int k' b => match decide (k = k') with
    | true => some (some (b ≠ 0), .int k (k.wrap (a.tdiv b)))
    | false => none
  | .rem, .int k a, .int k' b => match decide (k = k') with
    | true => some (some (b ≠ 0), .int k (a.tmod b))
    | false => none
  | .add, .string a, .string b => some (some (((a.size + b.size : Nat) : Int) ≤ 9223372036854775807), .string (a ++ b))
  | op, .int k a, .int k' b => match decide (k = k') with
    | true => match intOp op k a b with
      | some v => some (none, v)
      | none => none
    | false => none
  | op, .string a, .string b => match strOp op a b with
    | some v => some (none, v)
    | none => none
  | .eql, .bool a, .bool b => match isB with
    | true => some (none, .bool (a == b))
    | false => none
  | .neq, .bool a, .bool b => match isB with
    | true => some (none, .bool (!(a == b)))
    | false => none
  | _, _, _ => none
def nBin (op : BinOp) (xType : TypeId) (ox oy : Operand) (x y : Value) (K : Value → Heap → Prop) (E : Value → Heap → Prop) (H : Heap) : Prop :=
  match binS (boolB P xType) op x y with
  | some (some c, v) => c ∧ K v H
  | some (none, v) => K v H
  | none => tyD P xType fun d => match scalarD d with
    | true => False
    | false => match flatB P 20 xType && !P.eqGuardType P.depth xType with
      | true => match op, x, y with
        | .eql, .agg xs, .agg ys => match confB (leafs P 20 xType) xs.toList && confB (leafs P 20 xType) ys.toList with
          | true => K (.bool (eqVs xs.toList ys.toList)) H
          | false => False
        | .neq, .agg xs, .agg ys => match confB (leafs P 20 xType) xs.toList && confB (leafs P 20 xType) ys.toList with
          | true => K (.bool (!eqVs xs.toList ys.toList)) H
          | false => False
        | _, _, _ => False
      | false => vp P (do eqGuard op xType ox oy x y; binOp op xType x y) K E H
def nUn (op : UnOp) (x : Value) (K : Value → Heap → Prop) (H : Heap) : Prop :=
  match op, x with
  | .neg, .int k n => K (.int k (k.wrap (0 - n))) H
  | .xor, .int k n => K (.int k (k.wrap (BitVec.ofInt k.bits (if k.signed then -1 else k.max) ^^^ BitVec.ofInt k.bits n).toNat)) H
  | .not, .bool b => K (.bool !b) H
  | _, _ => False
def nExtract (x : Value) (i : Nat) (K : Value → Heap → Prop) (H : Heap) : Prop :=
  match x with
  | .tuple vs => match vs.toList[i]? with
    | some v => K v H
    | none => False
  | _ => False
def nIface (t : TypeId) (x : Value) (K : Value → Heap → Prop) (H : Heap) : Prop :=
  tyD P t fun d => match d with
  | .interface _ => False
  | _ => K (.iface t x) H
def nLen (t : TypeId) (x : Value) (K : Value → Heap → Prop) (H : Heap) : Prop :=
  tyD P t fun d => match d, x with
  | .string, .string s => K (.int .i64 s.size) H
  | .slice _, .slice _ n _ => K (.int .i64 n) H
  | .array n _, _ => K (.int .i64 n) H
  | _, _ => False
def minV : Value → List Value → Option Value
  | x, [] => some x
  | .int k x, .int _ y :: l => minV (.int k (if y < x then y else x)) l
  | _, _ => none
def maxV : Value → List Value → Option Value
  | x, [] => some x
  | .int k x, .int _ y :: l => maxV (.int k (if x < y then y else x)) l
  | _, _ => none
/-- A value of a type, its parts by their kinds. -/
def exT (t : TypeId) (K : Value → Prop) : Prop := match aggD (und P t) with
  | true => exL (leafs P 100 t) fun vs => K (.agg vs.toArray)
  | false => exS (shpD (und P t)) K
def exTs : List TypeId → (List Value → Prop) → Prop
  | [], K => K []
  | t :: l, K => exT P t fun v => exTs l fun vs => K (v :: vs)
def tupD : TypeDesc → Option (List TypeId)
  | .tuple ts => some ts.toList
  | _ => none
/-- A call's result, its parts by their kinds. -/
def tyRes (t : TypeId) (v : Value) (K : Value → Prop) : Prop := match tupD (und P t) with
  | some [] => K v
  | some (u :: l) => exTs P (u :: l) fun vs => v = .tuple vs.toArray ∧ K (.tuple vs.toArray)
  | none => exT P t fun u => v = u ∧ K u
def callV (E : Chain → Heap → Prop) (f : Value) (args : List Value) (Q : Value → Heap → Prop) (H : Heap) : Prop :=
  match f with
  | .func (.func g) first caps => Does P g (first.toList ++ args ++ caps.toList).toArray H Q E
  | _ => False
def nCall (t : TypeId) (E : Chain → Heap → Prop) (f : Value) (args : Array Value) (K : Value → Heap → Prop) (H : Heap) : Prop :=
  callV P E f args.toList (fun v H => tyRes P t v fun v => K v H) H
def nFill (n : Nat) (place : Nat → Option (Nat × Nat)) (z : List Value) (parts : List (Nat × Value)) (K : Array Value → Prop) : Prop :=
  match Instr.fill place ((Array.range n).map (z.toArray[· % z.toArray.size]!)) parts with
  | some cells => K cells
  | none => False
def byteV (b : UInt8) : Value := .int .u8 b.toNat
def bytesV (s : ByteArray) : List Value := s.data.toList.map byteV
/-- What an append takes: how many elements, and their cells. -/
def srcOf (size : Nat) (x : Value) (H : Heap) (K : Nat → List Value → Prop) : Prop := match x with
  | .slice p' n' _ => ∃ vs : List Value, vs.length = n' * size ∧ H.rdS p' vs ∧ K n' vs
  | .string s => size = 1 ∧ K s.size (bytesV s)
  | _ => False
def app (t : TypeId) (p : Option Addr) (n c : Nat) (x : Value) (H : Heap) (K : Option Addr → Nat → Nat → Heap → Prop) : Prop :=
  tyD P t fun d => match d with
  | .slice e => tyI P e fun i => tyZ P e fun z => srcOf i.size x H fun n' vs =>
        (n + n' ≤ c → wrS p (n * i.size) vs H fun H => K p (n + n') c H) ∧
        (c < n + n' → Builtin.nextslicecap (n + n') c * i.bytes ≤ 281474976710656 ∧ 0 < i.bytes ∧ ∃ us : List Value, us.length = n * i.size ∧ H.rdS p us ∧
          ∀ c', n + n' ≤ c' → nw (.cells (us ++ vs ++ rep (c' - (n + n')) z).toArray e (0, 0)) H fun id H => K (some ⟨id, 0, none⟩) (n + n') c' H)
  | _ => False
def nClear (ts : List TypeId) (args : List Value) (K : Value → Heap → Prop) (H : Heap) : Prop :=
  match ts, args with
  | [t], [.slice p n _] => tyD P t fun d => match d with
    | .slice e => tyI P e fun i => tyZ P e fun z => wrS p 0 (rep n z) H fun H => K (.tuple #[]) H
    | _ => False
  | _, _ => False
/-- What follows an operation of the model. -/
def nxt (K : Value → Heap → Prop) (E : Chain → Heap → Prop) : Next → Heap → Prop
  | .value v, H => K v H
  | .skip, H => K undef H
  | .enter f args, H => Does P f args H K E
  | _, _ => False
def raise (E : Chain → Heap → Prop) : Value → Heap → Prop := fun v H => E [{ v, recovered := false }] H
def vraw (o : Oper) (ρ : Operand → Value) (K : Value → Heap → Prop) (E : Chain → Heap → Prop) (H : Heap) : Prop :=
  vp P (execOp ρ o) (nxt P K E) (raise E) H
end
end Go.V
