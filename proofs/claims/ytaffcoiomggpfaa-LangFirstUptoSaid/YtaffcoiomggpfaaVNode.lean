/- Nodes of a pattern, small words. -/
import Derived.Test.YtaffcoiomggpfaaVSet
import Derived.Test.YtaffcoiomggpfaaVPr
namespace Go.Proofs.Ytaffcoiomggpfaa
open Go.V
attribute [local irreducible] app
set_option linter.constructorNameAsVariable false
set_option linter.unusedVariables false

theorem sl23 : SlT Pr 23 7 := .of (by kernel_rfl)

structure Nd where
  k : Int
  l : Int
  r : Int
  a : Int
  b : Int
  c : Int
  d : Int
  deriving DecidableEq, Inhabited
def Nd.cells (x : Nd) : List Value := [.int .i64 x.k, .int .i64 x.l, .int .i64 x.r, .int .u64 x.a, .int .u64 x.b, .int .u64 x.c, .int .u64 x.d]
def flat (l : List Nd) : List Value := l.flatMap Nd.cells
theorem flat_length (l : List Nd) : (flat l).length = l.length * 7 := by
  induction l with
  | nil => rfl
  | cons x l ih => simp [flat, Nd.cells] at ih ⊢; omega
def atOf (b : Nat) (H : Heap) : Nat := match H b with
  | some (Obj.cells c _ _) => match c[1]? with
    | some (Value.int _ n) => n.toNat
    | _ => 0
  | _ => 0
def cs (s : S4) : Obj := .cells s.cells 46 (0, 0)
theorem set_over {H : Heap} {i : Nat} {o o' : Obj} : (H.set i o).set i o' = H.set i o' := Heap.set_set _ _ _ _
def signOf (c : Nat) : Nat := if c = 42 then 5 else if c = 43 then 6 else if c = 63 then 7 else 0
theorem getD_app_left (a b : List Int) (i : Nat) (h : i < a.length) : (a ++ b).getD i 0 = a.getD i 0 := by
  rw [List.getD_eq_getElem?_getD, List.getD_eq_getElem?_getD, List.getElem?_append_left h]
theorem getD_app_right (a b : List Int) (i : Nat) (h : a.length ≤ i) : (a ++ b).getD i 0 = b.getD (i - a.length) 0 := by
  rw [List.getD_eq_getElem?_getD, List.getD_eq_getElem?_getD, List.getElem?_append_right h]
def kids2 (k : Int) : Int := if k = 3 ∨ k = 4 then 2 else if k = 5 ∨ k = 6 ∨ k = 7 then 1 else 0
theorem sl24 : SlT Pr 24 1 := .of (by kernel_rfl)
theorem wr_new {H : Heap} {b o : Nat} {c c' : Array Value} {t : TypeId} {vs : List Value} {K : Heap → Prop} (h : H b = some (.cells c t (0, 0))) (hs : o + vs.length ≤ c.size) (ho : vs.all oneC = true) (hc : over c o vs = c')
    (hk : ∀ H', H' b = some (.cells c' t (0, 0)) → (∀ j, j ≠ b → H' j = H j) → K H') : wr ⟨b, o, none⟩ vs H K :=
  wr_at h hs ho (hk _ (by rw [Heap.set_self, hc]) fun j hj => Heap.set_ne _ _ hj)
theorem ext_but {A B C : Heap} {m : Nat} (he : Ext A B) (hm : A m = none) (hb : ∀ j, j ≠ m → C j = B j) : Ext A C := fun j o hj => by
  rw [hb j (fun e => by rw [e, hm] at hj; cases hj)]; exact he j o hj
theorem flat_snoc (l : List Nd) (x : Nd) : flat l ++ x.cells = flat (l ++ [x]) := by simp [flat]
theorem u8_nat (n : Nat) (h : n ≤ 255) : IntKind.wrap .u8 (n : Int) = (n : Nat) := IntWalk.u8_in _ ⟨by omega, by omega⟩
def _root_.Go.V.S4.has (s : S4) (b : Nat) : Bool :=
  (IntKind.wrap .u64 (BitVec.ofInt (IntKind.bits .u64) (Int.fdiv (s.get (b / 64)) (2 ^ min (b % 64) (IntKind.bits .u64))) &&& BitVec.ofInt (IntKind.bits .u64) 1).toNat : Int) == 1
end Go.Proofs.Ytaffcoiomggpfaa
