/- Byte sets: four numbers, as the program has them. -/
import Derived.Test.YtaffcoiomggpfaaVLib
namespace Go.V
set_option linter.constructorNameAsVariable false
set_option linter.unusedVariables false

structure S4 where
  a : Int
  b : Int
  c : Int
  d : Int
  deriving DecidableEq, Inhabited
namespace S4
def cells (s : S4) : Array Value := #[.int .u64 s.a, .int .u64 s.b, .int .u64 s.c, .int .u64 s.d]
def zero : S4 := ⟨0, 0, 0, 0⟩
def get (s : S4) : Nat → Int
  | 0 => s.a
  | 1 => s.b
  | 2 => s.c
  | _ => s.d
def put (s : S4) (k : Nat) (v : Int) : S4 := match k with
  | 0 => { s with a := v }
  | 1 => { s with b := v }
  | 2 => { s with c := v }
  | _ => { s with d := v }
theorem cells_get (s : S4) {k : Nat} (h : k < 4) : s.cells[k]? = some (.int .u64 (s.get k)) := by
  match k, h with
  | 0, _ => rfl
  | 1, _ => rfl
  | 2, _ => rfl
  | 3, _ => rfl
theorem cells_put (s : S4) {k : Nat} (h : k < 4) (v : Int) : over s.cells k [.int .u64 v] = (s.put k v).cells := by
  match k, h with
  | 0, _ => rfl
  | 1, _ => rfl
  | 2, _ => rfl
  | 3, _ => rfl
theorem cells_over (s t : S4) : over s.cells 0 [.int .u64 t.a, .int .u64 t.b, .int .u64 t.c, .int .u64 t.d] = t.cells := rfl
def or64 (x y : Int) : Int := IntKind.wrap .u64 (BitVec.ofInt (IntKind.bits .u64) x ||| BitVec.ofInt (IntKind.bits .u64) y).toNat
def not64 (x : Int) : Int := IntKind.wrap .u64 (BitVec.ofInt (IntKind.bits .u64) (if IntKind.signed .u64 then -1 else IntKind.max .u64) ^^^ BitVec.ofInt (IntKind.bits .u64) x).toNat
def bit (j : Nat) : Int := IntKind.wrap .u64 (1 * 2 ^ min j (IntKind.bits .u64))
def with1 (s : S4) (x : Nat) : S4 := s.put (x / 64) (or64 (s.get (x / 64)) (bit (x % 64)))
def withN (s : S4) (lo : Nat) : Nat → S4
  | 0 => s
  | n + 1 => (withN s lo n).with1 (lo + n)
def with_ (s : S4) (lo hi : Nat) : S4 := withN s lo (hi + 1 - lo)
def not (s : S4) : S4 := ⟨not64 s.a, not64 s.b, not64 s.c, not64 s.d⟩
def or (s t : S4) : S4 := ⟨or64 s.a t.a, or64 s.b t.b, or64 s.c t.c, or64 s.d t.d⟩
end S4
theorem wrap_nat (n : Nat) (h : n ≤ 9223372036854775807) : IntKind.wrap .i64 (n : Int) = (n : Nat) := IntWalk.i64_in _ ⟨by omega, by omega⟩
theorem tdiv_nat (a b : Nat) : Int.tdiv (a : Int) (b : Int) = ((a / b : Nat) : Int) := rfl
theorem tmod_nat (a b : Nat) : Int.tmod (a : Int) (b : Int) = ((a % b : Nat) : Int) := rfl
/-- Four numbers are read. -/
theorem S4.rd {H : Heap} {i : Nat} {s : S4} {t : TypeId} {fr : Nat × Nat} (h : H i = some (.cells s.cells t fr)) : H.rd ⟨i, 0, none⟩ 0 [.int .u64 s.a, .int .u64 s.b, .int .u64 s.c, .int .u64 s.d] :=
  rd_at h _ 0 0 fun j hj => by simp [S4.cells]
def byteAt (s : ByteArray) (i : Nat) : Nat := (s.data.getD i 0).toNat
theorem byteAt_le (s : ByteArray) (i : Nat) : byteAt s i ≤ 255 := by have := (s.data.getD i 0).toNat_lt; unfold byteAt; omega
theorem sAt_nat (s : ByteArray) (i : Nat) : sAt s (i : Int) = (byteAt s i : Nat) := rfl
namespace S4
def notN (s : S4) : Nat → S4
  | 0 => s
  | n + 1 => (notN s n).put n (not64 ((notN s n).get n))
theorem notN_4 (s : S4) : s.notN 4 = s.not := rfl
def orN (s t : S4) : Nat → S4
  | 0 => s
  | n + 1 => (orN s t n).put n (or64 ((orN s t n).get n) (t.get n))
theorem orN_4 (s t : S4) : s.orN t 4 = s.or t := rfl
def bytesN (s : ByteArray) : Nat → S4
  | 0 => zero
  | n + 1 => (bytesN s n).with_ (byteAt s n) (byteAt s n)
end S4
theorem S4.wr {H : Heap} {i : Nat} {s : S4} (t : S4) {ty : TypeId} {K : Heap → Prop} (h : H i = some (.cells s.cells ty (0, 0))) (hk : K (H.set i (.cells t.cells ty (0, 0)))) :
    wr ⟨i, 0, none⟩ [.int .u64 t.a, .int .u64 t.b, .int .u64 t.c, .int .u64 t.d] H K := wr_at h (by simp [S4.cells]) rfl hk
end Go.V
