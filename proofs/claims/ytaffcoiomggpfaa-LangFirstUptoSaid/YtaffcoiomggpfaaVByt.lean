/- Bytes that are only read. -/
import Derived.Test.YtaffcoiomggpfaaVMill
namespace Go.Proofs.Ytaffcoiomggpfaa
open Go.V
attribute [local irreducible] app
set_option linter.constructorNameAsVariable false
set_option linter.unusedVariables false

/-- Bytes that are only read. -/
def Byt (H : Heap) (p : Option Addr) (n c : Nat) (bs : List UInt8) : Prop := bs.length = n ∧ n ≤ c ∧ H.rdS p (bs.map byteV)
theorem Byt.ext {H H' : Heap} {p : Option Addr} {n c : Nat} {bs : List UInt8} (h : Byt H p n c bs) (he : Ext H H') : Byt H' p n c bs := ⟨h.1, h.2.1, rdS_ext he h.2.2⟩
theorem add_add (a : Addr) (i j : Nat) : (a.add i).add j = a.add (i + j) := by
  unfold Addr.add
  by_cases hi : i = 0
  · subst hi; simp
  · by_cases hj : j = 0
    · subst hj; simp [hi]
    · simp [hi, hj, Nat.add_assoc]
theorem rd_from {H : Heap} {a : Addr} (k : Nat) : ∀ (vs : List Value) (i : Nat), H.rd a (k + i) vs → H.rd (a.add k) i vs
  | [], _, _ => trivial
  | v :: vs, i, h => ⟨by rw [add_add]; exact h.1, rd_from k vs (i + 1) (by have := h.2; rw [Nat.add_assoc] at this; exact this)⟩
theorem rd_skip {H : Heap} {a : Addr} : ∀ (k : Nat) (vs : List Value) (i : Nat), H.rd a i vs → H.rd a (i + k) (vs.drop k)
  | 0, vs, i, h => by simpa using h
  | k + 1, [], i, h => by simp; trivial
  | k + 1, v :: vs, i, h => by
    have := rd_skip k vs (i + 1) h.2
    rw [List.drop_succ_cons, show i + (k + 1) = i + 1 + k by omega]; exact this
/-- The bytes from a place on. -/
theorem Byt.from {H : Heap} {p : Option Addr} {n c : Nat} {bs : List UInt8} (h : Byt H p n c bs) (k : Nat) (hk : k ≤ n) :
    Byt H (if c = k then p else Option.map (fun a => Addr.add a (k * 1)) p) (n - k) (c - k) (bs.drop k) := by
  obtain ⟨h1, h2, h3⟩ := h
  refine ⟨by rw [List.length_drop, h1], by omega, ?_⟩
  split
  · have : bs.drop k = [] := List.drop_eq_nil_of_le (by omega)
    rw [this]
    cases p with
    | none => rfl
    | some a => trivial
  · cases p with
    | none =>
      have : bs.map byteV = [] := h3
      simp at this; subst this
      simp; rfl
    | some a =>
      have h3 : H.rd a 0 (bs.map byteV) := h3
      have := rd_skip k _ 0 h3
      rw [Nat.zero_add, ← List.map_drop] at this
      simp only [Option.map_some, Nat.mul_one]
      exact rd_from k _ 0 (by simpa using this)
/-- What lies beside the machine. -/
def beside (H0 H H' : Heap) : Heap := fun j => match H0 j, H j with
  | none, some _ => none
  | _, _ => H' j
theorem beside_some {H0 H H' : Heap} {j : Nat} (h : H0 j ≠ none) : beside H0 H H' j = H' j := by
  unfold beside
  cases h0 : H0 j with
  | none => exact absurd h0 h
  | some o => rfl
theorem beside_free {H0 H H' : Heap} {j : Nat} (h : H j = none) : beside H0 H H' j = H' j := by
  unfold beside
  cases h0 : H0 j <;> simp [h]
theorem beside_priv {H0 H H' : Heap} {j : Nat} (h0 : H0 j = none) (h : H j ≠ none) : beside H0 H H' j = none := by
  unfold beside
  cases hh : H j with
  | none => exact absurd hh h
  | some o => simp [h0]
theorem beside_ext (H0 H H' : Heap) : Ext (beside H0 H H') H' := fun j o hj => by
  unfold beside at hj
  cases h0 : H0 j with
  | none =>
    cases h : H j with
    | none => simp [h0, h] at hj; exact hj
    | some x => simp [h0, h] at hj
  | some x => simp [h0] at hj; exact hj
end Go.Proofs.Ytaffcoiomggpfaa
