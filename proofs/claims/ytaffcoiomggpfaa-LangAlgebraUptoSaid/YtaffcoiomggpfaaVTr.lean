/- The tree of a list of nodes, and what it means: the patterns of LangAlgebra. -/
import Derived.Test.YtaffcoiomggpfaaVEnds2
import Derived.Test.YtaffcoiomggpfaaVR08f
import Derived.Test.YtaffcoiomggpfaaVPats
namespace Go.Proofs.Ytaffcoiomggpfaa
open Go.V
attribute [local irreducible] app
set_option linter.unusedVariables false

inductive Tr where
  | nil
  | leaf (x : Nd)
  | cat (a b : Tr)
  | alt (a b : Tr)
  | star (a : Tr)
  | plus (a : Tr)
  | opt (a : Tr)
  deriving DecidableEq
def tr (l : List Nd) : Nat → Nat → Tr
  | 0, _ => .nil
  | f + 1, n =>
    let x := l.getD n default
    if x.k = 2 ∨ x.k = 8 ∨ x.k = 9 then .leaf x
    else if x.k = 3 then .cat (tr l f x.l.toNat) (tr l f x.r.toNat)
    else if x.k = 4 then .alt (tr l f x.l.toNat) (tr l f x.r.toNat)
    else if x.k = 7 then .opt (tr l f x.l.toNat)
    else if x.k = 5 then .star (tr l f x.l.toNat)
    else if x.k = 6 then .plus (tr l f x.l.toNat)
    else .nil
def Tr.mean (t : List Nat) : Tr → Nat → Nat → Prop
  | .nil, i, j => j = i
  | .leaf x, i, j => leafR x t i j
  | .cat a b, i, j => ∃ m, a.mean t i m ∧ b.mean t m j
  | .alt a b, i, j => a.mean t i j ∨ b.mean t i j
  | .star a, i, j => Star (a.mean t) i j
  | .plus a, i, j => ∃ m, a.mean t i m ∧ Star (a.mean t) m j
  | .opt a, i, j => a.mean t i j ∨ j = i
theorem mean_tr (t : List Nat) (l : List Nd) : ∀ (f n : Nat), mean t l f n = (tr l f n).mean t
  | 0, n => rfl
  | f + 1, n => by
    funext i j
    unfold mean tr
    dsimp only
    split
    · rfl
    split
    · rw [mean_tr t l f, mean_tr t l f]; rfl
    split
    · rw [mean_tr t l f, mean_tr t l f]; rfl
    split
    · rw [mean_tr t l f]; rfl
    split
    · rw [mean_tr t l f]; rfl
    split
    · rw [mean_tr t l f]; rfl
    · rfl
def treeOf (s : ByteArray) : Tr := tr (rParse s).1 (rParse s).1.length ((rParse s).1.length - 1)
/-- The tree of alternatives, however they stand in parentheses. -/
def Tr.alts : Tr → List Tr
  | .alt a b => a.alts ++ b.alts
  | x => [x]
theorem Tr.alts_mean (t : List Nat) (i j : Nat) : ∀ x : Tr, x.mean t i j ↔ ∃ y ∈ x.alts, y.mean t i j
  | .alt a b => by
    show a.mean t i j ∨ b.mean t i j ↔ ∃ y ∈ a.alts ++ b.alts, y.mean t i j
    rw [Tr.alts_mean t i j a, Tr.alts_mean t i j b]
    constructor
    · rintro (⟨y, h1, h2⟩ | ⟨y, h1, h2⟩)
      · exact ⟨y, List.mem_append.2 (.inl h1), h2⟩
      · exact ⟨y, List.mem_append.2 (.inr h1), h2⟩
    · rintro ⟨y, h1, h2⟩
      rcases List.mem_append.1 h1 with h | h
      · exact .inl ⟨y, h, h2⟩
      · exact .inr ⟨y, h, h2⟩
  | .nil => by simp [Tr.alts]
  | .leaf x => by simp [Tr.alts]
  | .cat a b => by simp [Tr.alts]
  | .star a => by simp [Tr.alts]
  | .plus a => by simp [Tr.alts]
  | .opt a => by simp [Tr.alts]
def pat7 (i : Nat) : ByteArray := pats.getD i default
def lp : ByteArray := ⟨[40].toArray⟩
def rp : ByteArray := ⟨[41].toArray⟩
def altS (p q : ByteArray) : ByteArray := (p ++ ⟨[124].toArray⟩) ++ q
def catS (p q : ByteArray) : ByteArray := (((lp ++ p) ++ ⟨[41, 40].toArray⟩) ++ q) ++ rp
def plusS (p : ByteArray) : ByteArray := (lp ++ p) ++ ⟨[41, 43].toArray⟩
def twiceS (p : ByteArray) : ByteArray := (((lp ++ p) ++ ⟨[41, 40].toArray⟩) ++ p) ++ ⟨[41, 42].toArray⟩
theorem alg_alt : ∀ i : Fin 7, ∀ k : Fin 7, (treeOf (altS (pat7 i) (pat7 k))).alts = (treeOf (pat7 i)).alts ++ (treeOf (pat7 k)).alts := by decide +kernel
theorem alg_cat : ∀ i : Fin 7, ∀ k : Fin 7, treeOf (catS (pat7 i) (pat7 k)) = .cat (treeOf (pat7 i)) (treeOf (pat7 k)) := by decide +kernel
theorem alg_plus : ∀ i : Fin 7, treeOf (plusS (pat7 i)) = .plus (treeOf (pat7 i)) := by decide +kernel
theorem alg_twice : ∀ i : Fin 7, treeOf (twiceS (pat7 i)) = .cat (treeOf (pat7 i)) (.star (treeOf (pat7 i))) := by decide +kernel
theorem alg_valid : ∀ i : Fin 7, ∀ k : Fin 7, validOf (rParse (pat7 i)).1 = true ∧ validOf (rParse (altS (pat7 i) (pat7 k))).1 = true ∧ validOf (rParse (catS (pat7 i) (pat7 k))).1 = true ∧ validOf (rParse (plusS (pat7 i))).1 = true ∧ validOf (rParse (twiceS (pat7 i))).1 = true := by decide +kernel
/-- The places of a pattern by its tree. -/
theorem ends_tree {s : ByteArray} {bs : List UInt8} {i k : Nat} (hv : validOf (rParse s).1 = true) (hi : i ≤ bs.length) : k ∈ endsOf (rParse s).1 bs i ↔ (treeOf s).mean (bs.map UInt8.toNat) i k := by
  rw [(endsOf_spec hv hi).2 k, mean_tr]; rfl
theorem rising_eq : ∀ {a b : List Nat}, a.Pairwise (· < ·) → b.Pairwise (· < ·) → (∀ k, k ∈ a ↔ k ∈ b) → a = b
  | [], [], _, _, _ => rfl
  | [], y :: b, _, _, h => absurd ((h y).2 (by simp)) (by simp)
  | x :: a, [], _, _, h => absurd ((h x).1 (by simp)) (by simp)
  | x :: a, y :: b, ha, hb, h => by
    obtain ⟨a1, a2⟩ := List.pairwise_cons.1 ha
    obtain ⟨b1, b2⟩ := List.pairwise_cons.1 hb
    have e : x = y := by
      have h1 := (h x).1 (by simp)
      have h2 := (h y).2 (by simp)
      rcases List.mem_cons.1 h1 with h1 | h1
      · exact h1
      rcases List.mem_cons.1 h2 with h2 | h2
      · exact h2.symm
      have := a1 y h2; have := b1 x h1; omega
    subst e
    rw [rising_eq a2 b2 fun k => ⟨fun hk => ?_, fun hk => ?_⟩]
    · have := a1 k hk
      rcases List.mem_cons.1 ((h k).1 (List.mem_cons_of_mem _ hk)) with h1 | h1
      · omega
      · exact h1
    · have := b1 k hk
      rcases List.mem_cons.1 ((h k).2 (List.mem_cons_of_mem _ hk)) with h1 | h1
      · omega
      · exact h1
theorem algebra_alt {i k : Nat} (hi : i < 7) (hk : k < 7) {bs : List UInt8} {p n : Nat} (hp : p ≤ bs.length) :
    n ∈ endsOf (rParse (altS (pat7 i) (pat7 k))).1 bs p ↔ n ∈ endsOf (rParse (pat7 i)).1 bs p ∨ n ∈ endsOf (rParse (pat7 k)).1 bs p := by
  rw [ends_tree (alg_valid ⟨i, hi⟩ ⟨k, hk⟩).2.1 hp, ends_tree (alg_valid ⟨i, hi⟩ ⟨k, hk⟩).1 hp, ends_tree (alg_valid ⟨k, hk⟩ ⟨i, hi⟩).1 hp, Tr.alts_mean, alg_alt ⟨i, hi⟩ ⟨k, hk⟩, Tr.alts_mean _ _ _ (treeOf (pat7 i)), Tr.alts_mean _ _ _ (treeOf (pat7 k))]
  constructor
  · rintro ⟨y, h1, h2⟩
    rcases List.mem_append.1 h1 with h | h
    · exact .inl ⟨y, h, h2⟩
    · exact .inr ⟨y, h, h2⟩
  · rintro (⟨y, h1, h2⟩ | ⟨y, h1, h2⟩)
    · exact ⟨y, List.mem_append.2 (.inl h1), h2⟩
    · exact ⟨y, List.mem_append.2 (.inr h1), h2⟩
theorem algebra_cat {i k : Nat} (hi : i < 7) (hk : k < 7) {bs : List UInt8} {p n : Nat} (hp : p ≤ bs.length) (hle : ∀ m ∈ endsOf (rParse (pat7 i)).1 bs p, m ≤ bs.length) :
    n ∈ endsOf (rParse (catS (pat7 i) (pat7 k))).1 bs p ↔ ∃ m ∈ endsOf (rParse (pat7 i)).1 bs p, n ∈ endsOf (rParse (pat7 k)).1 bs m := by
  rw [ends_tree (alg_valid ⟨i, hi⟩ ⟨k, hk⟩).2.2.1 hp, alg_cat ⟨i, hi⟩ ⟨k, hk⟩]
  constructor
  · rintro ⟨m, h1, h2⟩
    have hm := (ends_tree (alg_valid ⟨i, hi⟩ ⟨k, hk⟩).1 hp).2 h1
    exact ⟨m, hm, (ends_tree (alg_valid ⟨k, hk⟩ ⟨i, hi⟩).1 (hle m hm)).2 h2⟩
  · rintro ⟨m, h1, h2⟩
    exact ⟨m, (ends_tree (alg_valid ⟨i, hi⟩ ⟨k, hk⟩).1 hp).1 h1, (ends_tree (alg_valid ⟨k, hk⟩ ⟨i, hi⟩).1 (hle m h1)).1 h2⟩
theorem algebra_plus {i : Nat} (hi : i < 7) {bs : List UInt8} {p : Nat} (hp : p ≤ bs.length) :
    endsOf (rParse (plusS (pat7 i))).1 bs p = endsOf (rParse (twiceS (pat7 i))).1 bs p :=
  have v := alg_valid ⟨i, hi⟩ ⟨i, hi⟩
  rising_eq (endsOf_spec v.2.2.2.1 hp).1 (endsOf_spec v.2.2.2.2 hp).1 fun k => by
    rw [ends_tree v.2.2.2.1 hp, ends_tree v.2.2.2.2 hp, alg_plus ⟨i, hi⟩, alg_twice ⟨i, hi⟩]; rfl
end Go.Proofs.Ytaffcoiomggpfaa
