/- Contracts of package jobmuxref08 (5): the parser. -/
import Derived.Test.YtaffcoiomggpfaaVR08d
namespace Go.Proofs.Ytaffcoiomggpfaa
open Go.V
attribute [local irreducible] app
set_option linter.constructorNameAsVariable false
set_option linter.unusedVariables false

namespace PS
def up (q : PS) : PS := { q with deep := q.deep + 1 }
def out (q : PS) : PS := { q with at_ := q.at_ + 1, deep := q.deep - 1 }
def atom8 (alt : PS → List Nd × PS) (q : PS) : List Nd × PS :=
  if q.byte = 46 then ([ndI 2 (S4.zero.with1 10).not], q.inc)
  else if q.byte = 94 then ([ndI 8 S4.zero], q.inc)
  else if q.byte = 36 then ([ndI 9 S4.zero], q.inc)
  else if q.byte = 92 then ([ndI 2 q.inc.escape8.1], q.inc.escape8.2.2)
  else if q.byte = 91 then ([ndI 2 q.inc.class8.1], q.inc.class8.2)
  else if q.byte = 93 then ([ndI 2 (S4.zero.with1 q.byte)], q.inc.fail 80)
  else if q.byte = 42 ∨ q.byte = 43 ∨ q.byte = 63 then ([ndI 2 (S4.zero.with1 q.byte)], q.inc.fail 81)
  else if q.byte = 40 then
    if 24 < q.deep + 1 then ([], q.inc.up.fail 84)
    else
      let x := alt q.inc.up
      (x.1, (if x.2.e = 0 ∧ x.2.s.size ≤ x.2.at_ then x.2.fail 83 else x.2).out)
  else ([ndI 2 (S4.zero.with1 q.byte)], q.inc)
def signs8 : Nat → List Nd → PS → List Nd × PS
  | 0, l, q => (l, q)
  | f + 1, l, q =>
    if q.more = true ∧ signOf q.byte ≠ 0 then signs8 f (joinN (signOf q.byte : Nat) l []) q.inc
    else (l, q)
def part8 (alt : PS → List Nd × PS) (q : PS) : List Nd × PS := signs8 (q.s.size + 28) (atom8 alt q).1 (atom8 alt q).2
def catLoop8 (alt : PS → List Nd × PS) : Nat → List Nd → PS → List Nd × PS
  | 0, l, q => (l, q)
  | f + 1, l, q =>
    if q.more = true ∧ q.byte ≠ 124 ∧ q.byte ≠ 41 then
      let x := part8 alt q
      if x.2.e ≠ 0 then ([], x.2)
      else catLoop8 alt f (if l.length = 0 then x.1 else joinN 3 l x.1) x.2
    else (if l.length = 0 then [ndI 1 S4.zero] else l, q)
def cat8 (alt : PS → List Nd × PS) (q : PS) : List Nd × PS := catLoop8 alt (q.s.size + 28) [] q
def altLoop8 (alt : PS → List Nd × PS) : Nat → List Nd → PS → List Nd × PS
  | 0, l, q => (l, q)
  | f + 1, l, q =>
    if q.more = true ∧ q.byte = 124 then
      let x := cat8 alt q.inc
      if x.2.e ≠ 0 then ([], x.2) else altLoop8 alt f (joinN 4 l x.1) x.2
    else (l, q)
def alt8 (alt : PS → List Nd × PS) (q : PS) : List Nd × PS := altLoop8 alt (q.s.size + 28) (cat8 alt q).1 (cat8 alt q).2
def altN8 : Nat → PS → List Nd × PS
  | 0, q => ([], q)
  | n + 1, q => alt8 (altN8 n) q
/-- On the way from q: the result l has at most so many nodes, at least m bytes were taken. -/
structure Wa (q : PS) (x : List Nd × PS) (d : Int) (m : Nat) : Prop where
  mo : Mo q x.2
  at_ : q.at_ + m ≤ x.2.at_
  len : (x.1.length : Int) + 2 * q.at_ ≤ 2 * x.2.at_ + d
theorem atom8_wa {alt : PS → List Nd × PS} (ha : ∀ q, Wa q (alt q) 1 0) (q : PS) : Wa q (atom8 alt q) (-1) 1 := by
  have one : ∀ (x : Nd) (q' : PS), Mo q.inc q' → Wa q ([x], q') (-1) 1 := fun x q' h => by
    have := h.at_
    simp only [PS.inc] at this
    exact ⟨(Mo.inc q).trans h, this, by simp only [List.length_singleton]; omega⟩
  unfold atom8
  split
  · exact one _ _ (Mo.refl _)
  split
  · exact one _ _ (Mo.refl _)
  split
  · exact one _ _ (Mo.refl _)
  split
  · exact one _ _ (escape8_mo _)
  split
  · exact one _ _ (class8_mo _)
  split
  · exact one _ _ (Mo.fail _ _)
  split
  · exact one _ _ (Mo.fail _ _)
  split
  · split
    · have h0 : Mo q.inc q.inc.up := ⟨rfl, Nat.le_refl _, Nat.le_succ _⟩
      have h : Mo q (q.inc.up.fail 84) := ((Mo.inc q).trans h0).trans (Mo.fail _ 84)
      have e : (q.inc.up.fail 84).at_ = q.at_ + 1 := (fail_at _ _).1
      exact ⟨h, by rw [e]; exact Nat.le_refl _, by rw [e]; simp only [List.length_nil]; omega⟩
    · have h := ha q.inc.up
      dsimp only
      generalize alt q.inc.up = X at h
      obtain ⟨h1, h2, h3⟩ := h
      have f1 : ∀ y : PS, (y.out.s = y.s ∧ y.out.at_ = y.at_ + 1 ∧ y.out.deep = y.deep - 1) := fun y => ⟨rfl, rfl, rfl⟩
      have e : ∀ y, (if X.2.e = 0 ∧ X.2.s.size ≤ X.2.at_ then X.2.fail 83 else X.2) = y → y.s = X.2.s ∧ y.at_ = X.2.at_ ∧ y.deep = X.2.deep := fun y hy => by
        rw [← hy]; split
        · have := fail_at X.2 83; exact ⟨this.2.1, this.1, this.2.2⟩
        · exact ⟨rfl, rfl, rfl⟩
      obtain ⟨e1, e2, e3⟩ := e _ rfl
      have g1 := h1.s; have g2 := h1.at_; have g3 := h1.deep
      simp only [PS.up, PS.inc] at g1 g2 g3 h2 h3
      refine ⟨⟨by rw [(f1 _).1, e1, g1], by rw [(f1 _).2.1, e2]; omega, by rw [(f1 _).2.2, e3]; omega⟩, ?_, ?_⟩
      · simp only [(f1 _).2.1, e2]; omega
      · simp only [(f1 _).2.1, e2]; omega
  · exact one _ _ (Mo.refl _)
theorem signs8_wa : ∀ (f : Nat) (l : List Nd) (q : PS), Wa q (signs8 f l q) l.length 0
  | 0, l, q => ⟨Mo.refl _, Nat.le_refl _, by simp only [signs8]; omega⟩
  | f + 1, l, q => by
    unfold signs8
    split
    · have h := signs8_wa f (joinN (signOf q.byte : Nat) l []) q.inc
      have g := h.at_
      have k := h.len
      rw [joinN_length] at k
      have e : q.inc.at_ = q.at_ + 1 := rfl
      rw [e] at g k
      rw [List.length_nil] at k
      exact ⟨(Mo.inc q).trans h.mo, by omega, by push_cast at k; omega⟩
    · exact ⟨Mo.refl _, Nat.le_refl _, by show (l.length : Int) + 2 * q.at_ ≤ 2 * q.at_ + l.length; omega⟩
theorem part8_wa {alt : PS → List Nd × PS} (ha : ∀ q, Wa q (alt q) 1 0) (q : PS) : Wa q (part8 alt q) (-1) 1 := by
  have h1 := atom8_wa ha q
  have h2 := signs8_wa (q.s.size + 28) (atom8 alt q).1 (atom8 alt q).2
  exact ⟨h1.mo.trans h2.mo, by have := h1.at_; have := h2.at_; unfold part8; omega, by have := h1.len; have := h2.len; unfold part8; omega⟩
theorem catLoop8_wa {alt : PS → List Nd × PS} (ha : ∀ q, Wa q (alt q) 1 0) : ∀ (f : Nat) (l : List Nd) (q : PS), Wa q (catLoop8 alt f l q) (if l.length = 0 then 1 else l.length) 0
  | 0, l, q => ⟨Mo.refl _, Nat.le_refl _, by simp only [catLoop8]; split <;> omega⟩
  | f + 1, l, q => by
    unfold catLoop8
    split
    · have h1 := part8_wa ha q
      dsimp only
      generalize part8 alt q = X at h1
      obtain ⟨a1, a2, a3⟩ := h1
      split
      · exact ⟨a1, by simpa using Nat.le_of_succ_le a2, by simp only [List.length_nil]; split <;> omega⟩
      · have h2 := catLoop8_wa ha f (if l.length = 0 then X.1 else joinN 3 l X.1) X.2
        obtain ⟨b1, b2, b3⟩ := h2
        refine ⟨a1.trans b1, by omega, ?_⟩
        by_cases hl : l.length = 0
        · rw [if_pos hl] at b3
          rw [if_pos hl]
          split at b3 <;> omega
        · rw [if_neg hl] at b3
          rw [if_neg hl]
          rw [joinN_length] at b3
          rw [if_neg (by omega)] at b3
          push_cast at b3
          omega
    · refine ⟨Mo.refl _, Nat.le_refl _, ?_⟩
      by_cases hl : l.length = 0
      · rw [if_pos hl, if_pos hl]; simp; omega
      · rw [if_neg hl, if_neg hl]; simp only []; omega
theorem cat8_wa {alt : PS → List Nd × PS} (ha : ∀ q, Wa q (alt q) 1 0) (q : PS) : Wa q (cat8 alt q) 1 0 := catLoop8_wa ha _ [] q
theorem altLoop8_wa {alt : PS → List Nd × PS} (ha : ∀ q, Wa q (alt q) 1 0) : ∀ (f : Nat) (l : List Nd) (q : PS), Wa q (altLoop8 alt f l q) l.length 0
  | 0, l, q => ⟨Mo.refl _, Nat.le_refl _, by simp only [altLoop8]; omega⟩
  | f + 1, l, q => by
    unfold altLoop8
    split
    · have h1 := cat8_wa ha q.inc
      dsimp only
      generalize cat8 alt q.inc = X at h1
      obtain ⟨a1, a2, a3⟩ := h1
      simp only [PS.inc] at a2 a3
      have a1' := (Mo.inc q).trans a1
      split
      · exact ⟨a1', by simp only []; omega, by simp only [List.length_nil]; omega⟩
      · obtain ⟨b1, b2, b3⟩ := altLoop8_wa ha f (joinN 4 l X.1) X.2
        rw [joinN_length] at b3
        push_cast at b3
        exact ⟨a1'.trans b1, by omega, by omega⟩
    · exact ⟨Mo.refl _, Nat.le_refl _, by simp only []; omega⟩
theorem alt8_wa {alt : PS → List Nd × PS} (ha : ∀ q, Wa q (alt q) 1 0) (q : PS) : Wa q (alt8 alt q) 1 0 := by
  have h1 := cat8_wa ha q
  have h2 := altLoop8_wa ha (q.s.size + 28) (cat8 alt q).1 (cat8 alt q).2
  exact ⟨h1.mo.trans h2.mo, by have := h1.at_; have := h2.at_; unfold alt8; omega, by have := h1.len; have := h2.len; unfold alt8; omega⟩
theorem altN8_wa : ∀ (n : Nat) (q : PS), Wa q (altN8 n q) 1 0
  | 0, q => ⟨Mo.refl _, Nat.le_refl _, by simp only [altN8, List.length_nil]; omega⟩
  | n + 1, q => alt8_wa (altN8_wa n) q
end PS
end Go.Proofs.Ytaffcoiomggpfaa
