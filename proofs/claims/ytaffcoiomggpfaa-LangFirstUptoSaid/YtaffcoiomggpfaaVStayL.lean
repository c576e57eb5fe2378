/- Plain laws of lang: LangStays, LangLines. -/
import Derived.Test.YtaffcoiomggpfaaVStay
import Derived.Test.YtaffcoiomggpfaaVLang
namespace Go.Proofs.Ytaffcoiomggpfaa
open Go.V
set_option linter.constructorNameAsVariable false
set_option linter.unusedVariables false

theorem firstOf_feed {l : List Nd} {bs : List UInt8} (hv : validOf l = true) : firstOf l bs = (feed (buildOf l) false (bs.map UInt8.toNat) (startM (buildOf l) true)).found := by
  obtain ⟨b1, b2, b3, b4⟩ := build_facts hv
  unfold firstOf
  rw [if_pos hv]
  unfold feed
  rw [matched_again b1 (feedL_ok b1 (by omega) false _ _ (start_ok b1 (by omega) true))]
/-- The statement LangStays, plainly. -/
theorem firstOf_stays (l : List Nd) (t u : List UInt8) : -1 ≤ firstOf l t ∧ firstOf l t ≤ t.length ∧ (0 ≤ firstOf l t → firstOf l (t ++ u) = firstOf l t ∧ firstOf l (t.take (firstOf l t).toNat) = firstOf l t) := by
  by_cases hv : validOf l = true
  · obtain ⟨b1, b2, b3, b4⟩ := build_facts hv
    have hok := start_ok b1 (by omega) true
    have hff := feed_first b1 (by omega) false (t.map UInt8.toNat) (startM (buildOf l) true) hok (by show (-1 : Int) < 0; omega)
    rw [firstOf_feed hv]
    rcases hff with h | ⟨k, k1, k2, k3⟩
    · rw [h]
      exact ⟨by show (-1 : Int) ≤ -1; omega, by show (-1 : Int) ≤ _; omega, fun h0 => absurd h0 (by show ¬ (0 : Int) ≤ -1; omega)⟩
    · have e0 : (startM (buildOf l) true).at_ + k = k := by show 0 + k = k; omega
      rw [e0] at k1 k3
      simp at k2
      refine ⟨by omega, by omega, fun h0 => ⟨?_, ?_⟩⟩
      · rw [firstOf_feed hv, List.map_append]
        exact feed_stays b1 (by omega) false _ hok h0
      · rw [firstOf_feed hv, k1]
        have : (t.take ((k : Int)).toNat).map UInt8.toNat = (t.map UInt8.toNat).take k := by rw [Int.toNat_natCast, List.map_take]
        rw [this, k3]
  · have : ∀ x, firstOf l x = -1 := fun x => if_neg hv
    rw [this]
    exact ⟨by omega, by omega, fun h => by omega⟩
/-- The statement LangLines, plainly. -/
theorem endsL_shift (st : List Nd) (d : Nat) : ∀ (r : List UInt8) (i : Nat) (M : Ma), endsL st r (i + d) M = (endsL st r i M).map (· + d)
  | [], i, M => by simp only [endsL]; split <;> simp
  | c :: r, i, M => by
    simp only [endsL]
    rw [show i + d + 1 = i + 1 + d by omega, endsL_shift st d r (i + 1)]
    split <;> simp
theorem endsOf_lines (l : List Nd) (b t : List UInt8) : endsOf l ((b ++ [10]) ++ t) (b ++ [10]).length = (endsOf l t 0).map (· + (b ++ [10]).length) := by
  unfold endsOf
  by_cases hv : validOf l = true
  · rw [if_pos hv, if_pos hv]
    rw [List.drop_left' rfl, List.drop_zero]
    have h1 : decide ((b ++ [10]).length = 0 ∨ ((b ++ [10]) ++ t)[(b ++ [10]).length - 1]? = some 10) = true := by
      apply decide_eq_true
      right
      simp
    have h2 : decide ((0 : Nat) = 0 ∨ t[0 - 1]? = some 10) = true := decide_eq_true (.inl rfl)
    rw [h1, h2]
    have := endsL_shift (buildOf l) (b ++ [10]).length t 0 (startM (buildOf l) true)
    rw [Nat.zero_add] at this
    exact this
  · rw [if_neg hv, if_neg hv]; rfl
end Go.Proofs.Ytaffcoiomggpfaa
