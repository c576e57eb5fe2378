/- Plain law: a tree is Valid, and has one kid less than nodes. -/
import Derived.Test.YtaffcoiomggpfaaVTree
namespace Go.Proofs.Ytaffcoiomggpfaa
open Go.V
attribute [local irreducible] app
set_option linter.constructorNameAsVariable false
set_option linter.unusedVariables false

theorem set_no {x : Nd} (h : setOk x) : ¬ (x.k ≠ 2 ∧ ¬ (x.a = 0 ∧ x.b = 0 ∧ x.c = 0 ∧ x.d = 0)) := fun g => by
  rcases h with h | h
  · exact g.1 h
  · exact g.2 h
theorem vsteps_cons {sz sz' : List Int} {x : Nd} {l : List Nd} (h : vstep sz x = some sz') : vsteps sz (x :: l) = vsteps sz' l := by
  conv => lhs; unfold vsteps
  rw [h]
theorem tree_vsteps {o : Nat} {t : List Nd} (h : Tree o t) : ∀ (sz : List Int) (rest : List Nd), sz.length = o →
    ∃ zs : List Int, zs.length = t.length ∧ zs.getD (t.length - 1) 0 = t.length ∧ vsteps sz (t ++ rest) = vsteps (sz ++ zs) rest := by
  induction h with
  | @leaf o x hk hl hr hs =>
    intro sz rest ho
    refine ⟨[1], rfl, rfl, ?_⟩
    have : vstep sz x = some (sz ++ [1]) := by
      unfold vstep; simp only []; rw [if_neg (set_no hs), if_pos hk, if_pos ⟨hl, hr⟩]
    simp only [List.singleton_append, vsteps, this]
  | @un o t x ht hk hl hr hs ih =>
    intro sz rest ho
    obtain ⟨zs, h1, h2, h3⟩ := ih sz (x :: rest) ho
    have hp := ht.pos
    refine ⟨zs ++ [1 + (t.length : Int)], by simp [h1], ?_, ?_⟩
    · rw [getD_app_right _ _ _ (by simp; omega)]; simp [h1]; omega
    · have hlen : ((sz ++ zs).length : Int) = ((o + t.length : Nat) : Int) := by simp [ho, h1]
      have hv : vstep (sz ++ zs) x = some (sz ++ zs ++ [1 + (t.length : Int)]) := by
        unfold vstep; simp only []
        rw [if_neg (set_no hs), if_neg (by omega), if_neg (by omega), if_pos hk, if_neg (by omega), if_pos ⟨by omega, hr⟩]
        rw [hlen, getD_app_right _ _ _ (by omega), show (((o + t.length : Nat) : Int) - 1).toNat - sz.length = t.length - 1 by omega, h2]
      rw [List.append_assoc, List.singleton_append, h3]
      simp only [vsteps, hv, List.append_assoc]
  | @bin o t u x ht hu hk hl hr hs ih1 ih2 =>
    intro sz rest ho
    obtain ⟨zs, h1, h2, h3⟩ := ih1 sz (u ++ (x :: rest)) ho
    obtain ⟨ws, g1, g2, g3⟩ := ih2 (sz ++ zs) (x :: rest) (by simp [ho, h1])
    have hp := ht.pos
    have hq := hu.pos
    refine ⟨zs ++ ws ++ [1 + (u.length : Int) + t.length], by simp [h1, g1], ?_, ?_⟩
    · rw [getD_app_right _ _ _ (by simp; omega)]; simp [h1, g1]; omega
    · have hlen : ((sz ++ zs ++ ws).length : Int) = ((o + t.length + u.length : Nat) : Int) := by simp [ho, h1, g1]; omega
      have e1 : (sz ++ zs ++ ws).getD (((o + t.length + u.length : Nat) : Int) - 1).toNat 0 = u.length := by
        rw [getD_app_right _ _ _ (by simp; omega), show (((o + t.length + u.length : Nat) : Int) - 1).toNat - (sz ++ zs).length = u.length - 1 by simp [ho, h1]; omega, g2]
      have e2 : (sz ++ zs ++ ws).getD (((o + t.length + u.length : Nat) : Int) - (1 + (u.length : Int))).toNat 0 = t.length := by
        rw [getD_app_left _ _ _ (by simp; omega), getD_app_right _ _ _ (by omega), show (((o + t.length + u.length : Nat) : Int) - (1 + (u.length : Int))).toNat - sz.length = t.length - 1 by omega, h2]
      have hv : vstep (sz ++ zs ++ ws) x = some (sz ++ zs ++ ws ++ [1 + (u.length : Int) + t.length]) := by
        unfold vstep; simp only []
        rw [if_neg (set_no hs), if_neg (by omega), if_pos hk, if_neg (by omega), hlen, e1, if_neg (by omega), if_pos ⟨by omega, by omega⟩, e2]
      have e : t ++ u ++ [x] ++ rest = t ++ (u ++ (x :: rest)) := by simp
      rw [e, h3, g3, vsteps_cons hv]
      simp only [List.append_assoc]
theorem tree_valid {t : List Nd} (h : Tree 0 t) (hl : t.length ≤ 256) : validOf t = true := by
  obtain ⟨zs, h1, h2, h3⟩ := tree_vsteps h [] [] rfl
  have hp := h.pos
  cases t with
  | nil => simp at hp
  | cons x l =>
    unfold validOf
    rw [if_neg (by omega)]
    rw [List.append_nil, List.nil_append] at h3
    have h3 : vsteps [] (x :: l) = some zs := h3
    simp only [h3, decide_eq_true_eq]
    exact h2
theorem kids2_eq {k : Int} (h : 0 ≤ kidsOf k) : kids2 k = kidsOf k := by
  unfold kidsOf at *; unfold kids2
  repeat' split
  all_goals first | rfl | omega | (exfalso; simp_all; done) | skip
  all_goals (split at h <;> omega)
def kidsSum (l : List Nd) : Int := (l.map fun x => kids2 x.k).sum
theorem tree_kids {o : Nat} {t : List Nd} (h : Tree o t) : kidsSum t = t.length - 1 := by
  induction h with
  | @leaf o x hk hl hr hs =>
    have := kids2_eq (k := x.k) (by omega)
    simp [kidsSum, this, hk]
  | @un o t x ht hk hl hr hs ih =>
    have := kids2_eq (k := x.k) (by omega)
    simp [kidsSum, this, hk] at ih ⊢; omega
  | @bin o t u x ht hu hk hl hr hs ih1 ih2 =>
    have := kids2_eq (k := x.k) (by omega)
    simp [kidsSum, this, hk] at ih1 ih2 ⊢; omega
/-- What the statement RegexSmall says of a parse. -/
theorem rxParse_small {s : ByteArray} {l : List Nd} {e : Int} (h : rxParse s = (l, e)) : (e ≠ 0 → l = []) ∧ (e = 0 → l.length ≤ 2 * s.size + 1 ∧ kidsSum l = l.length - 1 ∧ validOf l = true ∧ l.length ≤ 256) := by
  unfold rxParse at h
  split at h
  · cases h; exact ⟨fun _ => rfl, fun h => absurd h (by decide)⟩
  · simp only [] at h
    have hu := patN_up 25 (parser0 s)
    have hf := patN_fit 25 (parser0 s) (Nat.zero_le _)
    have ha := patN_adds 25 0 (by omega) (by omega) (parser0 s) (Nat.zero_le _) rfl
    revert h hu hf ha
    generalize patN 25 (parser0 s) = X
    intro h hu hf ha
    split at h
    · cases h; exact ⟨fun _ => rfl, fun h => absurd h (by assumption)⟩
    · split at h
      · cases h; exact ⟨fun _ => rfl, fun h => absurd h (by decide)⟩
      · cases h
        rename_i he hlen
        have he : X.2.e = 0 := by simpa using he
        obtain ⟨t, g1, g2, g3⟩ := ha he
        have g1 : X.2.nds = t := by simpa [parser0] using g1
        have g2 : Tree 0 t := g2
        refine ⟨fun h => absurd rfl h, fun _ => ⟨?_, ?_, ?_, by omega⟩⟩
        · have := hu.nds
          have := hu.s
          unfold Fit at hf
          rw [this] at hf
          simp [parser0] at *
          omega
        · rw [g1]; exact tree_kids g2
        · rw [g1]; exact tree_valid g2 (by rw [← g1]; omega)
end Go.Proofs.Ytaffcoiomggpfaa
