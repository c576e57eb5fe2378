/- Only state 1 of an automaton is its match. -/
import Derived.Test.YtaffcoiomggpfaaVMean3
namespace Go.Proofs.Ytaffcoiomggpfaa
open Go.V
attribute [local irreducible] app
set_option linter.unusedVariables false

theorem setL_kinds {n : Nat} {v : Int} {st : List Nd} (h : ∀ x ∈ st, x.k ≠ 5) : ∀ x ∈ setL st n v, x.k ≠ 5 := by
  intro x hx
  obtain ⟨i, hi⟩ := List.mem_iff_getElem?.1 hx
  unfold setL at hi
  rw [List.getElem?_modify] at hi
  cases hs : st[i]? with
  | none => rw [hs] at hi; simp at hi
  | some y =>
    rw [hs] at hi
    have hy := h y (List.mem_iff_getElem?.2 ⟨i, hs⟩)
    simp at hi
    subst hi
    split <;> exact hy
/-- Building puts no match. -/
theorem bd_app5 (l : List Nd) : ∀ (f n out : Nat) (st : List Nd), ∃ new, (bd l f n out st).2 = st ++ new ∧ ∀ x ∈ new, x.k ≠ 5
  | 0, n, out, st => ⟨[], by simp [bd], by simp⟩
  | f + 1, n, out, st => by
    unfold bd
    dsimp only
    split
    · exact ⟨_, rfl, by simp⟩
    split
    · exact ⟨_, rfl, by simp⟩
    split
    · exact ⟨_, rfl, by simp⟩
    split
    · obtain ⟨a, ha, ka⟩ := bd_app5 l f (l.getD n default).r.toNat out st
      obtain ⟨b, hb, kb⟩ := bd_app5 l f (l.getD n default).l.toNat (bd l f (l.getD n default).r.toNat out st).1 (bd l f (l.getD n default).r.toNat out st).2
      exact ⟨a ++ b, by rw [hb, ha, List.append_assoc], fun x hx => (List.mem_append.1 hx).elim (ka x) (kb x)⟩
    split
    · obtain ⟨a, ha, ka⟩ := bd_app5 l f (l.getD n default).l.toNat out st
      obtain ⟨b, hb, kb⟩ := bd_app5 l f (l.getD n default).r.toNat out (bd l f (l.getD n default).l.toNat out st).2
      refine ⟨a ++ (b ++ [⟨2, (bd l f (l.getD n default).l.toNat out st).1, (bd l f (l.getD n default).r.toNat out (bd l f (l.getD n default).l.toNat out st).2).1, 0, 0, 0, 0⟩]), ?_, fun x hx => ?_⟩
      · show _ ++ [_] = _
        rw [hb, ha, List.append_assoc, List.append_assoc]
      · rcases List.mem_append.1 hx with hx | hx
        · exact ka x hx
        · rcases List.mem_append.1 hx with hx | hx
          · exact kb x hx
          · obtain rfl := List.mem_singleton.1 hx; simp
    split
    · obtain ⟨a, ha, ka⟩ := bd_app5 l f (l.getD n default).l.toNat out st
      refine ⟨a ++ [_], by rw [ha, List.append_assoc], fun x hx => ?_⟩
      rcases List.mem_append.1 hx with hx | hx
      · exact ka x hx
      · obtain rfl := List.mem_singleton.1 hx; simp
    split
    · obtain ⟨a, ha, ka⟩ := bd_app5 l f (l.getD n default).l.toNat st.length (st ++ [⟨2, 0, out, 0, 0, 0, 0⟩])
      refine ⟨setL ([⟨2, 0, out, 0, 0, 0, 0⟩] ++ a) 0 ((bd l f (l.getD n default).l.toNat st.length (st ++ [⟨2, 0, out, 0, 0, 0, 0⟩])).1 : Nat), ?_, setL_kinds fun x hx => ?_⟩
      · rw [ha, List.append_assoc]
        exact setL_end st _ _
      · rcases List.mem_append.1 hx with hx | hx
        · obtain rfl := List.mem_singleton.1 hx; simp
        · exact ka x hx
    · exact ⟨[], by simp, by simp⟩
theorem build_five (l : List Nd) : ∀ j, j < (buildOf l).length → (((buildOf l).getD j default).k = 5 ↔ j = 1) := by
  obtain ⟨new, hnew, hk⟩ := bd_app5 l l.length (l.length - 1) 1 [⟨2, 0, 0, 0, 0, 0, 0⟩, ⟨5, 0, 0, 0, 0, 0, 0⟩]
  intro j hj
  unfold buildOf at hj ⊢
  rw [setLR_length] at hj
  rw [setLR_get]
  generalize bd l l.length (l.length - 1) 1 [⟨2, 0, 0, 0, 0, 0, 0⟩, ⟨5, 0, 0, 0, 0, 0, 0⟩] = X at hnew hj
  obtain ⟨first, T⟩ := X
  dsimp only at hnew hj ⊢
  subst hnew
  match j, hj with
  | 0, hj => rw [if_pos ⟨rfl, hj⟩]; simp
  | 1, hj => rw [if_neg (by omega)]; simp
  | j + 2, hj =>
    rw [if_neg (by omega)]
    have : (([⟨2, 0, 0, 0, 0, 0, 0⟩, ⟨5, 0, 0, 0, 0, 0, 0⟩] : List Nd) ++ new).getD (j + 2) default = new.getD j default := by simp [List.getD_eq_getElem?_getD]
    rw [this]
    have hjn : j < new.length := by simp at hj; omega
    have hx : new.getD j default = new[j] := by rw [List.getD_eq_getElem?_getD, List.getElem?_eq_getElem hjn]; rfl
    rw [hx]
    constructor
    · intro h; exact absurd h (hk _ (List.getElem_mem hjn))
    · intro h; omega
end Go.Proofs.Ytaffcoiomggpfaa
