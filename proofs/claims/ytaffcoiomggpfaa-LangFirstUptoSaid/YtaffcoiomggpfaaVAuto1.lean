/- Contracts of package auto (1): building an automaton. -/
import Derived.Test.YtaffcoiomggpfaaVValid
import Derived.Test.YtaffcoiomggpfaaFauto
namespace Go.Proofs.Ytaffcoiomggpfaa
open Go.V
attribute [local irreducible] app
set_option linter.constructorNameAsVariable false
set_option linter.unusedVariables false

theorem sl50 : SlT Pr 50 7 := .of (by kernel_rfl)
/-- Sizes of the nodes: what Valid found. -/
def Sz (l : List Nd) (g : Nat → Nat) : Prop := ∀ (i : Nat) (x : Nd), l[i]? = some x → 1 ≤ g i ∧ g i ≤ i + 1 ∧
  (kidsOf x.k = 0 ∨ (kidsOf x.k = 1 ∧ 0 ≤ x.l ∧ x.l < i ∧ g i = 1 + g x.l.toNat) ∨ (kidsOf x.k = 2 ∧ 0 ≤ x.l ∧ x.l < i ∧ 0 ≤ x.r ∧ x.r < i ∧ g i = 1 + g x.l.toNat + g x.r.toNat))
def szg (sz : List Int) : Nat → Nat := fun i => (sz.getD i 0).toNat
theorem vsteps_sz : ∀ (l2 l1 : List Nd) (sz sz' : List Int), sz.length = l1.length → VI sz → Sz l1 (szg sz) → vsteps sz l2 = some sz' → Sz (l1 ++ l2) (szg sz')
  | [], l1, sz, sz', hl, hv, hs, h => by
    simp only [vsteps, Option.some.injEq] at h; subst h; simpa using hs
  | x :: l2, l1, sz, sz', hl, hv, hs, h => by
    simp only [vsteps] at h
    split at h
    · cases h
    · rename_i sz1 h1
      obtain ⟨hv1, hl1⟩ := vstep_ok hv h1
      have hstep : ∃ v, sz1 = sz ++ [v] ∧ (kidsOf x.k = 0 ∧ v = 1 ∨ (kidsOf x.k = 1 ∧ 0 ≤ x.l ∧ x.l < l1.length ∧ v = 1 + sz.getD x.l.toNat 0) ∨
          (kidsOf x.k = 2 ∧ 0 ≤ x.l ∧ x.l < l1.length ∧ 0 ≤ x.r ∧ x.r < l1.length ∧ v = 1 + sz.getD x.l.toNat 0 + sz.getD x.r.toNat 0)) := by
        unfold vstep at h1
        dsimp only at h1
        split at h1
        · cases h1
        split at h1
        · rename_i hk
          split at h1
          · cases h1; exact ⟨1, rfl, .inl ⟨hk, rfl⟩⟩
          · cases h1
        split at h1
        · rename_i hk
          split at h1
          · cases h1
          · rename_i hi
            split at h1
            · cases h1
            · rename_i hs1
              split at h1
              · rename_i hlr
                cases h1
                have hb := hv (sz.length - 1) (by omega)
                have e : ((sz.length : Int) - 1).toNat = sz.length - 1 := by omega
                rw [e] at hlr hs1 ⊢
                refine ⟨_, rfl, .inr (.inr ⟨hk, by omega, by omega, by omega, by omega, ?_⟩)⟩
                rw [hlr.1, hlr.2, e]; omega
              · cases h1
        split at h1
        · rename_i hk
          split at h1
          · cases h1
          · rename_i hi
            split at h1
            · rename_i hlr
              cases h1
              refine ⟨_, rfl, .inr (.inl ⟨hk, by omega, by omega, ?_⟩)⟩
              rw [hlr.1]
            · cases h1
        · cases h1
      obtain ⟨v, rfl, hv2⟩ := hstep
      have hold : ∀ i, i < l1.length → szg (sz ++ [v]) i = szg sz i := fun i hi => by
        unfold szg; rw [getD_app_left _ _ _ (by omega)]
      have hnew : szg (sz ++ [v]) l1.length = v.toNat := by
        unfold szg; rw [getD_app_right _ _ _ (by omega), hl]; simp
      have hvb := hv1 l1.length (by simp; omega)
      have hvb' : (sz ++ [v]).getD l1.length 0 = v := by rw [getD_app_right _ _ _ (by omega), hl]; simp
      rw [hvb'] at hvb
      have hs1 : Sz (l1 ++ [x]) (szg (sz ++ [v])) := fun i y hy => by
        by_cases hi : i < l1.length
        · rw [List.getElem?_append_left hi] at hy
          obtain ⟨a1, a2, a3⟩ := hs i y hy
          rw [hold i hi]
          refine ⟨a1, a2, ?_⟩
          rcases a3 with a3 | a3 | a3
          · exact .inl a3
          · exact .inr (.inl ⟨a3.1, a3.2.1, a3.2.2.1, by rw [hold _ (by omega)]; exact a3.2.2.2⟩)
          · exact .inr (.inr ⟨a3.1, a3.2.1, a3.2.2.1, a3.2.2.2.1, a3.2.2.2.2.1, by rw [hold _ (by omega), hold _ (by omega)]; exact a3.2.2.2.2.2⟩)
        · rw [List.getElem?_append_right (by omega)] at hy
          have hi' : i = l1.length := by
            have := (List.getElem?_eq_some_iff.1 hy).1
            simp at this; omega
          subst hi'
          simp at hy; subst hy
          rw [hnew]
          have nn : ∀ j, j < l1.length → 0 ≤ sz.getD j 0 := fun j hj => by have := hv j (by omega); omega
          refine ⟨by omega, by omega, ?_⟩
          rcases hv2 with a | a | a
          · exact .inl a.1
          · refine .inr (.inl ⟨a.1, a.2.1, a.2.2.1, ?_⟩)
            rw [hold _ (by omega), a.2.2.2]
            have := nn x.l.toNat (by omega)
            unfold szg; omega
          · refine .inr (.inr ⟨a.1, a.2.1, a.2.2.1, a.2.2.2.1, a.2.2.2.2.1, ?_⟩)
            rw [hold _ (by omega), hold _ (by omega), a.2.2.2.2.2]
            have := nn x.l.toNat (by omega)
            have := nn x.r.toNat (by omega)
            unfold szg; omega
      have := vsteps_sz l2 (l1 ++ [x]) (sz ++ [v]) sz' (by simp [hl]) hv1 hs1 h
      simpa using this
theorem valid_sz {l : List Nd} (h : validOf l = true) : 0 < l.length ∧ l.length ≤ 256 ∧ ∃ g, Sz l g := by
  unfold validOf at h
  cases l with
  | nil => cases h
  | cons x l =>
    simp only [] at h
    split at h
    · cases h
    · split at h
      · cases h
      · rename_i sz hs
        refine ⟨by simp, by omega, szg sz, ?_⟩
        have := vsteps_sz (x :: l) [] [] sz rfl (fun j hj => by simp at hj) (fun i y hy => by simp at hy) hs
        simpa using this
/-! ### The builder -/
def setL (st : List Nd) (n : Nat) (v : Int) : List Nd := st.modify n fun x => { x with l := v }
def bd (l : List Nd) : Nat → Nat → Nat → List Nd → Nat × List Nd
  | 0, _, out, st => (out, st)
  | f + 1, n, out, st =>
    let x := l.getD n default
    if x.k = 2 then (st.length, st ++ [⟨1, out, 0, x.a, x.b, x.c, x.d⟩])
    else if x.k = 8 then (st.length, st ++ [⟨3, out, 0, 0, 0, 0, 0⟩])
    else if x.k = 9 then (st.length, st ++ [⟨4, out, 0, 0, 0, 0, 0⟩])
    else if x.k = 3 then
      let y := bd l f x.r.toNat out st
      bd l f x.l.toNat y.1 y.2
    else if x.k = 4 then
      let y := bd l f x.l.toNat out st
      let z := bd l f x.r.toNat out y.2
      (z.2.length, z.2 ++ [⟨2, y.1, z.1, 0, 0, 0, 0⟩])
    else if x.k = 7 then
      let y := bd l f x.l.toNat out st
      (y.2.length, y.2 ++ [⟨2, y.1, out, 0, 0, 0, 0⟩])
    else if x.k = 5 ∨ x.k = 6 then
      let y := bd l f x.l.toNat st.length (st ++ [⟨2, 0, out, 0, 0, 0, 0⟩])
      (if x.k = 6 then y.1 else st.length, setL y.2 st.length y.1)
    else (out, st)
/-- All that the states lead to is there. -/
def InR (st : List Nd) : Prop := ∀ x ∈ st, 0 ≤ x.l ∧ x.l < st.length ∧ 0 ≤ x.r ∧ x.r < st.length
theorem InR.snoc {st : List Nd} {x : Nd} (h : InR st) (h1 : 0 ≤ x.l ∧ x.l ≤ st.length) (h2 : 0 ≤ x.r ∧ x.r ≤ st.length) : InR (st ++ [x]) := fun y hy => by
  rw [List.length_append, List.length_singleton]
  rcases List.mem_append.1 hy with h' | h'
  · have := h y h'; push_cast; omega
  · simp at h'; subst h'; push_cast; omega
theorem setL_length (st : List Nd) (n : Nat) (v : Int) : (setL st n v).length = st.length := by simp [setL]
theorem InR.setL {st : List Nd} {n : Nat} {v : Int} (h : InR st) (hv : 0 ≤ v ∧ v < st.length) : InR (setL st n v) := fun y hy => by
  rw [setL_length]
  obtain ⟨i, hi⟩ := List.mem_iff_getElem?.1 hy
  unfold Go.Proofs.Ytaffcoiomggpfaa.setL at hi
  rw [List.getElem?_modify] at hi
  cases hs : st[i]? with
  | none => rw [hs] at hi; simp at hi
  | some x =>
    rw [hs] at hi
    have hx := h x (List.mem_iff_getElem?.2 ⟨i, hs⟩)
    simp at hi
    subst hi
    split
    · exact ⟨hv.1, hv.2, hx.2.2⟩
    · exact hx
theorem bd_ok {l : List Nd} {g : Nat → Nat} (hz : Sz l g) : ∀ (f n out : Nat) (st : List Nd), n < f → n < l.length → out < st.length → InR st →
    (bd l f n out st).1 < (bd l f n out st).2.length ∧ st.length ≤ (bd l f n out st).2.length ∧ (bd l f n out st).2.length ≤ st.length + g n ∧ InR (bd l f n out st).2
  | 0, n, out, st, hf, _, _, _ => by omega
  | f + 1, n, out, st, hf, hn, ho, hi => by
    obtain ⟨x, hx⟩ : ∃ x, l[n]? = some x := ⟨_, List.getElem?_eq_getElem hn⟩
    have hxd : l.getD n default = x := by rw [List.getD_eq_getElem?_getD, hx]; rfl
    obtain ⟨g1, g2, g3⟩ := hz n x hx
    have leaf : ∀ y : Nd, y.l = out ∧ y.r = 0 → (st.length < (st ++ [y]).length ∧ st.length ≤ (st ++ [y]).length ∧ (st ++ [y]).length ≤ st.length + g n ∧ InR (st ++ [y])) := fun y hy => by
      refine ⟨by simp, by simp, by simp; omega, hi.snoc (by omega) (by omega)⟩
    unfold bd
    dsimp only
    rw [hxd]
    split
    · exact leaf _ ⟨rfl, rfl⟩
    split
    · exact leaf _ ⟨rfl, rfl⟩
    split
    · exact leaf _ ⟨rfl, rfl⟩
    have k2 : (x.k = 3 ∨ x.k = 4) → (0 ≤ x.l ∧ x.l < n ∧ 0 ≤ x.r ∧ x.r < n ∧ g n = 1 + g x.l.toNat + g x.r.toNat) := fun h => by
      have : kidsOf x.k = 2 := by unfold kidsOf; rw [if_neg (by omega), if_neg (by omega), if_pos h]
      rcases g3 with g3 | g3 | g3 <;> first | exact g3.2 | omega
    have k1 : (x.k = 5 ∨ x.k = 6 ∨ x.k = 7) → (0 ≤ x.l ∧ x.l < n ∧ g n = 1 + g x.l.toNat) := fun h => by
      have : kidsOf x.k = 1 := by unfold kidsOf; rw [if_neg (by omega), if_pos h]
      rcases g3 with g3 | g3 | g3 <;> first | exact g3.2 | omega
    split
    · obtain ⟨b1, b2, b3, b4, b5⟩ := k2 (.inl ‹_›)
      obtain ⟨c1, c2, c3, c4⟩ := bd_ok hz f x.r.toNat out st (by omega) (by omega) ho hi
      obtain ⟨d1, d2, d3, d4⟩ := bd_ok hz f x.l.toNat _ _ (by omega) (by omega) c1 c4
      exact ⟨d1, by omega, by omega, d4⟩
    split
    · obtain ⟨b1, b2, b3, b4, b5⟩ := k2 (.inr ‹_›)
      obtain ⟨c1, c2, c3, c4⟩ := bd_ok hz f x.l.toNat out st (by omega) (by omega) ho hi
      obtain ⟨d1, d2, d3, d4⟩ := bd_ok hz f x.r.toNat out _ (by omega) (by omega) (by omega) c4
      refine ⟨by simp, by simp; omega, by simp; omega, d4.snoc ⟨by simp only []; omega, by simp only []; omega⟩ ⟨by simp only []; omega, by simp only []; omega⟩⟩
    split
    · obtain ⟨b1, b2, b3⟩ := k1 (by omega)
      obtain ⟨c1, c2, c3, c4⟩ := bd_ok hz f x.l.toNat out st (by omega) (by omega) ho hi
      refine ⟨by simp, by simp; omega, by simp; omega, c4.snoc ⟨by simp only []; omega, by simp only []; omega⟩ ⟨by simp only []; omega, by simp only []; omega⟩⟩
    split
    · obtain ⟨b1, b2, b3⟩ := k1 (by omega)
      have hi1 : InR (st ++ [⟨2, 0, out, 0, 0, 0, 0⟩]) := hi.snoc ⟨by simp only []; omega, by simp only []; omega⟩ ⟨by simp only []; omega, by simp only []; omega⟩
      obtain ⟨c1, c2, c3, c4⟩ := bd_ok hz f x.l.toNat st.length (st ++ [⟨2, 0, out, 0, 0, 0, 0⟩]) (by omega) (by omega) (by simp) hi1
      simp only [List.length_append, List.length_singleton] at c2 c3
      refine ⟨?_, by rw [setL_length]; omega, by rw [setL_length]; omega, c4.setL ⟨by omega, by omega⟩⟩
      rw [setL_length]
      split
      · exact c1
      · omega
    · exact ⟨ho, Nat.le_refl _, Nat.le_add_right _ _, hi⟩
end Go.Proofs.Ytaffcoiomggpfaa
