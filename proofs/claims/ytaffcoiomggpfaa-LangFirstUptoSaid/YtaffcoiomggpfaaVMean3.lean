import Derived.Test.YtaffcoiomggpfaaVAuto6
import Derived.Test.YtaffcoiomggpfaaVAuto2
/- What nodes mean, and what the states of an automaton mean: plain laws. -/
namespace Go.Proofs.Ytaffcoiomggpfaa
open Go.V
attribute [local irreducible] app
set_option linter.unusedVariables false

/-- Any number of steps. -/
inductive Star (R : Nat → Nat → Prop) : Nat → Nat → Prop where
  | none (i : Nat) : Star R i i
  | more {i j k : Nat} : R i j → Star R j k → Star R i k
def bolAt (t : List Nat) (i : Nat) : Prop := i = 0 ∨ t[i - 1]? = some 10
def eolAt (t : List Nat) (i : Nat) : Prop := t[i]? = some 10
/-- What a node without kids means. -/
def leafR (x : Nd) (t : List Nat) (i j : Nat) : Prop :=
  if x.k = 2 then j = i + 1 ∧ ∃ b, t[i]? = some b ∧ x.set.has b = true
  else if x.k = 8 then j = i ∧ bolAt t i
  else if x.k = 9 then j = i ∧ eolAt t i
  else j = i
/-- Between which places of a text a node leads. -/
def mean (t : List Nat) (l : List Nd) : Nat → Nat → Nat → Nat → Prop
  | 0, _, i, j => j = i
  | f + 1, n, i, j =>
    let x := l.getD n default
    if x.k = 2 ∨ x.k = 8 ∨ x.k = 9 then leafR x t i j
    else if x.k = 3 then ∃ m, mean t l f x.l.toNat i m ∧ mean t l f x.r.toNat m j
    else if x.k = 4 then mean t l f x.l.toNat i j ∨ mean t l f x.r.toNat i j
    else if x.k = 7 then mean t l f x.l.toNat i j ∨ j = i
    else if x.k = 5 then Star (mean t l f x.l.toNat) i j
    else if x.k = 6 then ∃ m, mean t l f x.l.toNat i m ∧ Star (mean t l f x.l.toNat) m j
    else j = i
/-- A state of the automaton at a place can go on to another one. -/
def Step (st : List Nd) (t : List Nat) (q i q' i' : Nat) : Prop :=
  let x := st.getD q default
  (x.k = 2 ∧ i' = i ∧ (q' = x.l.toNat ∨ q' = x.r.toNat)) ∨ (x.k = 3 ∧ bolAt t i ∧ i' = i ∧ q' = x.l.toNat) ∨ (x.k = 4 ∧ eolAt t i ∧ i' = i ∧ q' = x.l.toNat) ∨
  (x.k = 1 ∧ i' = i + 1 ∧ q' = x.l.toNat ∧ ∃ b, t[i]? = some b ∧ x.set.has b = true)
/-- In so many steps the automaton comes to the goal: state g at place k. -/
inductive Acc (st : List Nd) (t : List Nat) (g k : Nat) : Nat → Nat → Nat → Prop where
  | here : Acc st t g k 0 g k
  | step {n q i q' i' : Nat} : Step st t q i q' i' → Acc st t g k n q' i' → Acc st t g k (n + 1) q i
theorem acc_step {st : List Nd} {t : List Nat} {g k n q i : Nat} (h : Acc st t g k n q i) (hg : q ≠ g) : ∃ m q' i', n = m + 1 ∧ Step st t q i q' i' ∧ Acc st t g k m q' i' := by
  cases h with
  | here => exact absurd rfl hg
  | step h1 h2 => exact ⟨_, _, _, rfl, h1, h2⟩

theorem getD_at {st : List Nd} {i : Nat} {x : Nd} (h : st[i]? = some x) : st.getD i default = x := by rw [List.getD_eq_getElem?_getD, h]; rfl
theorem setL_end : ∀ (st a : List Nd) (v : Int), setL (st ++ a) st.length v = st ++ setL a 0 v
  | [], _, _ => rfl
  | x :: st, a, v => by
    show x :: setL (st ++ a) st.length v = _
    rw [setL_end st a v]; rfl
/-- Building puts states at the end, and changes none that was there. -/
theorem bd_app (l : List Nd) : ∀ (f n out : Nat) (st : List Nd), ∃ new, (bd l f n out st).2 = st ++ new
  | 0, n, out, st => ⟨[], by simp [bd]⟩
  | f + 1, n, out, st => by
    unfold bd
    dsimp only
    split
    · exact ⟨_, rfl⟩
    split
    · exact ⟨_, rfl⟩
    split
    · exact ⟨_, rfl⟩
    split
    · obtain ⟨a, ha⟩ := bd_app l f (l.getD n default).r.toNat out st
      obtain ⟨b, hb⟩ := bd_app l f (l.getD n default).l.toNat (bd l f (l.getD n default).r.toNat out st).1 (bd l f (l.getD n default).r.toNat out st).2
      exact ⟨a ++ b, by rw [hb, ha, List.append_assoc]⟩
    split
    · obtain ⟨a, ha⟩ := bd_app l f (l.getD n default).l.toNat out st
      obtain ⟨b, hb⟩ := bd_app l f (l.getD n default).r.toNat out (bd l f (l.getD n default).l.toNat out st).2
      refine ⟨a ++ (b ++ [⟨2, (bd l f (l.getD n default).l.toNat out st).1, (bd l f (l.getD n default).r.toNat out (bd l f (l.getD n default).l.toNat out st).2).1, 0, 0, 0, 0⟩]), ?_⟩
      show _ ++ [_] = _
      rw [hb, ha, List.append_assoc, List.append_assoc]
    split
    · obtain ⟨a, ha⟩ := bd_app l f (l.getD n default).l.toNat out st
      exact ⟨a ++ [_], by rw [ha, List.append_assoc]⟩
    split
    · obtain ⟨a, ha⟩ := bd_app l f (l.getD n default).l.toNat st.length (st ++ [⟨2, 0, out, 0, 0, 0, 0⟩])
      refine ⟨setL ([⟨2, 0, out, 0, 0, 0, 0⟩] ++ a) 0 ((bd l f (l.getD n default).l.toNat st.length (st ++ [⟨2, 0, out, 0, 0, 0, 0⟩])).1 : Nat), ?_⟩
      rw [ha, List.append_assoc]
      exact setL_end st _ _
    · exact ⟨[], by simp⟩
end Go.Proofs.Ytaffcoiomggpfaa

/- The automaton of a pattern leads where the pattern leads. -/
namespace Go.Proofs.Ytaffcoiomggpfaa
open Go.V
attribute [local irreducible] app
set_option linter.unusedVariables false

/-- The final table has the states that were put. -/
def Has (st st1 : List Nd) (lo : Nat) : Prop := ∀ i, lo ≤ i → i < st1.length → st.getD i default = st1.getD i default
theorem getD_left {a b : List Nd} {i : Nat} (h : i < a.length) : (a ++ b).getD i default = a.getD i default := by
  rw [List.getD_eq_getElem?_getD, List.getD_eq_getElem?_getD, List.getElem?_append_left h]
theorem getD_last (a : List Nd) (x : Nd) : (a ++ [x]).getD a.length default = x := by simp [List.getD_eq_getElem?_getD]
theorem Has.part {st a b : List Nd} {lo : Nat} (h : Has st (a ++ b) lo) : Has st a lo := fun i h1 h2 => by
  rw [h i h1 (by rw [List.length_append]; omega), getD_left h2]
theorem Has.from {st a : List Nd} {lo lo' : Nat} (h : Has st a lo) (hl : lo ≤ lo') : Has st a lo' := fun i h1 h2 => h i (Nat.le_trans hl h1) h2
theorem Has.last {st a : List Nd} {x : Nd} {lo : Nat} (h : Has st (a ++ [x]) lo) (hl : lo ≤ a.length) : st.getD a.length default = x := by
  rw [h a.length hl (by simp), getD_last]
theorem bd_len (l : List Nd) (f n out : Nat) (st : List Nd) : st.length ≤ (bd l f n out st).2.length := by
  obtain ⟨a, ha⟩ := bd_app l f n out st
  rw [ha, List.length_append]; omega
theorem setL_get (st : List Nd) (n : Nat) (v : Int) (i : Nat) : (setL st n v).getD i default = if i = n ∧ i < st.length then { st.getD i default with l := v } else st.getD i default := by
  unfold setL
  rw [List.getD_eq_getElem?_getD, List.getD_eq_getElem?_getD, List.getElem?_modify]
  by_cases h : n = i
  · subst h
    by_cases hl : n < st.length
    · rw [if_pos ⟨rfl, hl⟩, List.getElem?_eq_getElem hl]; simp
    · rw [if_neg (fun h => hl h.2), List.getElem?_eq_none (by omega)]; simp
  · rw [if_neg (fun h' => h h'.1.symm)]; simp [h]
/-- The loop's state in the final table, and the states inside. -/
theorem Has.loop {st st0 y : List Nd} {out first : Nat} {new : List Nd} (hy : y = (st0 ++ [⟨2, 0, out, 0, 0, 0, 0⟩]) ++ new) (h : Has st (setL y st0.length first) st0.length) :
    st.getD st0.length default = ⟨2, first, out, 0, 0, 0, 0⟩ ∧ Has st y (st0 ++ [(⟨2, 0, out, 0, 0, 0, 0⟩ : Nd)]).length := by
  have hl : (setL y st0.length first).length = y.length := by simp [setL]
  have hyl : st0.length < y.length := by rw [hy]; simp
  refine ⟨?_, fun i h1 h2 => ?_⟩
  · rw [h st0.length (Nat.le_refl _) (by omega), setL_get, if_pos ⟨rfl, hyl⟩, hy, getD_left (by simp), getD_last]
  · rw [List.length_append, List.length_singleton] at h1
    rw [h i (by omega) (by omega), setL_get, if_neg (by omega)]
variable {st : List Nd} {t : List Nat} {l : List Nd} {g k : Nat}
/-- Where the node leads, the automaton comes. -/
theorem up : ∀ (f n out : Nat) (st0 : List Nd) (i j : Nat), Has st (bd l f n out st0).2 st0.length → mean t l f n i j → (∃ m, Acc st t g k m out j) → ∃ m, Acc st t g k m (bd l f n out st0).1 i
  | 0, n, out, st0, i, j, _, hm, ha => by
    have hm : j = i := hm
    subst hm; exact ha
  | f + 1, n, out, st0, i, j, hh, hm, ha => by
    unfold mean at hm
    unfold bd at hh ⊢
    dsimp only at hm hh ⊢
    generalize l.getD n default = x at hm hh ⊢
    obtain ⟨m, ha⟩ := ha
    by_cases c2 : x.k = 2
    · rw [if_pos (.inl c2)] at hm
      rw [if_pos c2] at hh ⊢
      unfold leafR at hm
      rw [if_pos c2] at hm
      have hq := hh.last (Nat.le_refl _)
      obtain ⟨rfl, b, hb, hb'⟩ := hm
      refine ⟨m + 1, .step (.inr (.inr (.inr ?_))) ha⟩
      rw [hq]; exact ⟨rfl, rfl, rfl, b, hb, hb'⟩
    rw [if_neg c2] at hh ⊢
    by_cases c8 : x.k = 8
    · rw [if_pos (.inr (.inl c8))] at hm
      rw [if_pos c8] at hh ⊢
      unfold leafR at hm
      rw [if_neg c2, if_pos c8] at hm
      have hq := hh.last (Nat.le_refl _)
      obtain ⟨rfl, hb⟩ := hm
      refine ⟨m + 1, .step (.inr (.inl ?_)) ha⟩
      rw [hq]; exact ⟨rfl, hb, rfl, rfl⟩
    rw [if_neg c8] at hh ⊢
    by_cases c9 : x.k = 9
    · rw [if_pos (.inr (.inr c9))] at hm
      rw [if_pos c9] at hh ⊢
      unfold leafR at hm
      rw [if_neg c2, if_neg c8, if_pos c9] at hm
      have hq := hh.last (Nat.le_refl _)
      obtain ⟨rfl, hb⟩ := hm
      refine ⟨m + 1, .step (.inr (.inr (.inl ?_))) ha⟩
      rw [hq]; exact ⟨rfl, hb, rfl, rfl⟩
    rw [if_neg c9] at hh ⊢
    rw [if_neg (by rintro (h | h | h); · exact c2 h
                   · exact c8 h
                   · exact c9 h)] at hm
    by_cases c3 : x.k = 3
    · rw [if_pos c3] at hm hh ⊢
      obtain ⟨m', h1, h2⟩ := hm
      obtain ⟨nz, hz⟩ := bd_app l f x.l.toNat (bd l f x.r.toNat out st0).1 (bd l f x.r.toNat out st0).2
      have hl := bd_len l f x.r.toNat out st0
      refine up f x.l.toNat _ _ i m' (hh.from hl) h1 (up f x.r.toNat out st0 m' j ?_ h2 ⟨m, ha⟩)
      rw [hz] at hh; exact hh.part
    rw [if_neg c3] at hm hh ⊢
    by_cases c4 : x.k = 4
    · rw [if_pos c4] at hm hh ⊢
      obtain ⟨nz, hz⟩ := bd_app l f x.r.toNat out (bd l f x.l.toNat out st0).2
      have hl := bd_len l f x.l.toNat out st0
      have hl2 := bd_len l f x.r.toNat out (bd l f x.l.toNat out st0).2
      have hq := hh.last (Nat.le_trans hl hl2)
      have h2 := hh.part
      rcases hm with hm | hm
      · obtain ⟨m2, h3⟩ := up f x.l.toNat out st0 i j (by rw [hz] at h2; exact h2.part) hm ⟨m, ha⟩
        refine ⟨m2 + 1, .step (.inl ?_) h3⟩
        rw [hq]; exact ⟨rfl, rfl, .inl rfl⟩
      · obtain ⟨m2, h3⟩ := up f x.r.toNat out _ i j (h2.from hl) hm ⟨m, ha⟩
        refine ⟨m2 + 1, .step (.inl ?_) h3⟩
        rw [hq]; exact ⟨rfl, rfl, .inr rfl⟩
    rw [if_neg c4] at hm hh ⊢
    by_cases c7 : x.k = 7
    · rw [if_pos c7] at hm hh ⊢
      have hl := bd_len l f x.l.toNat out st0
      have hq := hh.last hl
      rcases hm with hm | rfl
      · obtain ⟨m2, h3⟩ := up f x.l.toNat out st0 i j hh.part hm ⟨m, ha⟩
        refine ⟨m2 + 1, .step (.inl ?_) h3⟩
        rw [hq]; exact ⟨rfl, rfl, .inl rfl⟩
      · refine ⟨m + 1, .step (.inl ?_) ha⟩
        rw [hq]; exact ⟨rfl, rfl, .inr rfl⟩
    rw [if_neg c7] at hm hh ⊢
    by_cases c56 : x.k = 5 ∨ x.k = 6
    · rw [if_pos c56] at hh ⊢
      obtain ⟨new, hnew⟩ := bd_app l f x.l.toNat st0.length (st0 ++ [⟨2, 0, out, 0, 0, 0, 0⟩])
      obtain ⟨hq, hin⟩ := Has.loop hnew hh
      have loop : ∀ i j, Star (mean t l f x.l.toNat) i j → (∃ m, Acc st t g k m out j) → ∃ m, Acc st t g k m st0.length i := by
        intro i j hs
        clear hm ha
        induction hs with
        | none i =>
          intro ⟨m, ha⟩
          refine ⟨m + 1, .step (.inl ?_) ha⟩
          rw [hq]; exact ⟨rfl, rfl, .inr rfl⟩
        | more h1 h2 ih =>
          intro ha
          obtain ⟨m2, h3⟩ := up f x.l.toNat st0.length (st0 ++ [⟨2, 0, out, 0, 0, 0, 0⟩]) _ _ hin h1 (ih ha)
          refine ⟨m2 + 1, .step (.inl ?_) h3⟩
          rw [hq]; exact ⟨rfl, rfl, .inl rfl⟩
      by_cases c5 : x.k = 5
      · rw [if_pos c5] at hm
        rw [if_neg (by omega)]
        exact loop i j hm ⟨m, ha⟩
      · rw [if_neg c5, if_pos (by omega)] at hm
        rw [if_pos (by omega)]
        obtain ⟨m', h1, h2⟩ := hm
        exact up f x.l.toNat st0.length _ i m' hin h1 (loop m' j h2 ⟨m, ha⟩)
    · rw [if_neg c56] at hh ⊢
      rw [if_neg (by omega), if_neg (by omega)] at hm
      subst hm; exact ⟨m, ha⟩
theorem step_split {a b : Int} {q i q' i' : Nat} (hq : st.getD q default = ⟨2, a, b, 0, 0, 0, 0⟩) (h : Step st t q i q' i') : i' = i ∧ (q' = a.toNat ∨ q' = b.toNat) := by
  unfold Step at h
  dsimp only at h
  rw [hq] at h
  rcases h with ⟨_, h1, h2⟩ | ⟨h, _⟩ | ⟨h, _⟩ | ⟨h, _⟩
  · exact ⟨h1, h2⟩
  all_goals simp at h
/-- Where the automaton comes to its goal, it leaves the node where the node leads. -/
theorem down : ∀ (f n out : Nat) (st0 : List Nd) (i N : Nat), Has st (bd l f n out st0).2 st0.length → g < st0.length → Acc st t g k N (bd l f n out st0).1 i →
    ∃ j m, m ≤ N ∧ mean t l f n i j ∧ Acc st t g k m out j
  | 0, n, out, st0, i, N, _, _, ha => ⟨i, N, Nat.le_refl _, rfl, ha⟩
  | f + 1, n, out, st0, i, N, hh, hg, ha => by
    unfold mean
    unfold bd at hh ha
    dsimp only at hh ha ⊢
    generalize l.getD n default = x at hh ha ⊢
    by_cases c2 : x.k = 2
    · rw [if_pos c2] at hh ha
      have hq := hh.last (Nat.le_refl _)
      obtain ⟨m, q', i', rfl, hs, ha2⟩ := acc_step ha (by dsimp only; omega)
      unfold Step at hs
      dsimp only at hs
      rw [hq] at hs
      rcases hs with ⟨h, _⟩ | ⟨h, _⟩ | ⟨h, _⟩ | ⟨_, rfl, rfl, b, hb, hb'⟩
      · simp at h
      · simp at h
      · simp at h
      · refine ⟨i + 1, m, by omega, ?_, ha2⟩
        rw [if_pos (.inl c2)]; unfold leafR; rw [if_pos c2]
        exact ⟨rfl, b, hb, hb'⟩
    rw [if_neg c2] at hh ha
    by_cases c8 : x.k = 8
    · rw [if_pos c8] at hh ha
      have hq := hh.last (Nat.le_refl _)
      obtain ⟨m, q', i', rfl, hs, ha2⟩ := acc_step ha (by dsimp only; omega)
      unfold Step at hs
      dsimp only at hs
      rw [hq] at hs
      rcases hs with ⟨h, _⟩ | ⟨_, hb, rfl, rfl⟩ | ⟨h, _⟩ | ⟨h, _⟩
      · simp at h
      · refine ⟨i', m, by omega, ?_, ha2⟩
        rw [if_pos (.inr (.inl c8))]; unfold leafR; rw [if_neg c2, if_pos c8]
        exact ⟨rfl, hb⟩
      · simp at h
      · simp at h
    rw [if_neg c8] at hh ha
    by_cases c9 : x.k = 9
    · rw [if_pos c9] at hh ha
      have hq := hh.last (Nat.le_refl _)
      obtain ⟨m, q', i', rfl, hs, ha2⟩ := acc_step ha (by dsimp only; omega)
      unfold Step at hs
      dsimp only at hs
      rw [hq] at hs
      rcases hs with ⟨h, _⟩ | ⟨h, _⟩ | ⟨_, hb, rfl, rfl⟩ | ⟨h, _⟩
      · simp at h
      · simp at h
      · refine ⟨i', m, by omega, ?_, ha2⟩
        rw [if_pos (.inr (.inr c9))]; unfold leafR; rw [if_neg c2, if_neg c8, if_pos c9]
        exact ⟨rfl, hb⟩
      · simp at h
    rw [if_neg c9] at hh ha
    have hno : ¬ (x.k = 2 ∨ x.k = 8 ∨ x.k = 9) := by
      rintro (h | h | h)
      · exact c2 h
      · exact c8 h
      · exact c9 h
    simp only [if_neg hno]
    by_cases c3 : x.k = 3
    · rw [if_pos c3] at hh ha
      simp only [if_pos c3]
      obtain ⟨nz, hz⟩ := bd_app l f x.l.toNat (bd l f x.r.toNat out st0).1 (bd l f x.r.toNat out st0).2
      have hl := bd_len l f x.r.toNat out st0
      obtain ⟨j1, m1, h1, h2, h3⟩ := down f x.l.toNat _ _ i N (hh.from hl) (by omega) ha
      obtain ⟨j2, m2, h4, h5, h6⟩ := down f x.r.toNat out st0 j1 m1 (by rw [hz] at hh; exact hh.part) hg h3
      exact ⟨j2, m2, by omega, ⟨j1, h2, h5⟩, h6⟩
    rw [if_neg c3] at hh ha
    simp only [if_neg c3]
    by_cases c4 : x.k = 4
    · rw [if_pos c4] at hh ha
      simp only [if_pos c4]
      obtain ⟨nz, hz⟩ := bd_app l f x.r.toNat out (bd l f x.l.toNat out st0).2
      have hl := bd_len l f x.l.toNat out st0
      have hl2 := bd_len l f x.r.toNat out (bd l f x.l.toNat out st0).2
      have hq := hh.last (Nat.le_trans hl hl2)
      have h2 := hh.part
      obtain ⟨m, q', i', rfl, hs, ha2⟩ := acc_step ha (by dsimp only; omega)
      obtain ⟨rfl, hs2⟩ := step_split hq hs
      rcases hs2 with rfl | rfl
      · obtain ⟨j, m2, h3, h4, h5⟩ := down f x.l.toNat out st0 i' m (by rw [hz] at h2; exact h2.part) hg ha2
        exact ⟨j, m2, by omega, .inl h4, h5⟩
      · obtain ⟨j, m2, h3, h4, h5⟩ := down f x.r.toNat out _ i' m (h2.from hl) (by omega) ha2
        exact ⟨j, m2, by omega, .inr h4, h5⟩
    rw [if_neg c4] at hh ha
    simp only [if_neg c4]
    by_cases c7 : x.k = 7
    · rw [if_pos c7] at hh ha
      simp only [if_pos c7]
      have hl := bd_len l f x.l.toNat out st0
      have hq := hh.last hl
      obtain ⟨m, q', i', rfl, hs, ha2⟩ := acc_step ha (by dsimp only; omega)
      obtain ⟨rfl, hs2⟩ := step_split hq hs
      rcases hs2 with rfl | rfl
      · obtain ⟨j, m2, h3, h4, h5⟩ := down f x.l.toNat out st0 i' m hh.part hg ha2
        exact ⟨j, m2, by omega, .inl h4, h5⟩
      · exact ⟨i', m, by omega, .inr rfl, ha2⟩
    rw [if_neg c7] at hh ha
    simp only [if_neg c7]
    by_cases c56 : x.k = 5 ∨ x.k = 6
    · rw [if_pos c56] at hh ha
      obtain ⟨new, hnew⟩ := bd_app l f x.l.toNat st0.length (st0 ++ [⟨2, 0, out, 0, 0, 0, 0⟩])
      obtain ⟨hq, hin⟩ := Has.loop hnew hh
      have loop : ∀ N i, Acc st t g k N st0.length i → ∃ j m, m ≤ N ∧ Star (mean t l f x.l.toNat) i j ∧ Acc st t g k m out j := by
        intro N
        induction N using Nat.strongRecOn with
        | _ N ih =>
          intro i ha
          obtain ⟨m, q', i', rfl, hs, ha2⟩ := acc_step ha (by omega)
          obtain ⟨rfl, hs2⟩ := step_split hq hs
          rcases hs2 with rfl | rfl
          · obtain ⟨j1, m1, h1, h2, h3⟩ := down f x.l.toNat st0.length _ i' m hin (by simp; omega) ha2
            obtain ⟨j2, m2, h4, h5, h6⟩ := ih m1 (by omega) j1 h3
            exact ⟨j2, m2, by omega, .more h2 h5, h6⟩
          · exact ⟨i', m, by omega, .none _, ha2⟩
      by_cases c5 : x.k = 5
      · simp only [if_pos c5]
        rw [if_neg (by omega)] at ha
        exact loop N i ha
      · have c6 : x.k = 6 := by omega
        simp only [if_neg c5, if_pos c6]
        rw [if_pos c6] at ha
        obtain ⟨j1, m1, h1, h2, h3⟩ := down f x.l.toNat st0.length _ i N hin (by simp; omega) ha
        obtain ⟨j2, m2, h4, h5, h6⟩ := loop m1 j1 h3
        exact ⟨j2, m2, by omega, ⟨j1, h2, h5⟩, h6⟩
    · rw [if_neg c56] at hh ha
      have c5 : ¬ x.k = 5 := by omega
      have c6 : ¬ x.k = 6 := by omega
      simp only [if_neg c5, if_neg c6]
      exact ⟨i, N, Nat.le_refl _, rfl, ha⟩
end Go.Proofs.Ytaffcoiomggpfaa

/- The whole automaton of a pattern. -/
namespace Go.Proofs.Ytaffcoiomggpfaa
open Go.V
attribute [local irreducible] app
set_option linter.unusedVariables false

theorem setLR_get (st : List Nd) (v : Int) (i : Nat) : (setLR st v).getD i default = if i = 0 ∧ i < st.length then { st.getD i default with l := v, r := v } else st.getD i default := by
  unfold setLR
  rw [List.getD_eq_getElem?_getD, List.getD_eq_getElem?_getD, List.getElem?_modify]
  by_cases h : 0 = i
  · subst h
    by_cases hl : 0 < st.length
    · rw [if_pos ⟨rfl, hl⟩, List.getElem?_eq_getElem hl]; simp
    · rw [if_neg (fun h => hl h.2), List.getElem?_eq_none (by omega)]; simp
  · rw [if_neg (fun h' => h h'.1.symm)]; simp [h]
/-- The automaton comes from its first state to its match where the pattern leads. -/
theorem acc_build {t : List Nat} (l : List Nd) (i k : Nat) : (∃ m, Acc (buildOf l) t 1 k m 0 i) ↔ mean t l l.length (l.length - 1) i k := by
  obtain ⟨new, hnew⟩ := bd_app l l.length (l.length - 1) 1 [⟨2, 0, 0, 0, 0, 0, 0⟩, ⟨5, 0, 0, 0, 0, 0, 0⟩]
  have hb : buildOf l = setLR (bd l l.length (l.length - 1) 1 [⟨2, 0, 0, 0, 0, 0, 0⟩, ⟨5, 0, 0, 0, 0, 0, 0⟩]).2 (bd l l.length (l.length - 1) 1 [⟨2, 0, 0, 0, 0, 0, 0⟩, ⟨5, 0, 0, 0, 0, 0, 0⟩]).1 := rfl
  have hup := up (st := buildOf l) (t := t) (l := l) (g := 1) (k := k) l.length (l.length - 1) 1 [⟨2, 0, 0, 0, 0, 0, 0⟩, ⟨5, 0, 0, 0, 0, 0, 0⟩] i
  have hdn := fun N => down (st := buildOf l) (t := t) (l := l) (g := 1) (k := k) l.length (l.length - 1) 1 [⟨2, 0, 0, 0, 0, 0, 0⟩, ⟨5, 0, 0, 0, 0, 0, 0⟩] i N
  generalize bd l l.length (l.length - 1) 1 [⟨2, 0, 0, 0, 0, 0, 0⟩, ⟨5, 0, 0, 0, 0, 0, 0⟩] = X at hnew hb hup hdn
  obtain ⟨first, T⟩ := X
  dsimp only at hnew hb hup hdn
  have hlen : 2 ≤ T.length := by rw [hnew]; simp
  have hhas : Has (buildOf l) T ([⟨2, 0, 0, 0, 0, 0, 0⟩, ⟨5, 0, 0, 0, 0, 0, 0⟩] : List Nd).length := fun j h1 h2 => by
    have h1 : 2 ≤ j := h1
    rw [hb, setLR_get, if_neg (by omega)]
  have h0 : (buildOf l).getD 0 default = ⟨2, first, first, 0, 0, 0, 0⟩ := by
    rw [hb, setLR_get, if_pos ⟨rfl, by omega⟩, hnew]; rfl
  have h1 : (buildOf l).getD 1 default = ⟨5, 0, 0, 0, 0, 0, 0⟩ := by
    rw [hb, setLR_get, if_neg (by omega), hnew]; rfl
  constructor
  · rintro ⟨N, ha⟩
    obtain ⟨m, q', i', rfl, hs, ha2⟩ := acc_step ha (by decide)
    obtain ⟨rfl, hs2⟩ := step_split h0 hs
    have hq : q' = first := by rcases hs2 with h | h <;> simpa using h
    subst hq
    obtain ⟨j, m2, _, hm, ha3⟩ := hdn m hhas (by decide) ha2
    cases ha3 with
    | here => exact hm
    | step hs _ =>
      unfold Step at hs
      dsimp only at hs
      rw [h1] at hs
      rcases hs with ⟨h, _⟩ | ⟨h, _⟩ | ⟨h, _⟩ | ⟨h, _⟩ <;> simp at h
  · intro hm
    obtain ⟨m, ha⟩ := hup k hhas hm ⟨0, .here⟩
    refine ⟨m + 1, .step (.inl ?_) ha⟩
    rw [h0]; exact ⟨rfl, rfl, .inl rfl⟩
end Go.Proofs.Ytaffcoiomggpfaa
