import Derived.Test.YtaffcoiomggpfaaVStay
import Derived.Test.YtaffcoiomggpfaaVMean3
/- Spreading reaches what can be reached without a byte. -/
namespace Go.Proofs.Ytaffcoiomggpfaa
open Go.V
attribute [local irreducible] app
set_option linter.unusedVariables false

inductive Rch (st : List Nd) (bol eol : Bool) : Nat → Nat → Prop where
  | here (j : Nat) : Rch st bol eol j j
  | more {j s k : Nat} : s ∈ goes st bol eol j → Rch st bol eol s k → Rch st bol eol j k
theorem Rch.snoc {st : List Nd} {bol eol : Bool} {j s k : Nat} (h : Rch st bol eol j s) (hk : k ∈ goes st bol eol s) : Rch st bol eol j k := by
  induction h with
  | here j => exact .more hk (.here _)
  | more h1 _ ih => exact .more h1 (ih hk)
theorem spreadL_from {st : List Nd} (bol eol : Bool) {P : Nat → Prop} (hP : ∀ j, P j → ∀ s ∈ goes st bol eol j, P s) : ∀ (f i : Nat) (m : Bool) (l : List Nat), (∀ j ∈ l, P j) → ∀ j ∈ (spreadL st bol eol f i m l).1, P j
  | 0, i, m, l, hl, j, hj => hl j hj
  | f + 1, i, m, l, hl, j, hj => by
    rw [spreadL_step] at hj
    split at hj
    · rename_i hlt
      refine spreadL_from bol eol hP f (i + 1) _ _ (fun k hk => ?_) j hj
      rcases ((foldl_addL _ l).2 k).1 hk with hk | hk
      · exact hl k hk
      · refine hP _ (hl _ ?_) k hk
        rw [List.getD_eq_getElem?_getD, List.getElem?_eq_getElem hlt]
        exact List.getElem_mem hlt
    · exact hl j hj
theorem spread_mem {st : List Nd} (hr : InR st) (bol eol : Bool) {l : List Nat} (ho : OkL st.length l) (k : Nat) : k ∈ (spread st bol eol l).1 ↔ ∃ j ∈ l, Rch st bol eol j k := by
  have h1 := spreadL_spec hr bol eol (st.length + 1) 0 false l ho (by omega) (by omega) (by simp) (by simp)
  change (∃ r, (spread st bol eol l).1 = l ++ r) ∧ (∀ j ∈ (spread st bol eol l).1, ∀ s ∈ goes st bol eol j, s ∈ (spread st bol eol l).1) ∧ (spread st bol eol l).2 = (spread st bol eol l).1.any (isM st) at h1
  obtain ⟨⟨r, e⟩, hc, _⟩ := h1
  constructor
  · exact fun hk => spreadL_from bol eol (P := fun k => ∃ j ∈ l, Rch st bol eol j k) (fun j ⟨j0, h0, hr0⟩ s hs => ⟨j0, h0, hr0.snoc hs⟩) _ _ _ _ (fun j hj => ⟨j, hj, .here j⟩) k hk
  · rintro ⟨j, hj, hrch⟩
    have hj' : j ∈ (spread st bol eol l).1 := by rw [e]; exact List.mem_append_left _ hj
    clear hj
    induction hrch with
    | here j => exact hj'
    | more h1 _ ih => exact ih (hc _ hj' _ h1)
theorem spread_match {st : List Nd} (hr : InR st) (bol eol : Bool) {l : List Nat} (ho : OkL st.length l) : (spread st bol eol l).2 = (spread st bol eol l).1.any (isM st) := by
  have h1 := spreadL_spec hr bol eol (st.length + 1) 0 false l ho (by omega) (by omega) (by simp) (by simp)
  exact h1.2.2
end Go.Proofs.Ytaffcoiomggpfaa

/- What a set of states accepts. -/
namespace Go.Proofs.Ytaffcoiomggpfaa
open Go.V
attribute [local irreducible] app
set_option linter.unusedVariables false

/-- Some state of the set comes to the match at place k. -/
def Can (st : List Nd) (t : List Nat) (k i : Nat) (S : List Nat) : Prop := ∃ q ∈ S, ∃ m, Acc st t 1 k m q i
theorem goes_step {st : List Nd} {t : List Nat} {bol eol : Bool} {i j s : Nat} (hb : bol = true → bolAt t i) (he : eol = true → eolAt t i) (h : s ∈ goes st bol eol j) : Step st t j i s i := by
  unfold goes at h
  unfold Step
  dsimp only
  split at h
  · rename_i h2
    simp only [List.mem_cons, List.not_mem_nil, or_false] at h
    exact .inl ⟨h2, rfl, h.symm⟩
  · split at h
    · rename_i h3
      simp only [List.mem_cons, List.not_mem_nil, or_false] at h
      rcases h3 with ⟨h3, hb'⟩ | ⟨h3, he'⟩
      · exact .inr (.inl ⟨h3, hb hb', rfl, h⟩)
      · exact .inr (.inr (.inl ⟨h3, he he', rfl, h⟩))
    · simp at h
/-- Spreading does not change what a set accepts. -/
theorem can_spread {st : List Nd} {t : List Nat} {bol eol : Bool} {i k : Nat} {S : List Nat} (hr : InR st) (ho : OkL st.length S) (hb : bol = true → bolAt t i) (he : eol = true → eolAt t i) :
    Can st t k i (spread st bol eol S).1 ↔ Can st t k i S := by
  constructor
  · rintro ⟨q, hq, m, ha⟩
    obtain ⟨j, hj, hrch⟩ := (spread_mem hr bol eol ho q).1 hq
    refine ⟨j, hj, ?_⟩
    clear hj hq
    induction hrch with
    | here j => exact ⟨m, ha⟩
    | more h1 _ ih =>
      obtain ⟨m2, h2⟩ := ih ha
      exact ⟨m2 + 1, .step (goes_step hb he h1) h2⟩
  · rintro ⟨q, hq, m, ha⟩
    exact ⟨q, (spread_mem hr bol eol ho q).2 ⟨q, hq, .here q⟩, m, ha⟩
theorem mem_readL {st : List Nd} {b : Nat} {k : Nat} (l : List Nat) : k ∈ readL st b l ↔ ∃ q ∈ l, (st.getD q default).k = 1 ∧ (st.getD q default).set.has b = true ∧ k = (st.getD q default).l.toNat := by
  have key : ∀ (l acc : List Nat), k ∈ l.foldl (fun acc i => if (st.getD i default).k = 1 ∧ (st.getD i default).set.has b = true then addL acc (st.getD i default).l.toNat else acc) acc ↔
      k ∈ acc ∨ ∃ q ∈ l, (st.getD q default).k = 1 ∧ (st.getD q default).set.has b = true ∧ k = (st.getD q default).l.toNat := by
    intro l
    induction l with
    | nil => intro acc; simp
    | cons x l ih =>
      intro acc
      rw [List.foldl_cons, ih]
      by_cases hx : (st.getD x default).k = 1 ∧ (st.getD x default).set.has b = true
      · rw [if_pos hx, mem_addL]
        constructor
        · rintro ((h | h) | ⟨q, hq, h⟩)
          · exact .inl h
          · exact .inr ⟨x, by simp, hx.1, hx.2, h⟩
          · exact .inr ⟨q, by simp [hq], h⟩
        · rintro (h | ⟨q, hq, h⟩)
          · exact .inl (.inl h)
          · rcases List.mem_cons.1 hq with rfl | hq
            · exact .inl (.inr h.2.2)
            · exact .inr ⟨q, hq, h⟩
      · rw [if_neg hx]
        constructor
        · rintro (h | ⟨q, hq, h⟩)
          · exact .inl h
          · exact .inr ⟨q, by simp [hq], h⟩
        · rintro (h | ⟨q, hq, h⟩)
          · exact .inl h
          · rcases List.mem_cons.1 hq with rfl | hq
            · exact absurd ⟨h.1, h.2.1⟩ hx
            · exact .inr ⟨q, hq, h⟩
  have := key l []
  unfold readL
  rw [this]
  simp
/-- A closed set is in the match, or a state of it reads the byte. -/
theorem can_read {st : List Nd} {t : List Nat} {bol eol : Bool} {i k : Nat} {S : List Nat} (hc : ∀ j ∈ S, ∀ s ∈ goes st bol eol j, s ∈ S) (hb : bolAt t i → bol = true) (he : eolAt t i → eol = true) :
    Can st t k i S ↔ (1 ∈ S ∧ k = i) ∨ ∃ c, t[i]? = some c ∧ Can st t k (i + 1) (readL st c S) := by
  constructor
  · rintro ⟨q, hq, m, ha⟩
    induction m generalizing q with
    | zero =>
      cases ha with
      | here => exact .inl ⟨hq, rfl⟩
    | succ m ih =>
      cases ha with
      | step hs ha =>
        rename_i q' i'
        unfold Step at hs
        dsimp only at hs
        rcases hs with ⟨h2, rfl, h⟩ | ⟨h3, hb', rfl, rfl⟩ | ⟨h4, he', rfl, rfl⟩ | ⟨h1, rfl, rfl, c, hc', hh⟩
        · refine ih q' (hc q hq _ ?_) ha
          unfold goes
          rw [if_pos h2]
          simp only [List.mem_cons, List.not_mem_nil, or_false]
          exact h.symm
        · refine ih _ (hc q hq _ ?_) ha
          unfold goes
          rw [if_neg (by omega), if_pos (.inl ⟨h3, hb hb'⟩)]
          simp
        · refine ih _ (hc q hq _ ?_) ha
          unfold goes
          rw [if_neg (by omega), if_pos (.inr ⟨h4, he he'⟩)]
          simp
        · exact .inr ⟨c, hc', _, (mem_readL S).2 ⟨q, hq, h1, hh, rfl⟩, m, ha⟩
  · rintro (⟨h, rfl⟩ | ⟨c, hc', q', hq', m, ha⟩)
    · exact ⟨1, h, 0, .here⟩
    · obtain ⟨q, hq, h1, hh, rfl⟩ := (mem_readL S).1 hq'
      exact ⟨q, hq, m + 1, .step (.inr (.inr (.inr ⟨h1, rfl, rfl, c, hc', hh⟩))) ha⟩
end Go.Proofs.Ytaffcoiomggpfaa
