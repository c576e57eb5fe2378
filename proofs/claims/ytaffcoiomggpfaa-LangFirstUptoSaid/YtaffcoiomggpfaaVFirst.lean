import Derived.Test.YtaffcoiomggpfaaVEnds
import Derived.Test.YtaffcoiomggpfaaVStayL
import Derived.Test.YtaffcoiomggpfaaVKind5
/- Searching a text with the states of an automaton: sets of states as predicates. -/
namespace Go.Proofs.Ytaffcoiomggpfaa
open Go.V
attribute [local irreducible] app
set_option linter.unusedVariables false

theorem step_le {st : List Nd} {t : List Nat} {q i q' i' : Nat} (h : Step st t q i q' i') : i ≤ i' := by
  unfold Step at h; dsimp only at h
  rcases h with ⟨_, rfl, _⟩ | ⟨_, _, rfl, _⟩ | ⟨_, _, rfl, _⟩ | ⟨_, rfl, _⟩ <;> omega
theorem acc_le {st : List Nd} {t : List Nat} {g k m q i : Nat} (h : Acc st t g k m q i) : i ≤ k := by
  induction h with
  | here => omega
  | step h1 _ ih => have := step_le h1; omega
/-- A step looks at the bytes up to its place only. -/
theorem step_agree {st : List Nd} {t u : List Nat} {q i q' i' : Nat} (h : Step st t q i q' i') (hu : ∀ p, p ≤ i → u[p]? = t[p]?) : Step st u q i q' i' := by
  unfold Step at h ⊢; dsimp only at h ⊢
  rcases h with h | ⟨h1, h2, h3⟩ | ⟨h1, h2, h3⟩ | ⟨h1, h2, h3, h4⟩
  · exact .inl h
  · refine .inr (.inl ⟨h1, ?_, h3⟩)
    unfold bolAt at h2 ⊢
    rw [hu _ (by omega)]; exact h2
  · refine .inr (.inr (.inl ⟨h1, ?_, h3⟩))
    unfold eolAt at h2 ⊢
    rw [hu _ (by omega)]; exact h2
  · refine .inr (.inr (.inr ⟨h1, h2, h3, ?_⟩))
    rw [hu _ (by omega)]; exact h4
theorem acc_agree {st : List Nd} {t u : List Nat} {g k m q i : Nat} (h : Acc st t g k m q i) (hu : ∀ p, p ≤ k → u[p]? = t[p]?) : Acc st u g k m q i := by
  induction h with
  | here => exact .here
  | step h1 h2 ih =>
    have := step_le h1; have := acc_le h2
    exact .step (step_agree h1 fun p hp => hu p (by omega)) ih
def Cl (st : List Nd) (bol eol : Bool) (P : Nat → Prop) (q : Nat) : Prop := ∃ j, P j ∧ Rch st bol eol j q
def Rd (st : List Nd) (c : Nat) (P : Nat → Prop) (q' : Nat) : Prop := ∃ q, P q ∧ (st.getD q default).k = 1 ∧ (st.getD q default).set.has c = true ∧ q' = (st.getD q default).l.toNat
def CanP (st : List Nd) (t : List Nat) (g k i : Nat) (P : Nat → Prop) : Prop := ∃ q, P q ∧ ∃ m, Acc st t g k m q i
theorem Cl.closed {st : List Nd} {bol eol : Bool} {P : Nat → Prop} {j s : Nat} (h : Cl st bol eol P j) (hs : s ∈ goes st bol eol j) : Cl st bol eol P s := by
  obtain ⟨a, h1, h2⟩ := h
  exact ⟨a, h1, h2.snoc hs⟩
theorem Rch.trans {st : List Nd} {bol eol : Bool} {a b c : Nat} (h : Rch st bol eol a b) (h2 : Rch st bol eol b c) : Rch st bol eol a c := by
  induction h with
  | here j => exact h2
  | more h1 _ ih => exact .more h1 (ih h2)
theorem goes_mono {st : List Nd} {bol : Bool} {e e' : Bool} (h : e = true → e' = true) {j s : Nat} (hs : s ∈ goes st bol e j) : s ∈ goes st bol e' j := by
  unfold goes at hs ⊢
  by_cases h2 : (st.getD j default).k = 2
  · rw [if_pos h2] at hs ⊢; exact hs
  · rw [if_neg h2] at hs ⊢
    by_cases h3 : ((st.getD j default).k = 3 ∧ bol = true) ∨ ((st.getD j default).k = 4 ∧ e = true)
    · rw [if_pos h3] at hs
      rw [if_pos (h3.imp id fun h4 => ⟨h4.1, h h4.2⟩)]; exact hs
    · rw [if_neg h3] at hs; simp at hs
theorem Rch.mono {st : List Nd} {bol : Bool} {e e' : Bool} (h : e = true → e' = true) {a b : Nat} (hr : Rch st bol e a b) : Rch st bol e' a b := by
  induction hr with
  | here j => exact .here j
  | more h1 _ ih => exact .more (goes_mono h h1) ih
theorem Cl.twice {st : List Nd} {bol : Bool} {e e' : Bool} (h : e = true → e' = true) {P : Nat → Prop} {q : Nat} : Cl st bol e' (Cl st bol e P) q ↔ Cl st bol e' P q :=
  ⟨fun ⟨a, ⟨b, h1, h2⟩, h3⟩ => ⟨b, h1, (h2.mono h).trans h3⟩, fun ⟨b, h1, h2⟩ => ⟨b, ⟨b, h1, .here _⟩, h2⟩⟩
theorem canP_cl {st : List Nd} {t : List Nat} {g : Nat} {bol eol : Bool} {i k : Nat} {P : Nat → Prop} (hb : bol = true → bolAt t i) (he : eol = true → eolAt t i) :
    CanP st t g k i (Cl st bol eol P) ↔ CanP st t g k i P := by
  constructor
  · rintro ⟨q, ⟨j, hj, hrch⟩, m, ha⟩
    refine ⟨j, hj, ?_⟩
    clear hj
    induction hrch with
    | here j => exact ⟨m, ha⟩
    | more h1 _ ih =>
      obtain ⟨m2, h2⟩ := ih ha
      exact ⟨m2 + 1, .step (goes_step hb he h1) h2⟩
  · rintro ⟨q, hq, m, ha⟩
    exact ⟨q, ⟨q, hq, .here q⟩, m, ha⟩
theorem canP_read {st : List Nd} {t : List Nat} {g : Nat} {bol eol : Bool} {i k : Nat} {P : Nat → Prop} (hc : ∀ j, P j → ∀ s ∈ goes st bol eol j, P s) (hb : bolAt t i → bol = true) (he : eolAt t i → eol = true) :
    CanP st t g k i P ↔ (P g ∧ k = i) ∨ ∃ c, t[i]? = some c ∧ CanP st t g k (i + 1) (Rd st c P) := by
  constructor
  · rintro ⟨q, hq, m, ha⟩
    induction m generalizing q with
    | zero =>
      cases ha with
      | here => exact .inl ⟨hq, rfl⟩
    | succ m ih =>
      cases ha with
      | step hs ha =>
        rename_i q' i'
        unfold Step at hs
        dsimp only at hs
        rcases hs with ⟨h2, rfl, h⟩ | ⟨h3, hb', rfl, rfl⟩ | ⟨h4, he', rfl, rfl⟩ | ⟨h1, rfl, rfl, c, hc', hh⟩
        · refine ih q' (hc q hq _ ?_) ha
          unfold goes
          rw [if_pos h2]
          simp only [List.mem_cons, List.not_mem_nil, or_false]
          exact h.symm
        · refine ih _ (hc q hq _ ?_) ha
          unfold goes
          rw [if_neg (by omega), if_pos (.inl ⟨h3, hb hb'⟩)]
          simp
        · refine ih _ (hc q hq _ ?_) ha
          unfold goes
          rw [if_neg (by omega), if_pos (.inr ⟨h4, he he'⟩)]
          simp
        · exact .inr ⟨c, hc', _, ⟨q, hq, h1, hh, rfl⟩, m, ha⟩
  · rintro (⟨h, rfl⟩ | ⟨c, hc', q', hq', m, ha⟩)
    · exact ⟨g, h, 0, .here⟩
    · obtain ⟨q, hq, h1, hh, rfl⟩ := hq'
      exact ⟨q, hq, m + 1, .step (.inr (.inr (.inr ⟨h1, rfl, rfl, c, hc', hh⟩))) ha⟩
/-- The first bytes of a text match. -/
def Mt (st : List Nd) (g : Nat) (t : List Nat) (n : Nat) : Prop := ∃ j, j ≤ n ∧ ∃ k m, Acc st (t.take n) g k m 0 j
/-- A set of states at a place is what the starts up to there lead to, whatever follows. -/
def Trk (st : List Nd) (g : Nat) (t : List Nat) (i : Nat) (P : Nat → Prop) : Prop :=
  ∀ u : List Nat, (∀ p, p < i → u[p]? = t[p]?) → ∀ k, i ≤ k → (CanP st u g k i P ↔ ∃ j, j ≤ i ∧ ∃ m, Acc st u g k m 0 j)
/-- No match ends before a place, if only the bytes before it are known. -/
def Old (st : List Nd) (g : Nat) (t : List Nat) (i : Nat) : Prop := ∀ j k m, k < i → ¬ Acc st t g k m 0 j
theorem trk_0 {st : List Nd} {g : Nat} {t : List Nat} {P : Nat → Prop} (h : ∀ q, P q ↔ q = 0) : Trk st g t 0 P := fun u _ k _ =>
  ⟨fun ⟨q, hq, m, ha⟩ => ⟨0, by omega, m, by rw [(h q).1 hq] at ha; exact ha⟩, fun ⟨j, hj, m, ha⟩ => ⟨0, (h 0).2 rfl, m, by rw [show j = 0 by omega] at ha; exact ha⟩⟩
theorem trk_congr {st : List Nd} {g : Nat} {t : List Nat} {i : Nat} {P P' : Nat → Prop} (h : Trk st g t i P) (e : ∀ q, P' q ↔ P q) : Trk st g t i P' := by
  have : P' = P := funext fun q => propext (e q)
  rw [this]; exact h
theorem bol_agree {t u : List Nat} {i : Nat} (h : ∀ p, p < i → u[p]? = t[p]?) : bolAt u i ↔ bolAt t i := by
  unfold bolAt
  by_cases h0 : i = 0
  · simp [h0]
  · rw [h _ (by omega)]
theorem trk_cl {st : List Nd} {g : Nat} {t : List Nat} {i : Nat} {bol : Bool} {P : Nat → Prop} (h : Trk st g t i P) (hb : bol = true ↔ bolAt t i) : Trk st g t i (Cl st bol false P) := fun u hu k hk => by
  rw [canP_cl (fun hh => (bol_agree hu).2 (hb.1 hh)) (fun hh => absurd hh (by decide))]
  exact h u hu k hk
theorem trk_step {st : List Nd} {g : Nat} {t : List Nat} {i c : Nat} {bol eol : Bool} {P P' : Nat → Prop} (h : Trk st g t i P) (hb : bol = true ↔ bolAt t i) (hc : t[i]? = some c) (he : eol = true ↔ c = 10)
    (hP' : ∀ q, P' q ↔ Rd st c (Cl st bol eol P) q ∨ q = 0) : Trk st g t (i + 1) P' := fun u hu k hk => by
  have hui : u[i]? = some c := by rw [hu i (by omega), hc]
  have hu' : ∀ p, p < i → u[p]? = t[p]? := fun p hp => hu p (by omega)
  have heol : eol = true ↔ eolAt u i := by unfold eolAt; rw [hui, he]; simp
  have hbol : bol = true ↔ bolAt u i := hb.trans (bol_agree hu').symm
  have h1 := h u hu' k (by omega)
  rw [← canP_cl (bol := bol) (eol := eol) hbol.1 heol.1, canP_read (fun j hj s hs => hj.closed hs) hbol.2 heol.2] at h1
  constructor
  · rintro ⟨q, hq, m, ha⟩
    rcases (hP' q).1 hq with hr | rfl
    · obtain ⟨j, hj, h2⟩ := h1.1 (.inr ⟨c, hui, q, hr, m, ha⟩)
      exact ⟨j, by omega, h2⟩
    · exact ⟨i + 1, by omega, m, ha⟩
  · rintro ⟨j, hj, m, ha⟩
    by_cases hji : j = i + 1
    · subst hji; exact ⟨0, (hP' 0).2 (.inr rfl), m, ha⟩
    · rcases h1.2 ⟨j, by omega, m, ha⟩ with ⟨_, rfl⟩ | ⟨c', hc', q, hq, h2⟩
      · omega
      · rw [hui] at hc'; cases hc'
        exact ⟨q, (hP' q).2 (.inl hq), h2⟩
theorem take_get {t : List Nat} {n p : Nat} : (t.take n)[p]? = if p < n then t[p]? else none := List.getElem?_take
theorem old_0 {st : List Nd} {g : Nat} {t : List Nat} : Old st g t 0 := fun j k m hk => by omega
/-- A match here. -/
theorem hit_here {st : List Nd} {g : Nat} {t : List Nat} {i : Nat} {bol : Bool} {P : Nat → Prop} (h : Trk st g t i P) (hb : bol = true ↔ bolAt t i) (hg : Cl st bol false P g) : Mt st g t i := by
  have hu : ∀ p, p < i → (t.take i)[p]? = t[p]? := fun p hp => by rw [take_get, if_pos hp]
  obtain ⟨j, hj, m, ha⟩ := ((trk_cl h hb) (t.take i) hu i (Nat.le_refl _)).1 ⟨g, hg, 0, .here⟩
  exact ⟨j, hj, i, m, ha⟩
/-- A match at the end of a line. -/
theorem hit_eol {st : List Nd} {g : Nat} {t : List Nat} {i : Nat} {bol eol : Bool} {P : Nat → Prop} (h : Trk st g t i P) (hb : bol = true ↔ bolAt t i) (hc : t[i]? = some 10) (hg : Cl st bol eol P g) : Mt st g t (i + 1) := by
  have hu : ∀ p, p < i → (t.take (i + 1))[p]? = t[p]? := fun p hp => by rw [take_get, if_pos (by omega)]
  have he : eolAt (t.take (i + 1)) i := by unfold eolAt; rw [take_get, if_pos (by omega), hc]
  have h1 : CanP st (t.take (i + 1)) g i i P := (canP_cl (bol := bol) (eol := eol) (fun hh => (bol_agree hu).2 (hb.1 hh)) (fun _ => he)).1 ⟨g, hg, 0, .here⟩
  obtain ⟨j, hj, m, ha⟩ := (h _ hu i (Nat.le_refl _)).1 h1
  exact ⟨j, by omega, i, m, ha⟩
theorem miss_at {st : List Nd} {g : Nat} {t u : List Nat} {i : Nat} {bol eol : Bool} {P : Nat → Prop} (h : Trk st g t i P) (hb : bol = true ↔ bolAt t i) (hu : ∀ p, p < i → u[p]? = t[p]?) (he : eolAt u i → eol = true)
    (he2 : eol = true → eolAt u i) (hg : ¬ Cl st bol eol P g) : ∀ j m, ¬ Acc st u g i m 0 j := fun j m ha => by
  have hji := acc_le ha
  have hbol : bol = true ↔ bolAt u i := hb.trans (bol_agree hu).symm
  have h1 := (h u hu i (Nat.le_refl _)).2 ⟨j, hji, m, ha⟩
  rw [← canP_cl (bol := bol) (eol := eol) hbol.1 he2, canP_read (fun j hj s hs => hj.closed hs) hbol.2 he] at h1
  rcases h1 with ⟨h2, _⟩ | ⟨c, _, q, _, m2, ha2⟩
  · exact hg h2
  · have := acc_le ha2; omega
theorem miss_here {st : List Nd} {g : Nat} {t : List Nat} {i : Nat} {bol : Bool} {P : Nat → Prop} (ho : Old st g t i) (h : Trk st g t i P) (hb : bol = true ↔ bolAt t i) (hg : ¬ Cl st bol false P g) : ¬ Mt st g t i := by
  rintro ⟨j, hj, k, m, ha⟩
  have hu : ∀ p, p < i → (t.take i)[p]? = t[p]? := fun p hp => by rw [take_get, if_pos hp]
  have hne : ¬ eolAt (t.take i) i := fun h => by unfold eolAt at h; rw [take_get, if_neg (by omega)] at h; cases h
  by_cases hk : k < i
  · exact ho j k m hk (acc_agree ha fun p hp => by rw [take_get, if_pos (by omega)])
  · have hki : k ≤ i ∨ i < k := by omega
    rcases hki with hki | hki
    · obtain rfl : k = i := by omega
      exact miss_at h hb hu (fun h => absurd h hne) (fun h => absurd h (by decide)) hg j m ha
    · have h1 := (h _ hu k (by omega)).2 ⟨j, hj, m, ha⟩
      have hbol : bol = true ↔ bolAt (t.take i) i := hb.trans (bol_agree hu).symm
      rw [← canP_cl (bol := bol) (eol := false) hbol.1 (fun h => absurd h (by decide)), canP_read (fun j hj s hs => hj.closed hs) hbol.2 (fun h => absurd h hne)] at h1
      rcases h1 with ⟨_, rfl⟩ | ⟨c, hc, _⟩
      · omega
      · rw [take_get, if_neg (by omega)] at hc; cases hc
theorem old_step {st : List Nd} {g : Nat} {t : List Nat} {i c : Nat} {bol eol : Bool} {P : Nat → Prop} (ho : Old st g t i) (h : Trk st g t i P) (hb : bol = true ↔ bolAt t i) (hc : t[i]? = some c) (he : eol = true ↔ c = 10) (hg : ¬ Cl st bol eol P g) : Old st g t (i + 1) := fun j k m hk ha => by
  by_cases hki : k < i
  · exact ho j k m hki ha
  · obtain rfl : k = i := by omega
    have heol : eol = true ↔ eolAt t k := by unfold eolAt; rw [hc, he]; simp
    exact miss_at h hb (fun p _ => rfl) heol.2 heol.1 hg j m ha
end Go.Proofs.Ytaffcoiomggpfaa

/- firstOf: the least number of bytes that match. -/
namespace Go.Proofs.Ytaffcoiomggpfaa
open Go.V
attribute [local irreducible] app
set_option linter.unusedVariables false

theorem feed_cons (st : List Nd) (anch : Bool) (c : Nat) (r : List Nat) (M : Ma) : feed st anch (c :: r) M = if 0 ≤ (M.matched st).found then M.matched st
    else if c = 10 ∧ (spread st (M.matched st).bol true (M.matched st).now).2 = true then { M.matched st with now := (spread st (M.matched st).bol true (M.matched st).now).1, found := (M.matched st).at_ + 1 }
    else feed st anch r (stepM st anch M c) := by
  unfold feed
  rw [feedL_cons]
  split
  · rw [matched_stop ‹_›]
  · split
    · rw [matched_stop (by dsimp only; omega)]
    · rfl
theorem cl_spread {st : List Nd} (hr : InR st) (bol eol : Bool) {l : List Nat} (ho : OkL st.length l) (q : Nat) : q ∈ (spread st bol eol l).1 ↔ Cl st bol eol (· ∈ l) q := spread_mem hr bol eol ho q
theorem rd_readL {st : List Nd} {c : Nat} (l : List Nat) (q : Nat) : q ∈ readL st c l ↔ Rd st c (· ∈ l) q := mem_readL l
theorem Rd.congr {st : List Nd} {c : Nat} {P P' : Nat → Prop} (h : ∀ q, P q ↔ P' q) (q : Nat) : Rd st c P q ↔ Rd st c P' q := by
  rw [show P = P' from funext fun q => propext (h q)]
theorem Cl.congr {st : List Nd} {bol eol : Bool} {P P' : Nat → Prop} (h : ∀ q, P q ↔ P' q) (q : Nat) : Cl st bol eol P q ↔ Cl st bol eol P' q := by
  rw [show P = P' from funext fun q => propext (h q)]
/-- What a run finds from a place on: nothing, or the least number of bytes that match. -/
def Least (M : Nat → Prop) (i n : Nat) (F F0 : Int) : Prop := (F = F0 ∧ ∀ k, i ≤ k → k ≤ n → ¬ M k) ∨ ∃ k : Nat, i ≤ k ∧ k ≤ n ∧ F = (k : Nat) ∧ M k ∧ ∀ k', i ≤ k' → k' < k → ¬ M k'
theorem feed_spec {st : List Nd} {t : List Nat} (hr : InR st) (hpos : 0 < st.length) (h5 : ∀ j, j < st.length → ((st.getD j default).k = 5 ↔ j = 1)) : ∀ (r : List Nat) (i : Nat) (M : Ma), OkL st.length M.now → M.found < 0 → M.at_ = i →
    (M.bol = true ↔ bolAt t i) → t.drop i = r → i ≤ t.length → Trk st 1 t i (· ∈ M.now) → Old st 1 t i → Least (Mt st 1 t) i t.length (feed st false r M).found M.found := by
  intro r
  induction r with
  | nil =>
    intro i M ho hf ha hb ht hi hT hO
    have hlen : i = t.length := by
      have := congrArg List.length ht; simp at this; omega
    have hm : (M.matched st).found = if (spread st M.bol false M.now).2 = true then (M.at_ : Int) else M.found := by unfold Ma.matched; rw [if_pos hf]
    show Least _ i t.length (M.matched st).found M.found
    rw [hm]
    have h1 := spread_one hr h5 M.bol false ho
    by_cases hs : (spread st M.bol false M.now).2 = true
    · rw [if_pos hs]
      refine .inr ⟨i, by omega, by omega, by rw [ha], ?_, fun k' h1 h2 => by omega⟩
      exact hit_here hT hb ((cl_spread hr _ _ ho 1).1 (h1.1 hs))
    · rw [if_neg hs]
      refine .inl ⟨rfl, fun k h2 h3 => ?_⟩
      obtain rfl : k = i := by omega
      exact miss_here hO hT hb (fun h => hs (h1.2 ((cl_spread hr _ _ ho 1).2 h)))
  | cons c r ih =>
    intro i M ho hf ha hb ht hi hT hO
    have hc : t[i]? = some c := by
      have := congrArg (·[0]?) ht
      simpa using this
    have hlt : i < t.length := by
      rcases Nat.lt_or_ge i t.length with h | h
      · exact h
      · rw [List.getElem?_eq_none h] at hc; cases hc
    have hdr : t.drop (i + 1) = r := by
      have := congrArg List.tail ht
      simpa using this
    have h1 := spread_one hr h5 M.bol false ho
    have hm : (M.matched st).found = if (spread st M.bol false M.now).2 = true then (M.at_ : Int) else M.found := by unfold Ma.matched; rw [if_pos hf]
    have hmn : (M.matched st).now = (spread st M.bol false M.now).1 := by unfold Ma.matched; rw [if_pos hf]
    have hmb := (M.matched_at st).2
    have hma := (M.matched_at st).1
    have hok := matched_ok hr ho
    rw [feed_cons]
    by_cases hs : (spread st M.bol false M.now).2 = true
    · rw [if_pos hs] at hm
      rw [if_pos (by omega), hm]
      refine .inr ⟨i, by omega, by omega, by rw [ha], ?_, fun k' h1 h2 => by omega⟩
      exact hit_here hT hb ((cl_spread hr _ _ ho 1).1 (h1.1 hs))
    rw [if_neg hs] at hm
    rw [if_neg (by omega)]
    have hmiss : ¬ Mt st 1 t i := miss_here hO hT hb (fun h => hs (h1.2 ((cl_spread hr _ _ ho 1).2 h)))
    have hc2 : ∀ (e : Bool) q, q ∈ (spread st (M.matched st).bol e (M.matched st).now).1 ↔ Cl st M.bol e (· ∈ M.now) q := fun e q => by
      rw [cl_spread hr _ _ hok, hmb, hmn, Cl.congr (cl_spread hr M.bol false ho), Cl.twice (fun h => absurd h (by decide))]
    by_cases h10 : c = 10 ∧ (spread st (M.matched st).bol true (M.matched st).now).2 = true
    · rw [if_pos h10]
      refine .inr ⟨i + 1, by omega, by omega, ?_, ?_, fun k' h1 h2 => ?_⟩
      · show ((M.matched st).at_ : Int) + 1 = _
        rw [hma, ha]; omega
      · exact hit_eol (eol := true) hT hb (by rw [hc, h10.1]) ((hc2 true 1).1 ((spread_one hr h5 _ true hok).1 h10.2))
      · obtain rfl : k' = i := by omega
        exact hmiss
    rw [if_neg h10]
    obtain ⟨s1, s2, s3⟩ := stepM_facts hr hpos false c ho
    have hcl : ∀ q, q ∈ (if c = 10 then { M.matched st with now := (spread st (M.matched st).bol true (M.matched st).now).1 } else M.matched st : Ma).now ↔ Cl st M.bol (decide (c = 10)) (· ∈ M.now) q := fun q => by
      by_cases e : c = 10
      · rw [if_pos e, decide_eq_true e]; exact hc2 true q
      · rw [if_neg e, decide_eq_false e, hmn]; exact cl_spread hr _ _ ho q
    have hclo : OkL st.length (if c = 10 then { M.matched st with now := (spread st (M.matched st).bol true (M.matched st).now).1 } else M.matched st : Ma).now := by
      split
      · exact spread_ok hr _ _ hok
      · exact hok
    have hng : ¬ Cl st M.bol (decide (c = 10)) (· ∈ M.now) 1 := fun h => by
      by_cases e : c = 10
      · rw [decide_eq_true e] at h
        exact h10 ⟨e, (spread_one hr h5 _ true hok).2 ((hc2 true 1).2 h)⟩
      · rw [decide_eq_false e] at h
        exact hs (h1.2 ((cl_spread hr _ _ ho 1).2 h))
    have hbol : (stepM st false M c).bol = true ↔ bolAt t (i + 1) := by
      show decide (c = 10) = true ↔ _
      unfold bolAt
      rw [decide_eq_true_iff, show i + 1 - 1 = i from rfl, hc]
      constructor
      · intro h; exact .inr (by rw [h])
      · rintro (h | h)
        · omega
        · exact Option.some.inj h
    have hT' : Trk st 1 t (i + 1) (· ∈ (stepM st false M c).now) := by
      have hrd := readL_ok hr c _ hclo.2 [] (OkL.nil _)
      change OkL st.length (readL st c _) at hrd
      have hadd := hrd.add hpos
      have t1 : Trk st 1 t (i + 1) (· ∈ addL (readL st c (if c = 10 then { M.matched st with now := (spread st (M.matched st).bol true (M.matched st).now).1 } else M.matched st : Ma).now) 0) :=
        trk_step (bol := M.bol) (eol := decide (c = 10)) hT hb hc (by simp) fun q => by
          rw [mem_addL, rd_readL, Rd.congr hcl]
      refine trk_congr (trk_cl t1 hbol) fun q => ?_
      show q ∈ (spread st (decide (c = 10)) false (addL (readL st c _) 0)).1 ↔ _
      exact cl_spread hr _ _ hadd q
    have hO' : Old st 1 t (i + 1) := old_step hO hT hb hc (by simp) hng
    have := ih (i + 1) (stepM st false M c) s1 (by rw [s3, hm]; exact hf) (by rw [s2, ha]) hbol hdr (by omega) hT' hO'
    rw [s3, hm] at this
    rcases this with ⟨e, hn⟩ | ⟨k, k1, k2, k3, k4, k5⟩
    · refine .inl ⟨e, fun k h1 h2 => ?_⟩
      by_cases hk : k = i
      · subst hk; exact hmiss
      · exact hn k (by omega) h2
    · refine .inr ⟨k, by omega, k2, k3, k4, fun k' h1 h2 => ?_⟩
      by_cases hk : k' = i
      · subst hk; exact hmiss
      · exact k5 k' (by omega) h2
/-- The first n bytes match: between some places of them the pattern leads. -/
def Mn (l : List Nd) (t : List Nat) (n : Nat) : Prop := ∃ j, j ≤ n ∧ ∃ k, mean (t.take n) l l.length (l.length - 1) j k
theorem mt_mn (l : List Nd) (t : List Nat) (n : Nat) : Mt (buildOf l) 1 t n ↔ Mn l t n := by
  unfold Mt Mn
  constructor
  · rintro ⟨j, hj, k, m, ha⟩
    exact ⟨j, hj, k, (acc_build l j k).1 ⟨m, ha⟩⟩
  · rintro ⟨j, hj, k, hm⟩
    obtain ⟨m, ha⟩ := (acc_build l j k).2 hm
    exact ⟨j, hj, k, m, ha⟩
theorem feed_start {st : List Nd} {t : List Nat} (hr : InR st) (hpos : 0 < st.length) (h5 : ∀ j, j < st.length → ((st.getD j default).k = 5 ↔ j = 1)) :
    Least (Mt st 1 t) 0 t.length (feed st false t (startM st true)).found (-1) := by
  have h0 : OkL st.length [0] := ⟨by simp, fun j hj => by obtain rfl := List.mem_singleton.1 hj; exact hpos⟩
  have hb : ((startM st true).bol = true ↔ bolAt t 0) := ⟨fun _ => .inl rfl, fun _ => rfl⟩
  refine feed_spec hr hpos h5 t 0 (startM st true) (start_ok hr hpos true) (by show (-1 : Int) < 0; omega) rfl hb (by simp) (by omega) ?_ old_0
  refine trk_congr (trk_cl (trk_0 (P := (· ∈ [0])) fun q => List.mem_singleton) hb) fun q => ?_
  exact cl_spread hr _ _ h0 q
theorem firstOf_spec {l : List Nd} (bs : List UInt8) (hv : validOf l = true) : Least (Mn l (bs.map UInt8.toNat)) 0 bs.length (firstOf l bs) (-1) := by
  obtain ⟨hr, hlen, _, _⟩ := build_facts hv
  have := feed_start (t := bs.map UInt8.toNat) hr (by omega) (build_five l)
  rw [firstOf_feed hv, show Mn l (bs.map UInt8.toNat) = Mt (buildOf l) 1 (bs.map UInt8.toNat) from funext fun n => propext (mt_mn l _ n).symm]
  rw [List.length_map] at this
  exact this
theorem Least.unique {M : Nat → Prop} {i n : Nat} {F F' F0 : Int} (h : Least M i n F F0) (h' : Least M i n F' F0) : F = F' := by
  rcases h with ⟨e, hn⟩ | ⟨k, k1, k2, k3, k4, k5⟩ <;> rcases h' with ⟨e', hn'⟩ | ⟨k', k1', k2', k3', k4', k5'⟩
  · rw [e, e']
  · exact absurd k4' (hn k' k1' k2')
  · exact absurd k4 (hn' k k1 k2)
  · rw [k3, k3']
    rcases Nat.lt_trichotomy k k' with h | h | h
    · exact absurd k4 (k5' k k1 h)
    · rw [h]
    · exact absurd k4' (k5 k' k1' h)
end Go.Proofs.Ytaffcoiomggpfaa
