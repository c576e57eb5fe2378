/- Plain laws of a matcher that is fed in pieces. -/
import Derived.Test.YtaffcoiomggpfaaVStay
namespace Go.Proofs.Ytaffcoiomggpfaa
open Go.V
set_option linter.constructorNameAsVariable false
set_option linter.unusedVariables false

def playL (st : List Nd) : List (List UInt8) → Nat → Ma → Int × Int × Int
  | [], i, M => (i, -1, 0)
  | b :: r, i, M => if 0 ≤ (feed st false (b.map UInt8.toNat) M).found then (i, ((feed st false (b.map UInt8.toNat) M).matched st).found, 0) else playL st r (i + 1) (feed st false (b.map UInt8.toNat) M)
/-- What a machine of a pattern's states says of pieces. -/
def playSt (st : List Nd) (L : List (List UInt8)) : Int × Int × Int :=
  if 0 ≤ ((startM st true).matched st).found then (-1, 0, 0) else playL st L 0 ((startM st true).matched st)
theorem feedL_at (st : List Nd) (anch : Bool) : ∀ (t : List Nat) (M : Ma), (feedL st anch t M).at_ ≤ M.at_ + t.length
  | [], M => Nat.le_refl _
  | c :: t, M => by
    rw [feedL_cons]
    have ha := (M.matched_at st).1
    split
    · rw [ha]; simp
    · split
      · show (M.matched st).at_ ≤ _; rw [ha]; simp
      · have h := feedL_at st anch t (stepM st anch M c)
        have e : (stepM st anch M c).at_ = M.at_ + 1 := by
          unfold stepM
          split
          · show (M.matched st).at_ + 1 = _; rw [ha]
          · show (M.matched st).at_ + 1 = _; rw [ha]
        rw [e] at h
        simp only [List.length_cons]
        exact Nat.le_trans h (by omega)
theorem feed_at (st : List Nd) (anch : Bool) (t : List Nat) (M : Ma) : (feed st anch t M).at_ ≤ M.at_ + t.length := by
  unfold feed
  rw [(Ma.matched_at st _).1]
  exact feedL_at st anch t M
theorem feedL_matched {st : List Nd} (hr : InR st) (anch : Bool) {t : List Nat} {M : Ma} (ho : OkL st.length M.now) : feed st anch t (M.matched st) = feed st anch t M := by
  cases t with
  | nil => exact matched_again hr ho
  | cons c t =>
    unfold feed
    rw [feedL_cons, feedL_cons, matched_again hr ho]
section
variable {st : List Nd} (hr : InR st) (hpos : 0 < st.length)
include hr hpos
theorem feed_ok (anch : Bool) {t : List Nat} {M : Ma} (ho : OkL st.length M.now) : OkL st.length (feed st anch t M).now := matched_ok hr (feedL_ok hr hpos anch t M ho)
theorem feed_append (anch : Bool) {t u : List Nat} {M : Ma} (ho : OkL st.length M.now) (hf : (feed st anch t M).found < 0) : feed st anch (t ++ u) M = feed st anch u (feed st anch t M) := by
  have hok := feedL_ok hr hpos anch t M ho
  have h1 : feed st anch u (feed st anch t M) = feed st anch u (feedL st anch t M) := feedL_matched hr anch hok
  rw [h1]
  rcases feedL_append st anch u t M with ⟨h, _⟩ | h
  · exfalso
    have : feed st anch t M = feedL st anch t M := matched_stop h
    rw [this] at hf; omega
  · unfold feed; rw [h]
/-- What pieces say is what the whole says; and in which piece. -/
theorem playL_law : ∀ (L : List (List UInt8)) (i : Nat) (M : Ma), OkL st.length M.now → M.matched st = M → M.found < 0 →
    ((feed st false (L.flatten.map UInt8.toNat) M).found < 0 → playL st L i M = (((i + L.length : Nat) : Int), -1, 0)) ∧
    (0 ≤ (feed st false (L.flatten.map UInt8.toNat) M).found → ∃ j : Nat, j < L.length ∧ playL st L i M = (((i + j : Nat) : Int), (feed st false (L.flatten.map UInt8.toNat) M).found, 0) ∧
      (feed st false ((L.take j).flatten.map UInt8.toNat) M).found < 0 ∧ 0 ≤ (feed st false ((L.take (j + 1)).flatten.map UInt8.toNat) M).found)
  | [], i, M, ho, hm, hn => by
    refine ⟨fun _ => rfl, fun h => ?_⟩
    have : feed st false (([] : List (List UInt8)).flatten.map UInt8.toNat) M = M := hm
    rw [this] at h; omega
  | b :: L, i, M, ho, hm, hn => by
    have hfl : ((b :: L).flatten).map UInt8.toNat = b.map UInt8.toNat ++ L.flatten.map UInt8.toNat := by simp
    by_cases hf : 0 ≤ (feed st false (b.map UInt8.toNat) M).found
    · have hs := feed_stays hr hpos false (L.flatten.map UInt8.toNat) ho hf
      rw [hfl, hs]
      refine ⟨fun h => by omega, fun _ => ⟨0, by simp, ?_, ?_, ?_⟩⟩
      · unfold playL
        rw [if_pos hf, matched_stop hf]; rfl
      · have : feed st false (((b :: L).take 0).flatten.map UInt8.toNat) M = M := hm
        rw [this]; exact hn
      · simpa using hf
    · have ha := feed_append hr hpos false (t := b.map UInt8.toNat) (u := L.flatten.map UInt8.toNat) ho (by omega)
      have ho' := feed_ok hr hpos false (t := b.map UInt8.toNat) ho
      have hm' : (feed st false (b.map UInt8.toNat) M).matched st = feed st false (b.map UInt8.toNat) M := matched_again hr (feedL_ok hr hpos false _ _ ho)
      obtain ⟨ih1, ih2⟩ := playL_law L (i + 1) (feed st false (b.map UInt8.toNat) M) ho' hm' (by omega)
      have hp : playL st (b :: L) i M = playL st L (i + 1) (feed st false (b.map UInt8.toNat) M) := by
        conv => lhs; unfold playL
        rw [if_neg hf]
      rw [hfl, ha, hp]
      refine ⟨fun h => by rw [ih1 h, List.length_cons, show i + 1 + L.length = i + (L.length + 1) by omega], fun h => ?_⟩
      obtain ⟨j, j1, j2, j3, j4⟩ := ih2 h
      refine ⟨j + 1, by simp; exact j1, by rw [j2, show i + 1 + j = i + (j + 1) by omega], ?_, ?_⟩
      · rw [List.take_succ_cons, show ((b :: L.take j).flatten).map UInt8.toNat = b.map UInt8.toNat ++ (L.take j).flatten.map UInt8.toNat by simp, feed_append hr hpos false ho (by omega)]
        exact j3
      · rw [List.take_succ_cons, show ((b :: L.take (j + 1)).flatten).map UInt8.toNat = b.map UInt8.toNat ++ (L.take (j + 1)).flatten.map UInt8.toNat by simp, feed_append hr hpos false ho (by omega)]
        exact j4
/-- Found in a beginning: found in all, at the same place. -/
theorem feed_pre (anch : Bool) {t u w : List Nat} {M : Ma} (ho : OkL st.length M.now) (hw : w = t ++ u) (hf : 0 ≤ (feed st anch t M).found) : (feed st anch w M).found = (feed st anch t M).found := by
  rw [hw]; exact feed_stays hr hpos anch u ho hf
/-- The statement MatcherDivides, plainly. -/
theorem play_divides (x : List (List UInt8)) :
    (playSt st x).2.2 = 0 ∧ (playSt st [x.flatten]).2.2 = 0 ∧ (playSt st (x.flatten.map fun b => [b])).2.2 = 0 ∧
    (playSt st x).2.1 = (playSt st [x.flatten]).2.1 ∧ (playSt st x).2.1 = (playSt st (x.flatten.map fun b => [b])).2.1 ∧ -1 ≤ (playSt st x).2.1 ∧
    ((playSt st x).2.1 < 0 → (playSt st x).1 = x.length ∧ (playSt st (x.flatten.map fun b => [b])).1 = x.flatten.length) ∧
    (0 ≤ (playSt st x).2.1 → (playSt st (x.flatten.map fun b => [b])).1 = (playSt st x).2.1 - 1 ∧ ((playSt st x).1 < 0 ↔ (playSt st x).2.1 = 0)) ∧ (playSt st x).2.1 ≤ x.flatten.length := by
  have hs := start_ok hr hpos true
  by_cases h0 : 0 ≤ ((startM st true).matched st).found
  · have e : ∀ L, playSt st L = (-1, 0, 0) := fun L => if_pos h0
    rw [e, e, e]
    refine ⟨rfl, rfl, rfl, rfl, rfl, by decide, fun h => absurd h (by decide), fun _ => ⟨by decide, by decide⟩, by show (0 : Int) ≤ _; omega⟩
  · have e : ∀ L, playSt st L = playL st L 0 ((startM st true).matched st) := fun L => if_neg h0
    rw [e, e, e]
    have ho := matched_ok hr hs
    have hm := matched_again hr hs
    have hat : ((startM st true).matched st).at_ = 0 := (Ma.matched_at st _).1
    have hfd : ((startM st true).matched st).found = -1 := by
      rcases matched_found st (startM st true) with h | ⟨_, h⟩
      · exact h
      · have : (startM st true).at_ = 0 := rfl
        rw [this] at h; omega
    generalize (startM st true).matched st = M at *
    have hn : M.found < 0 := by omega
    have hw1 : ([x.flatten] : List (List UInt8)).flatten = x.flatten := by simp
    have hw2 : (x.flatten.map fun b => [b]).flatten = x.flatten := by
      generalize x.flatten = l
      induction l with
      | nil => rfl
      | cons y l ih => simp; exact ih
    obtain ⟨a1, a2⟩ := playL_law hr hpos x 0 M ho hm hn
    obtain ⟨b1, b2⟩ := playL_law hr hpos [x.flatten] 0 M ho hm hn
    obtain ⟨c1, c2⟩ := playL_law hr hpos (x.flatten.map fun b => [b]) 0 M ho hm hn
    rw [hw1] at b1 b2
    rw [hw2] at c1 c2
    by_cases hf : 0 ≤ (feed st false (x.flatten.map UInt8.toNat) M).found
    · obtain ⟨i, i1, i2, i3, i4⟩ := a2 hf
      obtain ⟨j, j1, j2, j3, j4⟩ := b2 hf
      obtain ⟨k, k1, k2, k3, k4⟩ := c2 hf
      rw [i2, j2, k2]
      have hb : ∀ n, ((x.flatten.map fun b => [b]).take n).flatten = x.flatten.take n := fun n => by
        rw [← List.map_take]
        generalize x.flatten.take n = l
        induction l with
        | nil => rfl
        | cons y l ih => simp; exact ih
      rw [hb] at k3 k4
      have hff := feed_first hr hpos false (x.flatten.map UInt8.toNat) M ho hn
      rcases hff with h | ⟨q, q1, q2, q3⟩
      · omega
      rw [hat, Nat.zero_add] at q1 q3
      -- the number of bytes is that of the least beginning
      have hk : q = k + 1 := by
        have hle : q ≤ k + 1 := by
          have h1 := feed_pre hr hpos false (t := (x.flatten.take (k + 1)).map UInt8.toNat) (u := (x.flatten.drop (k + 1)).map UInt8.toNat) (w := x.flatten.map UInt8.toNat) ho (by rw [← List.map_append, List.take_append_drop]) k4
          rcases feed_first hr hpos false ((x.flatten.take (k + 1)).map UInt8.toNat) M ho hn with h | ⟨r, r1, r2, r3⟩
          · omega
          · rw [hat, Nat.zero_add] at r1
            rw [List.length_map, List.length_take] at r2
            omega
        have hgt : k < q := by
          rcases Nat.lt_or_ge k q with h | h
          · exact h
          · exfalso
            have hq3 : 0 ≤ (feed st false ((x.flatten.take q).map UInt8.toNat) M).found := by rw [List.map_take, q3]; omega
            have h1 := feed_pre hr hpos false (t := (x.flatten.take q).map UInt8.toNat) (u := ((x.flatten.take k).drop q).map UInt8.toNat) (w := (x.flatten.take k).map UInt8.toNat) ho (by
              rw [← List.map_append]; congr 1
              have : x.flatten.take q = (x.flatten.take k).take q := by rw [List.take_take, Nat.min_eq_left h]
              rw [this, List.take_append_drop]) hq3
            omega
        omega
      refine ⟨rfl, rfl, rfl, rfl, rfl, by dsimp only; omega, fun h => by dsimp only at h; omega, fun _ => ⟨by dsimp only; omega, ?_⟩, ?_⟩
      · dsimp only
        constructor
        · intro h; omega
        · intro h; omega
      · dsimp only
        rw [List.length_map] at q2
        omega
    · rw [a1 (by omega), b1 (by omega), c1 (by omega)]
      refine ⟨rfl, rfl, rfl, rfl, rfl, by show (-1 : Int) ≤ -1; omega, fun _ => ⟨by dsimp only; omega, by dsimp only; rw [List.length_map]; omega⟩, fun h => absurd h (by show ¬ (0 : Int) ≤ -1; omega), by show (-1 : Int) ≤ _; omega⟩
/-- The statement MatcherEarliest, plainly. -/
theorem play_earliest (x : List (List UInt8)) : (playSt st x).2.2 = 0 ∧ -1 ≤ (playSt st x).1 ∧ (playSt st x).1 ≤ x.length ∧
    ∀ k : Nat, k ≤ x.length → (playSt st (x.take k)).2.2 = 0 ∧ ((k : Int) > (playSt st x).1 → (playSt st (x.take k)).1 = (playSt st x).1 ∧ (playSt st (x.take k)).2.1 = (playSt st x).2.1) ∧
      ((k : Int) ≤ (playSt st x).1 → (playSt st (x.take k)).1 = k ∧ (playSt st (x.take k)).2.1 = -1) := by
  have hs := start_ok hr hpos true
  by_cases h0 : 0 ≤ ((startM st true).matched st).found
  · have e : ∀ L, playSt st L = (-1, 0, 0) := fun L => if_pos h0
    rw [e]
    refine ⟨rfl, by decide, by dsimp only; omega, fun k hk => ?_⟩
    rw [e]
    exact ⟨rfl, fun _ => ⟨rfl, rfl⟩, fun h => by dsimp only at h; omega⟩
  · have e : ∀ L, playSt st L = playL st L 0 ((startM st true).matched st) := fun L => if_neg h0
    rw [e]
    have ho := matched_ok hr hs
    have hm := matched_again hr hs
    have hn : ((startM st true).matched st).found < 0 := by omega
    generalize hM : (startM st true).matched st = M at *
    obtain ⟨a1, a2⟩ := playL_law hr hpos x 0 M ho hm hn
    have pre : ∀ k n, k ≤ n → (x.take k).flatten.map UInt8.toNat ++ ((x.take n).drop k).flatten.map UInt8.toNat = (x.take n).flatten.map UInt8.toNat := fun k n h => by
      rw [← List.map_append, ← List.flatten_append]
      have : x.take k = (x.take n).take k := by rw [List.take_take, Nat.min_eq_left h]
      rw [this, List.take_append_drop]
    by_cases hf : 0 ≤ (feed st false (x.flatten.map UInt8.toNat) M).found
    · obtain ⟨i, i1, i2, i3, i4⟩ := a2 hf
      rw [i2]
      refine ⟨rfl, by dsimp only; omega, by dsimp only; omega, fun k hk => ?_⟩
      rw [e]
      obtain ⟨b1, b2⟩ := playL_law hr hpos (x.take k) 0 M ho hm hn
      by_cases hki : k ≤ i
      · have hnf : (feed st false ((x.take k).flatten.map UInt8.toNat) M).found < 0 := by
          rcases (show (feed st false ((x.take k).flatten.map UInt8.toNat) M).found < 0 ∨ 0 ≤ (feed st false ((x.take k).flatten.map UInt8.toNat) M).found by omega) with h | h
          · exact h
          · have := feed_pre hr hpos false ho (pre k i hki).symm h
            omega
        rw [b1 hnf]
        refine ⟨rfl, fun h => by dsimp only at h; omega, fun _ => ⟨by dsimp only; rw [List.length_take]; omega, rfl⟩⟩
      · have hyes : 0 ≤ (feed st false ((x.take k).flatten.map UInt8.toNat) M).found := by
          rw [feed_pre hr hpos false ho (pre (i + 1) k (by omega)).symm i4]; exact i4
        have hall : (feed st false (x.flatten.map UInt8.toNat) M).found = (feed st false ((x.take k).flatten.map UInt8.toNat) M).found := by
          have := pre k x.length hk
          rw [List.take_length] at this
          exact feed_pre hr hpos false ho this.symm hyes
        obtain ⟨j, j1, j2, j3, j4⟩ := b2 hyes
        rw [j2, hall]
        rw [List.length_take] at j1
        rw [List.take_take, Nat.min_eq_left (by omega)] at j3
        rw [List.take_take, Nat.min_eq_left (by omega)] at j4
        have hji : j = i := by
          rcases Nat.lt_trichotomy j i with h | h | h
          · exfalso
            have := feed_pre hr hpos false ho (pre (j + 1) i (by omega)).symm j4
            omega
          · exact h
          · exfalso
            have := feed_pre hr hpos false ho (pre (i + 1) j (by omega)).symm i4
            omega
        subst hji
        refine ⟨rfl, fun _ => ⟨rfl, rfl⟩, fun h => by dsimp only at h; omega⟩
    · rw [a1 (by omega)]
      refine ⟨rfl, by dsimp only; omega, by dsimp only; omega, fun k hk => ?_⟩
      rw [e]
      obtain ⟨b1, b2⟩ := playL_law hr hpos (x.take k) 0 M ho hm hn
      have hnf : (feed st false ((x.take k).flatten.map UInt8.toNat) M).found < 0 := by
        rcases (show (feed st false ((x.take k).flatten.map UInt8.toNat) M).found < 0 ∨ 0 ≤ (feed st false ((x.take k).flatten.map UInt8.toNat) M).found by omega) with h | h
        · exact h
        · have h2 := pre k x.length hk
          rw [List.take_length] at h2
          have := feed_pre hr hpos false ho h2.symm h
          omega
      rw [b1 hnf]
      refine ⟨rfl, fun h => by dsimp only at h; omega, fun _ => ⟨by dsimp only; rw [List.length_take]; omega, rfl⟩⟩
end
end Go.Proofs.Ytaffcoiomggpfaa
