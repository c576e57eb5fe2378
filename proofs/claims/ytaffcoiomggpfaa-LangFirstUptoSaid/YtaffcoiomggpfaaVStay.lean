/- Plain laws of the machine: spread is a closure; what was found stays found. -/
import Derived.Test.YtaffcoiomggpfaaVAuto6
namespace Go.Proofs.Ytaffcoiomggpfaa
open Go.V
set_option linter.constructorNameAsVariable false
set_option linter.unusedVariables false

/-- Where a state leads to without a byte. -/
def goes (st : List Nd) (bol eol : Bool) (j : Nat) : List Nat :=
  if (st.getD j default).k = 2 then [(st.getD j default).r.toNat, (st.getD j default).l.toNat]
  else if ((st.getD j default).k = 3 ∧ bol = true) ∨ ((st.getD j default).k = 4 ∧ eol = true) then [(st.getD j default).l.toNat]
  else []
def isM (st : List Nd) (j : Nat) : Bool := decide ((st.getD j default).k = 5)
theorem spreadL_step (st : List Nd) (bol eol : Bool) (f i : Nat) (m : Bool) (l : List Nat) :
    spreadL st bol eol (f + 1) i m l = if i < l.length then spreadL st bol eol f (i + 1) (m || isM st (l.getD i 0)) ((goes st bol eol (l.getD i 0)).foldl addL l) else (l, m) := by
  conv => lhs; unfold spreadL
  split
  · dsimp only
    unfold goes isM
    generalize st.getD (l.getD i 0) default = x
    by_cases h2 : x.k = 2
    · rw [if_pos h2, if_pos h2]
      have : decide (x.k = 5) = false := decide_eq_false (by omega)
      rw [this]; simp
    · rw [if_neg h2, if_neg h2]
      by_cases h3 : (x.k = 3 ∧ bol = true) ∨ (x.k = 4 ∧ eol = true)
      · rw [if_pos h3, if_pos h3]
        have : decide (x.k = 5) = false := decide_eq_false (by omega)
        rw [this]; simp
      · rw [if_neg h3, if_neg h3]
        by_cases h5 : x.k = 5
        · rw [if_pos h5, decide_eq_true h5]; simp
        · rw [if_neg h5, decide_eq_false h5]; simp
  · rfl
theorem mem_addL {l : List Nat} {i j : Nat} : j ∈ addL l i ↔ j ∈ l ∨ j = i := by
  unfold addL
  split
  · rename_i h
    exact ⟨.inl, fun h' => h'.elim id (fun e => e ▸ h)⟩
  · simp
theorem addL_pre (l : List Nat) (i : Nat) : ∃ r, addL l i = l ++ r := by
  unfold addL
  split
  · exact ⟨[], by simp⟩
  · exact ⟨[i], rfl⟩
theorem foldl_addL : ∀ (s l : List Nat), (∃ r, s.foldl addL l = l ++ r) ∧ ∀ j, j ∈ s.foldl addL l ↔ j ∈ l ∨ j ∈ s
  | [], l => ⟨⟨[], by simp⟩, by simp⟩
  | x :: s, l => by
    obtain ⟨⟨r, h1⟩, h2⟩ := foldl_addL s (addL l x)
    obtain ⟨r0, h0⟩ := addL_pre l x
    refine ⟨⟨r0 ++ r, by rw [List.foldl_cons, h1, h0, List.append_assoc]⟩, fun j => ?_⟩
    rw [List.foldl_cons, h2 j, mem_addL, List.mem_cons]
    exact or_assoc
theorem goes_lt {st : List Nd} (hr : InR st) {bol eol : Bool} {j s : Nat} (hj : j < st.length) (hs : s ∈ goes st bol eol j) : s < st.length := by
  have := hr.at (getD_some hj)
  unfold goes at hs
  generalize st.getD j default = x at this hs
  split at hs
  · simp at hs; omega
  · split at hs
    · simp at hs; omega
    · simp at hs
theorem OkL.fold {st : List Nd} : ∀ (s l : List Nat), OkL st.length l → (∀ j ∈ s, j < st.length) → OkL st.length (s.foldl addL l)
  | [], l, h, _ => h
  | x :: s, l, h, hs => OkL.fold s (addL l x) (h.add (hs x (by simp))) fun j hj => hs j (by simp [hj])
theorem spreadL_spec {st : List Nd} (hr : InR st) (bol eol : Bool) : ∀ (f i : Nat) (m : Bool) (l : List Nat), OkL st.length l → i ≤ l.length → st.length < f + i →
    (∀ j ∈ l.take i, ∀ s ∈ goes st bol eol j, s ∈ l) → m = (l.take i).any (isM st) →
    (∃ r, (spreadL st bol eol f i m l).1 = l ++ r) ∧ (∀ j ∈ (spreadL st bol eol f i m l).1, ∀ s ∈ goes st bol eol j, s ∈ (spreadL st bol eol f i m l).1) ∧
    (spreadL st bol eol f i m l).2 = (spreadL st bol eol f i m l).1.any (isM st)
  | 0, i, m, l, ho, hi, hf, _, _ => by have := ho.len; omega
  | f + 1, i, m, l, ho, hi, hf, hc, hm => by
    rw [spreadL_step]
    split
    · rename_i hlt
      have hget : l[i]? = some (l.getD i 0) := by rw [List.getD_eq_getElem?_getD, List.getElem?_eq_getElem hlt]; rfl
      have htk : l.take (i + 1) = l.take i ++ [l.getD i 0] := by rw [List.take_add_one, hget]; rfl
      have hjm : l.getD i 0 ∈ l := List.mem_iff_getElem?.2 ⟨i, hget⟩
      have hjlt := ho.2 _ hjm
      generalize l.getD i 0 = j at hget htk hjm hjlt
      obtain ⟨⟨r, h1⟩, h2⟩ := foldl_addL (goes st bol eol j) l
      have htk2 : ((goes st bol eol j).foldl addL l).take (i + 1) = l.take (i + 1) := by rw [h1, List.take_append_of_le_length (by omega)]
      obtain ⟨⟨r2, e1⟩, e2, e3⟩ := spreadL_spec hr bol eol f (i + 1) (m || isM st j) ((goes st bol eol j).foldl addL l) (ho.fold _ _ fun s hs => goes_lt hr hjlt hs) (by rw [h1]; simp; omega) (by omega)
        (fun k hk s hs => by
          rw [htk2, htk] at hk
          rcases List.mem_append.1 hk with hk | hk
          · exact (h2 s).2 (.inl (hc k hk s hs))
          · simp at hk; subst hk; exact (h2 s).2 (.inr hs))
        (by rw [htk2, htk, List.any_append, ← hm]; simp)
      exact ⟨⟨r ++ r2, by rw [e1, h1, List.append_assoc]⟩, e2, e3⟩
    · have : l.take i = l := List.take_of_length_le (by omega)
      rw [this] at hc hm
      exact ⟨⟨[], by simp⟩, hc, hm⟩
theorem spreadL_closed {st : List Nd} (bol eol : Bool) : ∀ (f i : Nat) (m : Bool) (l : List Nat), l.length ≤ st.length → i ≤ l.length → st.length < f + i → (∀ j ∈ l, ∀ s ∈ goes st bol eol j, s ∈ l) →
    spreadL st bol eol f i m l = (l, m || (l.drop i).any (isM st))
  | 0, i, m, l, hl, hi, hf, _ => by omega
  | f + 1, i, m, l, hl, hi, hf, hc => by
    rw [spreadL_step]
    split
    · rename_i hlt
      have hget : l[i]? = some (l.getD i 0) := by rw [List.getD_eq_getElem?_getD, List.getElem?_eq_getElem hlt]; rfl
      have hjm : l.getD i 0 ∈ l := List.mem_iff_getElem?.2 ⟨i, hget⟩
      have hdr : l.drop i = l.getD i 0 :: l.drop (i + 1) := by
        rw [List.drop_eq_getElem_cons hlt]
        congr 1
        rw [List.getElem?_eq_getElem hlt] at hget
        exact Option.some.inj hget
      generalize l.getD i 0 = j at hget hjm hdr
      have hfold : (goes st bol eol j).foldl addL l = l := by
        have : ∀ s : List Nat, (∀ k ∈ s, k ∈ l) → s.foldl addL l = l := fun s => by
          induction s with
          | nil => intro _; rfl
          | cons x s ih =>
            intro hs
            have hx : addL l x = l := if_pos (hs x (by simp))
            rw [List.foldl_cons, hx]
            exact ih fun k hk => hs k (by simp [hk])
        exact this _ (hc j hjm)
      rw [hfold, spreadL_closed bol eol f (i + 1) _ l hl (by omega) (by omega) hc, hdr]
      simp [Bool.or_assoc]
    · have : l.drop i = [] := List.drop_eq_nil_of_le (by omega)
      rw [this]; simp
/-- Spreading again changes nothing. -/
theorem spread_again {st : List Nd} (hr : InR st) (bol eol : Bool) {l : List Nat} (ho : OkL st.length l) : spread st bol eol (spread st bol eol l).1 = spread st bol eol l := by
  have h1 := spreadL_spec hr bol eol (st.length + 1) 0 false l ho (by omega) (by omega) (by simp) (by simp)
  have h2 := spreadL_ok hr bol eol (st.length + 1) 0 false l ho
  change (∃ r, (spread st bol eol l).1 = l ++ r) ∧ (∀ j ∈ (spread st bol eol l).1, ∀ s ∈ goes st bol eol j, s ∈ (spread st bol eol l).1) ∧ (spread st bol eol l).2 = (spread st bol eol l).1.any (isM st) at h1
  change OkL st.length (spread st bol eol l).1 at h2
  have h3 := spreadL_closed bol eol (st.length + 1) 0 false (spread st bol eol l).1 h2.len (by omega) (by omega) h1.2.1
  change spread st bol eol (spread st bol eol l).1 = _ at h3
  rw [h3, List.drop_zero, Bool.false_or, ← h1.2.2]
theorem matched_ok {st : List Nd} (hr : InR st) {M : Ma} (ho : OkL st.length M.now) : OkL st.length (M.matched st).now := by
  unfold Ma.matched
  split
  · exact spreadL_ok hr _ _ _ _ _ _ ho
  · exact ho
theorem matched_again {st : List Nd} (hr : InR st) {M : Ma} (ho : OkL st.length M.now) : (M.matched st).matched st = M.matched st := by
  by_cases hf : M.found < 0
  · have h1 : M.matched st = { M with now := (spread st M.bol false M.now).1, found := if (spread st M.bol false M.now).2 = true then M.at_ else M.found } := if_pos hf
    rw [h1]
    unfold Ma.matched
    dsimp only
    rw [spread_again hr _ _ ho]
    by_cases hs : (spread st M.bol false M.now).2 = true
    · rw [if_pos hs]
      rw [if_neg (by omega)]
    · have hs : (spread st M.bol false M.now).2 = false := by simpa using hs
      simp only [hs, Bool.false_eq_true, if_false]
      rw [if_pos hf]
  · have h1 : M.matched st = M := if_neg hf
    rw [h1, h1]
theorem matched_stop {st : List Nd} {M : Ma} (h : 0 ≤ M.found) : M.matched st = M := if_neg (by omega)
theorem matched_found (st : List Nd) (M : Ma) : (M.matched st).found = M.found ∨ (M.found < 0 ∧ (M.matched st).found = M.at_) := by
  unfold Ma.matched
  split
  · dsimp only
    split
    · exact .inr ⟨‹_›, rfl⟩
    · exact .inl rfl
  · exact .inl rfl
theorem read_ok {st : List Nd} (hr : InR st) (hpos : 0 < st.length) (anch : Bool) {M : Ma} (b : Nat) (ho : OkL st.length M.now) : OkL st.length (Ma.read st anch M b).now := by
  have h := readL_ok hr b M.now ho.2 [] (OkL.nil _)
  change OkL st.length (readL st b M.now) at h
  unfold Ma.read
  dsimp only
  refine spreadL_ok hr _ _ _ _ _ _ ?_
  split
  · exact h
  · exact h.add hpos
theorem spread_ok {st : List Nd} (hr : InR st) (bol eol : Bool) {l : List Nat} (ho : OkL st.length l) : OkL st.length (spread st bol eol l).1 := spreadL_ok hr _ _ _ _ _ _ ho
/-- One step of feed. -/
theorem feedL_cons (st : List Nd) (anch : Bool) (c : Nat) (l : List Nat) (M : Ma) : feedL st anch (c :: l) M =
    if 0 ≤ (M.matched st).found then M.matched st
    else if c = 10 ∧ (spread st (M.matched st).bol true (M.matched st).now).2 = true then { M.matched st with now := (spread st (M.matched st).bol true (M.matched st).now).1, found := (M.matched st).at_ + 1 }
    else feedL st anch l (Ma.read st anch (if c = 10 then { M.matched st with now := (spread st (M.matched st).bol true (M.matched st).now).1 } else M.matched st) c) := by
  conv => lhs; unfold feedL
  split
  · rfl
  · by_cases hc : c = 10
    · rw [if_pos hc, if_pos hc]
      dsimp only
      by_cases hs : (spread st (M.matched st).bol true (M.matched st).now).2 = true
      · rw [if_pos hs, if_pos ⟨hc, hs⟩]
      · rw [if_neg hs, if_neg (fun h => hs h.2)]
    · rw [if_neg hc, if_neg hc, if_neg (fun h => hc h.1)]
def stepM (st : List Nd) (anch : Bool) (M : Ma) (c : Nat) : Ma := Ma.read st anch (if c = 10 then { M.matched st with now := (spread st (M.matched st).bol true (M.matched st).now).1 } else M.matched st) c
theorem stepM_facts {st : List Nd} (hr : InR st) (hpos : 0 < st.length) (anch : Bool) {M : Ma} (c : Nat) (ho : OkL st.length M.now) :
    OkL st.length (stepM st anch M c).now ∧ (stepM st anch M c).at_ = M.at_ + 1 ∧ (stepM st anch M c).found = (M.matched st).found := by
  have hm := matched_ok hr ho
  have ha := (M.matched_at st).1
  unfold stepM
  split
  · exact ⟨read_ok hr hpos anch c (spread_ok hr _ _ hm), by show (M.matched st).at_ + 1 = _; rw [ha], rfl⟩
  · exact ⟨read_ok hr hpos anch c hm, by show (M.matched st).at_ + 1 = _; rw [ha], rfl⟩
theorem feedL_ok {st : List Nd} (hr : InR st) (hpos : 0 < st.length) (anch : Bool) : ∀ (t : List Nat) (M : Ma), OkL st.length M.now → OkL st.length (feedL st anch t M).now
  | [], M, h => h
  | c :: t, M, h => by
    rw [feedL_cons]
    split
    · exact matched_ok hr h
    · split
      · exact spread_ok hr _ _ (matched_ok hr h)
      · exact feedL_ok hr hpos anch t _ (stepM_facts hr hpos anch c h).1
/-- More text: either it was found before, or the machine goes on. -/
theorem feedL_append (st : List Nd) (anch : Bool) (u : List Nat) : ∀ (t : List Nat) (M : Ma), (0 ≤ (feedL st anch t M).found ∧ feedL st anch (t ++ u) M = feedL st anch t M) ∨ feedL st anch (t ++ u) M = feedL st anch u (feedL st anch t M)
  | [], M => .inr rfl
  | c :: t, M => by
    rw [List.cons_append, feedL_cons, feedL_cons]
    split
    · exact .inl ⟨‹_›, rfl⟩
    · split
      · exact .inl ⟨by dsimp only; omega, rfl⟩
      · exact feedL_append st anch u t _
theorem feed_stays {st : List Nd} (hr : InR st) (hpos : 0 < st.length) (anch : Bool) {t : List Nat} (u : List Nat) {M : Ma} (ho : OkL st.length M.now) (hf : 0 ≤ (feed st anch t M).found) :
    (feed st anch (t ++ u) M).found = (feed st anch t M).found := by
  have hok := feedL_ok hr hpos anch t M ho
  unfold feed at hf ⊢
  rcases feedL_append st anch u t M with ⟨h1, h2⟩ | h
  · rw [h2]
  · rw [h]
    cases u with
    | nil => rfl
    | cons c u =>
      rw [feedL_cons, if_pos hf, matched_again hr hok]
theorem feed_first {st : List Nd} (hr : InR st) (hpos : 0 < st.length) (anch : Bool) : ∀ (t : List Nat) (M : Ma), OkL st.length M.now → M.found < 0 →
    ((feed st anch t M).found = M.found) ∨ ∃ k : Nat, (feed st anch t M).found = ((M.at_ + k : Nat) : Int) ∧ k ≤ t.length ∧ (feed st anch (t.take k) M).found = ((M.at_ + k : Nat) : Int)
  | [], M, ho, hn => by
    rcases matched_found st M with h | ⟨_, h⟩
    · exact .inl h
    · exact .inr ⟨0, h, by simp, h⟩
  | c :: t, M, ho, hn => by
    have hfe : ∀ r, feed st anch (c :: r) M = if 0 ≤ (M.matched st).found then M.matched st
        else if c = 10 ∧ (spread st (M.matched st).bol true (M.matched st).now).2 = true then { M.matched st with now := (spread st (M.matched st).bol true (M.matched st).now).1, found := (M.matched st).at_ + 1 }
        else feed st anch r (stepM st anch M c) := fun r => by
      unfold feed
      rw [feedL_cons]
      split
      · rw [matched_stop ‹_›]
      · split
        · rw [matched_stop (by dsimp only; omega)]
        · rfl
    have ha := (M.matched_at st).1
    by_cases h0 : 0 ≤ (M.matched st).found
    · have : (M.matched st).found = M.at_ := by
        rcases matched_found st M with h | ⟨_, h⟩
        · omega
        · exact h
      refine .inr ⟨0, ?_, by simp, ?_⟩
      · rw [hfe, if_pos h0, this]; rfl
      · show (M.matched st).found = _
        rw [this]; rfl
    · by_cases h1 : c = 10 ∧ (spread st (M.matched st).bol true (M.matched st).now).2 = true
      · refine .inr ⟨1, ?_, by simp, ?_⟩
        · rw [hfe, if_neg h0, if_pos h1]; dsimp only; rw [ha]; rfl
        · rw [List.take_succ_cons, hfe, if_neg h0, if_pos h1]; dsimp only; rw [ha]; rfl
      · obtain ⟨s1, s2, s3⟩ := stepM_facts hr hpos anch c ho
        have hmf : (M.matched st).found = M.found := by
          rcases matched_found st M with h | ⟨_, h⟩
          · exact h
          · omega
        rcases feed_first hr hpos anch t (stepM st anch M c) s1 (by omega) with h | ⟨k, k1, k2, k3⟩
        · left
          rw [hfe, if_neg h0, if_neg h1, h, s3, hmf]
        · refine .inr ⟨k + 1, ?_, by simp; exact k2, ?_⟩
          · rw [hfe, if_neg h0, if_neg h1, k1, s2]; congr 1; omega
          · rw [List.take_succ_cons, hfe, if_neg h0, if_neg h1, k3, s2]; congr 1; omega
theorem start_ok {st : List Nd} (hr : InR st) (hpos : 0 < st.length) (bol : Bool) : OkL st.length (startM st bol).now :=
  spread_ok hr _ _ ⟨by simp, fun i hi => by simp at hi; omega⟩
end Go.Proofs.Ytaffcoiomggpfaa
