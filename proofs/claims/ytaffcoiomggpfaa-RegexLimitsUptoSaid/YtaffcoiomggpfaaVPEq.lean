/- The two parsers of patterns find the same: escapes and classes. -/
import Derived.Test.YtaffcoiomggpfaaVShift
import Derived.Test.YtaffcoiomggpfaaVR08f
namespace Go.Proofs.Ytaffcoiomggpfaa
open Go.V
attribute [local irreducible] app
set_option linter.unusedVariables false

/-! ### Sets -/
theorem with1_256 : (List.range 256).all (fun c => decide ((S4.zero.with1 c).with1 c = S4.zero.with1 c) && decide (only8 (S4.zero.with1 c) = c)) = true := by decide +kernel
theorem with1_twice {c : Nat} (h : c ≤ 255) : (S4.zero.with1 c).with1 c = S4.zero.with1 c := by
  have := List.all_eq_true.1 with1_256 c (List.mem_range.2 (by omega))
  simp only [Bool.and_eq_true, decide_eq_true_eq] at this; exact this.1
theorem only_with1 {c : Nat} (h : c ≤ 255) : only8 (S4.zero.with1 c) = c := by
  have := List.all_eq_true.1 with1_256 c (List.mem_range.2 (by omega))
  simp only [Bool.and_eq_true, decide_eq_true_eq] at this; exact this.2
theorem with_self (s : S4) (c : Nat) : s.with_ c c = s.with1 c := by
  unfold S4.with_; rw [show c + 1 - c = 1 by omega]; rfl
theorem withN_first (s : S4) (f : Nat) (h : (s.with1 f).with1 f = s.with1 f) : ∀ n, (s.with1 f).withN f (n + 1) = s.withN f (n + 1)
  | 0 => h
  | n + 1 => by
    have := withN_first s f h n
    show ((s.with1 f).withN f (n + 1)).with1 _ = (s.withN f (n + 1)).with1 _
    rw [this]
theorem with_range {f l : Nat} (hf : f ≤ 255) (hl : f ≤ l) : (S4.zero.with1 f).with_ f l = S4.zero.with_ f l := by
  unfold S4.with_
  rw [show l + 1 - f = (l - f) + 1 by omega]
  exact withN_first _ _ (with1_twice hf) _
/-- What stands behind a backslash: the byte, its set, whether it stands for several, whether it may stand there. -/
def esc (c : Nat) : Nat × S4 × Bool × Bool := match named c with
  | (s, true) => (0, s, true, true)
  | (_, false) => match single c with
    | (n, k) => (n, S4.zero.with_ n n, false, k)
def escOk (c : Nat) : Bool :=
  let x := esc c
  let y := named8 c
  decide (x.2.2.2 = y.2.2) && (!y.2.2 || decide (x.2.1 = y.1) && decide (y.2.1 = !x.2.2.1) && (x.2.2.1 || decide (x.2.1 = S4.zero.with1 x.1) && decide (x.1 ≤ 255)))
theorem esc_256 : (List.range 256).all escOk = true := by decide +kernel
theorem esc_eq {c : Nat} (h : c ≤ 255) : (esc c).2.2.2 = (named8 c).2.2 ∧ ((named8 c).2.2 = true → (esc c).2.1 = (named8 c).1 ∧ (named8 c).2.1 = !(esc c).2.2.1 ∧ ((esc c).2.2.1 = false → (esc c).2.1 = S4.zero.with1 (esc c).1 ∧ (esc c).1 ≤ 255)) := by
  have := List.all_eq_true.1 esc_256 c (List.mem_range.2 (by omega))
  unfold escOk at this
  simp only [Bool.and_eq_true, decide_eq_true_eq, Bool.or_eq_true, Bool.not_eq_true'] at this
  refine ⟨this.1, fun hy => ?_⟩
  rcases this.2 with h | ⟨⟨h1, h2⟩, h3⟩
  · rw [hy] at h; cases h
  · refine ⟨h1, h2, fun hm => ?_⟩
    rcases h3 with h3 | h3
    · rw [hm] at h3; cases h3
    · exact h3
theorem escape_esc (r : RP) : r.escape = (match r.inc.next with
  | (c, false) => ((0, S4.zero, false), r.inc.fail 82)
  | (c, true) => (((esc c).1, (esc c).2.1, (esc c).2.2.1), if (esc c).2.2.2 = true then r.inc.inc else r.inc.inc.fail 82)) := by
  unfold RP.escape
  cases r.inc.next with
  | mk c k =>
    cases k with
    | false => rfl
    | true =>
      dsimp only
      unfold esc
      cases named c with
      | mk s k =>
        cases k with
        | true => rfl
        | false => rfl

/-! ### The two states -/
/-- The two parsers stand alike. -/
structure Al (r : RP) (q : PS) : Prop where
  s : r.s = q.s
  e : r.e = q.e
  at_ : r.e = 0 → r.at_ = q.at_
theorem Al.more {r : RP} {q : PS} (h : Al r q) : r.next = (if q.more = true then (q.byte, true) else (0, false)) := by
  unfold RP.next PS.more PS.byte
  by_cases he : r.e = 0
  · have := h.at_ he
    have h2 := h.e
    rw [h.s, this]
    by_cases hlt : q.at_ < q.s.size
    · rw [if_neg (by omega), if_pos (by simp; omega)]
    · rw [if_pos (by omega), if_neg (by simp; omega)]
  · have h2 := h.e
    rw [if_pos (.inl he), if_neg (by simp; omega)]
theorem Al.inc {r : RP} {q : PS} (h : Al r q) : Al r.inc q.inc := ⟨h.s, h.e, fun he => congrArg (· + 1) (h.at_ he)⟩
theorem Al.fail {r : RP} {q : PS} (h : Al r q) (e : Int) (he : e ≠ 0) : Al (r.fail e) (q.fail e) := by
  unfold RP.fail PS.fail
  have h2 := h.e
  by_cases hr : r.e = 0
  · rw [if_pos hr, if_pos (by omega)]; exact ⟨h.s, rfl, fun h' => absurd h' he⟩
  · rw [if_neg hr, if_neg (by omega)]; exact h
/-- The same error, wherever. -/
theorem Al.err {r : RP} {q : PS} (hs : r.s = q.s) (he : r.e = q.e) (hn : r.e ≠ 0) : Al r q := ⟨hs, he, fun h => absurd h hn⟩
theorem Al.failInc {r : RP} {q : PS} (h : Al r q) (e : Int) (he : e ≠ 0) : Al (r.fail e) (q.inc.fail e) := by
  unfold RP.fail PS.fail
  have h2 := h.e
  by_cases hr : r.e = 0
  · rw [if_pos hr, if_pos (show q.inc.e = 0 from by simp only [PS.inc]; omega)]; exact ⟨h.s, rfl, fun h' => absurd h' he⟩
  · rw [if_neg hr, if_neg (show ¬ q.inc.e = 0 from by simp only [PS.inc]; omega)]; exact ⟨h.s, h.e, fun h' => absurd h' hr⟩
theorem Al.failInc' {r : RP} {q : PS} (h : Al r q) (e : Int) (he : e ≠ 0) : Al (r.fail e) (q.fail e).inc := by
  have := h.fail e he
  have hn : (r.fail e).e ≠ 0 := RP.fail_e r he
  exact ⟨this.s, this.e, fun h' => absurd h' hn⟩
theorem byte_le (q : PS) : q.byte ≤ 255 := byteAt_le _ _
/-- An escape behind its backslash. -/
theorem escape_al {r : RP} {q : PS} (h : Al r q) (h0 : r.e = 0) : Al r.escape.2 q.inc.escape8.2.2 ∧
    (r.escape.2.e = 0 → r.escape.1.2.1 = q.inc.escape8.1 ∧ q.inc.escape8.2.1 = !r.escape.1.2.2 ∧ (r.escape.1.2.2 = false → r.escape.1.2.1 = S4.zero.with1 r.escape.1.1 ∧ r.escape.1.1 ≤ 255)) := by
  have hi := h.inc
  have hm := hi.more
  have hie : q.inc.e = 0 := by rw [← hi.e]; exact h0
  rw [escape_esc, hm]
  unfold PS.escape8
  by_cases hlt : q.inc.at_ < q.inc.s.size
  · rw [if_pos (PS.more_iff.2 ⟨hie, hlt⟩), if_neg (by omega)]
    dsimp only
    obtain ⟨e1, e2⟩ := esc_eq (byte_le q.inc)
    generalize hx : esc q.inc.byte = x at e1 e2
    generalize hy : named8 q.inc.byte = y at e1 e2
    obtain ⟨n, s, m, k⟩ := x
    obtain ⟨s', o, k'⟩ := y
    dsimp only at e1 e2
    subst e1
    cases k with
    | true => exact ⟨hi.inc, fun _ => e2 rfl⟩
    | false =>
      refine ⟨?_, fun h' => absurd h' (RP.fail_e r.inc.inc (by decide))⟩
      show Al (r.inc.inc.fail 82) (q.inc.fail 82).inc
      have := hi.failInc' (e := 82) (by decide)
      refine Al.err (by rw [(fail_op _ _).2.2.2, ← this.s, (fail_op _ _).2.2.2]; rfl) ?_ (RP.fail_e _ (by decide))
      rw [← this.e]; unfold RP.fail
      rw [if_pos (show r.inc.inc.e = 0 from h0), if_pos (show r.inc.e = 0 from h0)]
  · rw [if_neg (fun h => hlt (PS.more_iff.1 h).2), if_pos (by omega)]
    exact ⟨hi.fail 82 (by decide), fun h' => absurd h' (RP.fail_e r.inc (by decide))⟩
/-- A member of a class. -/
theorem member_al {r : RP} {q : PS} (h : Al r q) (h0 : r.e = 0) (hlt : q.at_ < q.s.size) : Al r.member.2 q.single8.2.2 ∧
    (r.member.2.e = 0 → r.member.1.2.1 = q.single8.1 ∧ q.single8.2.1 = !r.member.1.2.2 ∧ (r.member.1.2.2 = false → r.member.1.2.1 = S4.zero.with1 r.member.1.1 ∧ r.member.1.1 ≤ 255)) := by
  have hm := h.more
  rw [if_pos (PS.more_iff.2 ⟨by rw [← h.e]; exact h0, hlt⟩)] at hm
  have hb := byte_le q
  unfold RP.member PS.single8
  rw [hm]
  dsimp only
  by_cases c1 : q.byte = 93 ∨ q.byte = 94 ∨ q.byte = 45
  · rw [if_pos c1, if_neg (by omega), if_pos (by omega)]
    exact ⟨h.failInc 80 (by decide), fun h' => absurd h' (RP.fail_e r (by decide))⟩
  · rw [if_neg c1]
    by_cases c2 : q.byte = 92
    · rw [if_pos c2, if_pos c2]; exact escape_al h h0
    · rw [if_neg c2, if_neg c2, if_neg (by omega)]
      exact ⟨h.inc, fun _ => ⟨with_self _ _, rfl, fun _ => ⟨with_self _ _, hb⟩⟩⟩
/-- An element of a class. -/
theorem element_al {r : RP} {q : PS} (h : Al r q) (h0 : r.e = 0) (hlt : q.at_ < q.s.size) :
    Al (r.member.2.elem r.member.1.1 r.member.1.2.1 r.member.1.2.2).2 q.element8.2 ∧ ((r.member.2.elem r.member.1.1 r.member.1.2.1 r.member.1.2.2).2.e = 0 → (r.member.2.elem r.member.1.1 r.member.1.2.1 r.member.1.2.2).1 = q.element8.1) := by
  obtain ⟨a1, a2⟩ := member_al h h0 hlt
  unfold PS.element8
  generalize r.member = X at a1 a2
  generalize q.single8 = Y at a1 a2
  obtain ⟨⟨f, set, many⟩, r1⟩ := X
  obtain ⟨a, one, q1⟩ := Y
  dsimp only at a1 a2 ⊢
  have hm := a1.more
  unfold RP.elem
  by_cases hc : q1.more = true ∧ q1.byte = 45
  · rw [if_pos hc]
    rw [if_pos hc.1, hc.2] at hm
    rw [if_pos hm]
    obtain ⟨g1, g2⟩ := PS.more_iff.1 hc.1
    have r0 : r1.e = 0 := by rw [a1.e]; exact g1
    obtain ⟨b1, b2, b3⟩ := a2 r0
    subst b1 b2
    cases many with
    | true =>
      rw [if_pos (show (!true) = false ∨ q1.s.size ≤ q1.at_ + 1 from Or.inl rfl)]
      rw [show (if (true = true) then r1.inc.fail 80 else r1.inc) = r1.inc.fail 80 from if_pos rfl]
      have hal := a1.inc.fail 80 (by decide)
      have hne := RP.fail_e r1.inc (e := 80) (by decide)
      have hl : (r1.inc.fail 80).Le (r1.inc.fail 80).member.2 := (member_le (x := (r1.inc.fail 80).member.1) rfl).1
      have e1 : (r1.inc.fail 80).member.2.e = (r1.inc.fail 80).e := hl.e hne
      have hne2 : (r1.inc.fail 80).member.2.e ≠ 0 := by rw [e1]; exact hne
      have e2 : ∀ c : Prop, ∀ _ : Decidable c, (if c then (r1.inc.fail 80).member.2.fail 80 else (r1.inc.fail 80).member.2).e = (r1.inc.fail 80).e ∧ (if c then (r1.inc.fail 80).member.2.fail 80 else (r1.inc.fail 80).member.2).s = (r1.inc.fail 80).s := by
        intro c _
        by_cases hc : c
        · rw [if_pos hc]; unfold RP.fail at hne2 e1 ⊢; rw [if_neg hne2]; exact ⟨e1, hl.s⟩
        · rw [if_neg hc]; exact ⟨e1, hl.s⟩
      dsimp only
      obtain ⟨e3, e4⟩ := e2 ((r1.inc.fail 80).member.1.2.2 = true ∨ (r1.inc.fail 80).member.1.1 < f) inferInstance
      exact ⟨Al.err (e4.trans hal.s) (e3.trans hal.e) (by rw [e3]; exact hne), fun h' => absurd h' (by rw [e3]; exact hne)⟩
    | false =>
      rw [show (if (false = true) then r1.inc.fail 80 else r1.inc) = r1.inc from if_neg (by decide)]
      by_cases hend : q1.s.size ≤ q1.at_ + 1
      · rw [if_pos (.inr hend)]
        have hn : r1.inc.next = (0, false) := by
          rw [a1.inc.more, if_neg (fun h => by have := (PS.more_iff.1 h).2; simp only [PS.inc] at this; omega)]
        have hmem : r1.inc.member = ((0, S4.zero, false), r1.inc.fail 80) := by unfold RP.member; rw [hn]
        rw [hmem]
        dsimp only
        have hne := RP.fail_e r1.inc (e := 80) (by decide)
        have hff : (r1.inc.fail 80).fail 80 = r1.inc.fail 80 := by
          conv => lhs; unfold RP.fail
          exact if_neg hne
        rw [hff, ite_self]
        exact ⟨a1.inc.fail 80 (by decide), fun h' => absurd h' hne⟩
      · rw [if_neg (by rintro (h | h); · exact absurd h (by decide)
                       · exact hend h)]
        obtain ⟨k1, k2⟩ := member_al a1.inc r0 (by simp only [PS.inc]; omega)
        have hml : r1.inc.Le r1.inc.member.2 := (member_le (x := r1.inc.member.1) rfl).1
        generalize r1.inc.member = Z at k1 k2 hml
        generalize q1.inc.single8 = W at k1 k2
        obtain ⟨⟨last, s2, many2⟩, r4⟩ := Z
        obtain ⟨b, two, q3⟩ := W
        dsimp only at k1 k2 ⊢
        by_cases he : r4.e = 0
        · obtain ⟨c1, c2, c3⟩ := k2 he
          subst c1 c2
          have he3 : q3.e = 0 := by rw [← k1.e]; exact he
          obtain ⟨d1, d2⟩ := b3 rfl
          subst d1
          rw [only_with1 d2]
          cases many2 with
          | true =>
            rw [if_pos (.inl rfl), if_pos ⟨he3, .inl rfl⟩]
            exact ⟨k1.fail 80 (by decide), fun h' => absurd h' (RP.fail_e r4 (by decide))⟩
          | false =>
            obtain ⟨d3, d4⟩ := c3 rfl
            subst d3
            rw [only_with1 d4]
            by_cases hlf : last < f
            · rw [if_pos (.inr hlf), if_pos ⟨he3, .inr hlf⟩]
              exact ⟨k1.fail 80 (by decide), fun h' => absurd h' (RP.fail_e r4 (by decide))⟩
            · rw [if_neg (by rintro (h | h); · exact absurd h (by decide)
                             · exact hlf h), if_neg (by rintro ⟨_, h | h⟩; · exact absurd h (by decide)
                                                        · exact hlf h)]
              exact ⟨k1, fun _ => with_range d2 (by omega)⟩
        · have he3 : ¬ q3.e = 0 := by rw [← k1.e]; exact he
          have hrf : ∀ c : Prop, ∀ _ : Decidable c, (if c then r4.fail 80 else r4) = r4 := by
            intro c _
            by_cases hc : c
            · rw [if_pos hc]; unfold RP.fail; rw [if_neg he]
            · rw [if_neg hc]
          rw [hrf, if_neg (fun h => he3 h.1)]
          exact ⟨k1, fun h' => absurd h' he⟩
  · rw [if_neg hc]
    have hn : ¬ r1.next = (45, true) := by
      intro hn
      rw [hn] at hm
      by_cases hq : q1.more = true
      · rw [if_pos hq] at hm; exact hc ⟨hq, (Prod.mk.inj hm).1.symm⟩
      · rw [if_neg hq] at hm; exact absurd (Prod.mk.inj hm).2 (by decide)
    rw [if_neg hn]
    exact ⟨a1, fun h' => (a2 h').1⟩
theorem classLoop8_e : ∀ (f : Nat) (neg : Bool) (n : Nat) (s : S4) (q : PS), q.e ≠ 0 → (PS.classLoop8 f neg n s q).2.e = q.e ∧ (PS.classLoop8 f neg n s q).2.s = q.s
  | 0, _, _, _, q, h => ⟨rfl, rfl⟩
  | f + 1, neg, n, s, q, h => by
    unfold PS.classLoop8
    rw [if_neg (fun hm => h (PS.more_iff.1 hm).1)]
    unfold PS.fail; rw [if_neg h]; exact ⟨rfl, rfl⟩
/-- The members of a class. -/
theorem classLoop_al (neg : Bool) : ∀ (f f' n : Nat) (some_ : Bool) (s : S4) (r : RP) (q : PS), Al r q → r.e = 0 → (some_ = true ↔ n ≠ 0) → q.at_ ≤ q.s.size → q.s.size < f + q.at_ → q.s.size < f' + q.at_ →
    Al (r.classLoop f some_ s).2 (PS.classLoop8 f' neg n s q).2 ∧ ((r.classLoop f some_ s).2.e = 0 → (r.classLoop f some_ s).1.2 = true ∧ (PS.classLoop8 f' neg n s q).1 = (if neg = true then (r.classLoop f some_ s).1.1.not else (r.classLoop f some_ s).1.1))
  | 0, _, _, _, _, _, _, _, _, _, h, hf, _ => absurd hf (by omega)
  | _, 0, _, _, _, _, _, _, _, _, h, _, hf => absurd hf (by omega)
  | f + 1, f' + 1, n, some_, s, r, q, h, h0, hs, hat, hf, hf' => by
    have hm := h.more
    have hq0 : q.e = 0 := by rw [← h.e]; exact h0
    unfold RP.classLoop PS.classLoop8
    by_cases hlt : q.at_ < q.s.size
    · have hmo : q.more = true := PS.more_iff.2 ⟨hq0, hlt⟩
      rw [if_pos hmo] at hm ⊢
      have main : ¬ (r.next = (93, true) ∧ some_ = true) → q.byte ≠ 93 →
          Al (if (r.member.2.elem r.member.1.1 r.member.1.2.1 r.member.1.2.2).2.e ≠ 0 then ((S4.zero, false), (r.member.2.elem r.member.1.1 r.member.1.2.1 r.member.1.2.2).2) else RP.classLoop f true (s.or (r.member.2.elem r.member.1.1 r.member.1.2.1 r.member.1.2.2).1) (r.member.2.elem r.member.1.1 r.member.1.2.1 r.member.1.2.2).2).2
            (PS.classLoop8 f' neg (n + 1) (s.or q.element8.1) q.element8.2).2 ∧
          ((if (r.member.2.elem r.member.1.1 r.member.1.2.1 r.member.1.2.2).2.e ≠ 0 then ((S4.zero, false), (r.member.2.elem r.member.1.1 r.member.1.2.1 r.member.1.2.2).2) else RP.classLoop f true (s.or (r.member.2.elem r.member.1.1 r.member.1.2.1 r.member.1.2.2).1) (r.member.2.elem r.member.1.1 r.member.1.2.1 r.member.1.2.2).2).2.e = 0 →
            (if (r.member.2.elem r.member.1.1 r.member.1.2.1 r.member.1.2.2).2.e ≠ 0 then ((S4.zero, false), (r.member.2.elem r.member.1.1 r.member.1.2.1 r.member.1.2.2).2) else RP.classLoop f true (s.or (r.member.2.elem r.member.1.1 r.member.1.2.1 r.member.1.2.2).1) (r.member.2.elem r.member.1.1 r.member.1.2.1 r.member.1.2.2).2).1.2 = true ∧
            (PS.classLoop8 f' neg (n + 1) (s.or q.element8.1) q.element8.2).1 = (if neg = true then (if (r.member.2.elem r.member.1.1 r.member.1.2.1 r.member.1.2.2).2.e ≠ 0 then ((S4.zero, false), (r.member.2.elem r.member.1.1 r.member.1.2.1 r.member.1.2.2).2) else RP.classLoop f true (s.or (r.member.2.elem r.member.1.1 r.member.1.2.1 r.member.1.2.2).1) (r.member.2.elem r.member.1.1 r.member.1.2.1 r.member.1.2.2).2).1.1.not
              else (if (r.member.2.elem r.member.1.1 r.member.1.2.1 r.member.1.2.2).2.e ≠ 0 then ((S4.zero, false), (r.member.2.elem r.member.1.1 r.member.1.2.1 r.member.1.2.2).2) else RP.classLoop f true (s.or (r.member.2.elem r.member.1.1 r.member.1.2.1 r.member.1.2.2).1) (r.member.2.elem r.member.1.1 r.member.1.2.1 r.member.1.2.2).2).1.1)) := by
        intro _ _
        obtain ⟨e1, e2⟩ := element_al h h0 hlt
        have hml : r.Le r.member.2 ∧ _ := member_le (x := r.member.1) rfl
        have hel : r.member.2.Le (r.member.2.elem r.member.1.1 r.member.1.2.1 r.member.1.2.2).2 := elem_le (r1 := r.member.2) (first := r.member.1.1) (set := r.member.1.2.1) (many := r.member.1.2.2) (set' := (r.member.2.elem r.member.1.1 r.member.1.2.1 r.member.1.2.2).1) rfl
        have hmo := PS.element8_mo q
        have hra : (r.member.2.elem r.member.1.1 r.member.1.2.1 r.member.1.2.2).2.e = 0 → (r.member.2.elem r.member.1.1 r.member.1.2.1 r.member.1.2.2).2.at_ ≤ r.s.size := fun h5 => by
          have h6 := (member_sh (r := r) (by rw [h.s, h.at_ h0]; exact hat) (hel.ok h5)).2
          have := (elem_sh (r := r.member.2) (first := r.member.1.1) (set := r.member.1.2.1) (many := r.member.1.2.2) (by rw [hml.1.s]; exact h6) h5).2
          rw [hml.1.s] at this; exact this
        generalize r.member.2.elem r.member.1.1 r.member.1.2.1 r.member.1.2.2 = X at e1 e2 hel hra
        generalize q.element8 = Y at e1 e2 hmo
        obtain ⟨set', r5⟩ := X
        obtain ⟨x, q1⟩ := Y
        dsimp only at e1 e2 hmo hel hra ⊢
        by_cases he : r5.e ≠ 0
        · rw [if_pos he]
          obtain ⟨k1, k2⟩ := classLoop8_e f' neg (n + 1) (s.or x) q1 (by rw [← e1.e]; exact he)
          exact ⟨Al.err (by rw [k2]; exact e1.s) (by rw [k1]; exact e1.e) he, fun h' => absurd h' he⟩
        · rw [if_neg he]
          have he : r5.e = 0 := by omega
          have := e2 he
          subst this
          have hqs := hmo.1.s
          have hqa : q1.at_ ≤ q1.s.size := by
            have := hra he
            rw [hqs, ← h.s, ← e1.at_ he]; exact this
          exact classLoop_al neg f f' (n + 1) true _ r5 q1 e1 he (by simp) hqa (by rw [hqs]; have := hmo.2; omega) (by rw [hqs]; have := hmo.2; omega)
      by_cases hb : q.byte = 93
      · rw [if_pos hb]
        cases some_ with
        | true =>
          have hn0 : n ≠ 0 := hs.1 rfl
          rw [if_pos ⟨by rw [hm, hb], rfl⟩, if_neg hn0]
          exact ⟨h.inc, fun _ => ⟨rfl, rfl⟩⟩
        | false =>
          have hn0 : n = 0 := by
            by_cases hn : n = 0
            · exact hn
            · exact absurd (hs.2 hn) (by decide)
          rw [if_neg (fun h => absurd h.2 (by decide)), if_pos hn0]
          have hmem : r.member = ((0, S4.zero, false), r.fail 80) := by
            unfold RP.member; rw [hm]; dsimp only; rw [if_pos (.inl hb)]
          have hne := RP.fail_e r (e := 80) (by decide)
          have hel : (r.fail 80).elem 0 S4.zero false = (S4.zero, r.fail 80) := by
            unfold RP.elem
            rw [if_neg]
            intro hx
            exact hne (RP.next_some hx).1
          rw [hmem]
          dsimp only
          rw [hel]
          dsimp only
          rw [if_pos hne]
          exact ⟨h.failInc' 80 (by decide), fun h' => absurd h' hne⟩
      · rw [if_neg hb]
        have hno : ¬ (r.next = (93, true) ∧ some_ = true) := fun h => hb (by rw [hm] at h; exact (Prod.mk.inj h.1).1)
        rw [if_neg hno]
        exact main hno hb
    · have hmo : ¬ q.more = true := fun h => hlt (PS.more_iff.1 h).2
      rw [if_neg hmo] at hm ⊢
      rw [if_neg (fun h => by rw [hm] at h; exact absurd (Prod.mk.inj h.1).2 (by decide))]
      have hmem : r.member = ((0, S4.zero, false), r.fail 80) := by
        unfold RP.member; rw [hm]
      have hne := RP.fail_e r (e := 80) (by decide)
      have hel : (r.fail 80).elem 0 S4.zero false = (S4.zero, r.fail 80) := by
        unfold RP.elem
        rw [if_neg]
        intro hx
        exact hne (RP.next_some hx).1
      rw [hmem]
      dsimp only
      rw [hel]
      dsimp only
      rw [if_pos hne]
      exact ⟨h.fail 80 (by decide), fun h' => absurd h' hne⟩
end Go.Proofs.Ytaffcoiomggpfaa
