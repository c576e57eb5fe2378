import Derived.Test.YtaffcoiomggpfaaVShift
/- The two parsers of patterns find the same: escapes and classes. -/
namespace Go.Proofs.Ytaffcoiomggpfaa
open Go.V
attribute [local irreducible] app
set_option linter.unusedVariables false

/-! ### Sets -/
theorem with1_256 : (List.range 256).all (fun c => decide ((S4.zero.with1 c).with1 c = S4.zero.with1 c) && decide (only8 (S4.zero.with1 c) = c)) = true := by decide +kernel
theorem with1_twice {c : Nat} (h : c ≤ 255) : (S4.zero.with1 c).with1 c = S4.zero.with1 c := by
  have := List.all_eq_true.1 with1_256 c (List.mem_range.2 (by omega))
  simp only [Bool.and_eq_true, decide_eq_true_eq] at this; exact this.1
theorem only_with1 {c : Nat} (h : c ≤ 255) : only8 (S4.zero.with1 c) = c := by
  have := List.all_eq_true.1 with1_256 c (List.mem_range.2 (by omega))
  simp only [Bool.and_eq_true, decide_eq_true_eq] at this; exact this.2
theorem with_self (s : S4) (c : Nat) : s.with_ c c = s.with1 c := by
  unfold S4.with_; rw [show c + 1 - c = 1 by omega]; rfl
theorem withN_first (s : S4) (f : Nat) (h : (s.with1 f).with1 f = s.with1 f) : ∀ n, (s.with1 f).withN f (n + 1) = s.withN f (n + 1)
  | 0 => h
  | n + 1 => by
    have := withN_first s f h n
    show ((s.with1 f).withN f (n + 1)).with1 _ = (s.withN f (n + 1)).with1 _
    rw [this]
theorem with_range {f l : Nat} (hf : f ≤ 255) (hl : f ≤ l) : (S4.zero.with1 f).with_ f l = S4.zero.with_ f l := by
  unfold S4.with_
  rw [show l + 1 - f = (l - f) + 1 by omega]
  exact withN_first _ _ (with1_twice hf) _
def esc (c : Nat) : Nat × S4 × Bool × Bool := match named c with
  | (s, true) => (0, s, true, true)
  | (_, false) => match single c with
    | (n, k) => (n, S4.zero.with_ n n, false, k)
def escOk (c : Nat) : Bool :=
  let x := esc c
  let y := named8 c
  decide (x.2.2.2 = y.2.2) && (!y.2.2 || decide (x.2.1 = y.1) && decide (y.2.1 = !x.2.2.1) && (x.2.2.1 || decide (x.2.1 = S4.zero.with1 x.1) && decide (x.1 ≤ 255)))
theorem esc_256 : (List.range 256).all escOk = true := by decide +kernel
theorem esc_eq {c : Nat} (h : c ≤ 255) : (esc c).2.2.2 = (named8 c).2.2 ∧ ((named8 c).2.2 = true → (esc c).2.1 = (named8 c).1 ∧ (named8 c).2.1 = !(esc c).2.2.1 ∧ ((esc c).2.2.1 = false → (esc c).2.1 = S4.zero.with1 (esc c).1 ∧ (esc c).1 ≤ 255)) := by
  have := List.all_eq_true.1 esc_256 c (List.mem_range.2 (by omega))
  unfold escOk at this
  simp only [Bool.and_eq_true, decide_eq_true_eq, Bool.or_eq_true, Bool.not_eq_true'] at this
  refine ⟨this.1, fun hy => ?_⟩
  rcases this.2 with h | ⟨⟨h1, h2⟩, h3⟩
  · rw [hy] at h; cases h
  · refine ⟨h1, h2, fun hm => ?_⟩
    rcases h3 with h3 | h3
    · rw [hm] at h3; cases h3
    · exact h3
theorem escape_esc (r : RP) : r.escape = (match r.inc.next with
  | (c, false) => ((0, S4.zero, false), r.inc.fail 82)
  | (c, true) => (((esc c).1, (esc c).2.1, (esc c).2.2.1), if (esc c).2.2.2 = true then r.inc.inc else r.inc.inc.fail 82)) := by
  unfold RP.escape
  cases r.inc.next with
  | mk c k =>
    cases k with
    | false => rfl
    | true =>
      dsimp only
      unfold esc
      cases named c with
      | mk s k =>
        cases k with
        | true => rfl
        | false => rfl

/-! ### The two states -/
structure Al (r : RP) (q : PS) : Prop where
  s : r.s = q.s
  e : r.e = q.e
  at_ : r.e = 0 → r.at_ = q.at_
theorem Al.more {r : RP} {q : PS} (h : Al r q) : r.next = (if q.more = true then (q.byte, true) else (0, false)) := by
  unfold RP.next PS.more PS.byte
  by_cases he : r.e = 0
  · have := h.at_ he
    have h2 := h.e
    rw [h.s, this]
    by_cases hlt : q.at_ < q.s.size
    · rw [if_neg (by omega), if_pos (by simp; omega)]
    · rw [if_pos (by omega), if_neg (by simp; omega)]
  · have h2 := h.e
    rw [if_pos (.inl he), if_neg (by simp; omega)]
theorem Al.inc {r : RP} {q : PS} (h : Al r q) : Al r.inc q.inc := ⟨h.s, h.e, fun he => congrArg (· + 1) (h.at_ he)⟩
theorem Al.fail {r : RP} {q : PS} (h : Al r q) (e : Int) (he : e ≠ 0) : Al (r.fail e) (q.fail e) := by
  unfold RP.fail PS.fail
  have h2 := h.e
  by_cases hr : r.e = 0
  · rw [if_pos hr, if_pos (by omega)]; exact ⟨h.s, rfl, fun h' => absurd h' he⟩
  · rw [if_neg hr, if_neg (by omega)]; exact h
theorem Al.err {r : RP} {q : PS} (hs : r.s = q.s) (he : r.e = q.e) (hn : r.e ≠ 0) : Al r q := ⟨hs, he, fun h => absurd h hn⟩
theorem Al.failInc {r : RP} {q : PS} (h : Al r q) (e : Int) (he : e ≠ 0) : Al (r.fail e) (q.inc.fail e) := by
  unfold RP.fail PS.fail
  have h2 := h.e
  by_cases hr : r.e = 0
  · rw [if_pos hr, if_pos (show q.inc.e = 0 from by simp only [PS.inc]; omega)]; exact ⟨h.s, rfl, fun h' => absurd h' he⟩
  · rw [if_neg hr, if_neg (show ¬ q.inc.e = 0 from by simp only [PS.inc]; omega)]; exact ⟨h.s, h.e, fun h' => absurd h' hr⟩
theorem Al.failInc' {r : RP} {q : PS} (h : Al r q) (e : Int) (he : e ≠ 0) : Al (r.fail e) (q.fail e).inc := by
  have := h.fail e he
  have hn : (r.fail e).e ≠ 0 := RP.fail_e r he
  exact ⟨this.s, this.e, fun h' => absurd h' hn⟩
theorem byte_le (q : PS) : q.byte ≤ 255 := byteAt_le _ _
theorem escape_al {r : RP} {q : PS} (h : Al r q) (h0 : r.e = 0) : Al r.escape.2 q.inc.escape8.2.2 ∧
    (r.escape.2.e = 0 → r.escape.1.2.1 = q.inc.escape8.1 ∧ q.inc.escape8.2.1 = !r.escape.1.2.2 ∧ (r.escape.1.2.2 = false → r.escape.1.2.1 = S4.zero.with1 r.escape.1.1 ∧ r.escape.1.1 ≤ 255)) := by
  have hi := h.inc
  have hm := hi.more
  have hie : q.inc.e = 0 := by rw [← hi.e]; exact h0
  rw [escape_esc, hm]
  unfold PS.escape8
  by_cases hlt : q.inc.at_ < q.inc.s.size
  · rw [if_pos (PS.more_iff.2 ⟨hie, hlt⟩), if_neg (by omega)]
    dsimp only
    obtain ⟨e1, e2⟩ := esc_eq (byte_le q.inc)
    generalize hx : esc q.inc.byte = x at e1 e2
    generalize hy : named8 q.inc.byte = y at e1 e2
    obtain ⟨n, s, m, k⟩ := x
    obtain ⟨s', o, k'⟩ := y
    dsimp only at e1 e2
    subst e1
    cases k with
    | true => exact ⟨hi.inc, fun _ => e2 rfl⟩
    | false =>
      refine ⟨?_, fun h' => absurd h' (RP.fail_e r.inc.inc (by decide))⟩
      show Al (r.inc.inc.fail 82) (q.inc.fail 82).inc
      have := hi.failInc' (e := 82) (by decide)
      refine Al.err (by rw [(fail_op _ _).2.2.2, ← this.s, (fail_op _ _).2.2.2]; rfl) ?_ (RP.fail_e _ (by decide))
      rw [← this.e]; unfold RP.fail
      rw [if_pos (show r.inc.inc.e = 0 from h0), if_pos (show r.inc.e = 0 from h0)]
  · rw [if_neg (fun h => hlt (PS.more_iff.1 h).2), if_pos (by omega)]
    exact ⟨hi.fail 82 (by decide), fun h' => absurd h' (RP.fail_e r.inc (by decide))⟩
theorem member_al {r : RP} {q : PS} (h : Al r q) (h0 : r.e = 0) (hlt : q.at_ < q.s.size) : Al r.member.2 q.single8.2.2 ∧
    (r.member.2.e = 0 → r.member.1.2.1 = q.single8.1 ∧ q.single8.2.1 = !r.member.1.2.2 ∧ (r.member.1.2.2 = false → r.member.1.2.1 = S4.zero.with1 r.member.1.1 ∧ r.member.1.1 ≤ 255)) := by
  have hm := h.more
  rw [if_pos (PS.more_iff.2 ⟨by rw [← h.e]; exact h0, hlt⟩)] at hm
  have hb := byte_le q
  unfold RP.member PS.single8
  rw [hm]
  dsimp only
  by_cases c1 : q.byte = 93 ∨ q.byte = 94 ∨ q.byte = 45
  · rw [if_pos c1, if_neg (by omega), if_pos (by omega)]
    exact ⟨h.failInc 80 (by decide), fun h' => absurd h' (RP.fail_e r (by decide))⟩
  · rw [if_neg c1]
    by_cases c2 : q.byte = 92
    · rw [if_pos c2, if_pos c2]; exact escape_al h h0
    · rw [if_neg c2, if_neg c2, if_neg (by omega)]
      exact ⟨h.inc, fun _ => ⟨with_self _ _, rfl, fun _ => ⟨with_self _ _, hb⟩⟩⟩
theorem element_al {r : RP} {q : PS} (h : Al r q) (h0 : r.e = 0) (hlt : q.at_ < q.s.size) :
    Al (r.member.2.elem r.member.1.1 r.member.1.2.1 r.member.1.2.2).2 q.element8.2 ∧ ((r.member.2.elem r.member.1.1 r.member.1.2.1 r.member.1.2.2).2.e = 0 → (r.member.2.elem r.member.1.1 r.member.1.2.1 r.member.1.2.2).1 = q.element8.1) := by
  obtain ⟨a1, a2⟩ := member_al h h0 hlt
  unfold PS.element8
  generalize r.member = X at a1 a2
  generalize q.single8 = Y at a1 a2
  obtain ⟨⟨f, set, many⟩, r1⟩ := X
  obtain ⟨a, one, q1⟩ := Y
  dsimp only at a1 a2 ⊢
  have hm := a1.more
  unfold RP.elem
  by_cases hc : q1.more = true ∧ q1.byte = 45
  · rw [if_pos hc]
    rw [if_pos hc.1, hc.2] at hm
    rw [if_pos hm]
    obtain ⟨g1, g2⟩ := PS.more_iff.1 hc.1
    have r0 : r1.e = 0 := by rw [a1.e]; exact g1
    obtain ⟨b1, b2, b3⟩ := a2 r0
    subst b1 b2
    cases many with
    | true =>
      rw [if_pos (show (!true) = false ∨ q1.s.size ≤ q1.at_ + 1 from Or.inl rfl)]
      rw [show (if (true = true) then r1.inc.fail 80 else r1.inc) = r1.inc.fail 80 from if_pos rfl]
      have hal := a1.inc.fail 80 (by decide)
      have hne := RP.fail_e r1.inc (e := 80) (by decide)
      have hl : (r1.inc.fail 80).Le (r1.inc.fail 80).member.2 := (member_le (x := (r1.inc.fail 80).member.1) rfl).1
      have e1 : (r1.inc.fail 80).member.2.e = (r1.inc.fail 80).e := hl.e hne
      have hne2 : (r1.inc.fail 80).member.2.e ≠ 0 := by rw [e1]; exact hne
      have e2 : ∀ c : Prop, ∀ _ : Decidable c, (if c then (r1.inc.fail 80).member.2.fail 80 else (r1.inc.fail 80).member.2).e = (r1.inc.fail 80).e ∧ (if c then (r1.inc.fail 80).member.2.fail 80 else (r1.inc.fail 80).member.2).s = (r1.inc.fail 80).s := by
        intro c _
        by_cases hc : c
        · rw [if_pos hc]; unfold RP.fail at hne2 e1 ⊢; rw [if_neg hne2]; exact ⟨e1, hl.s⟩
        · rw [if_neg hc]; exact ⟨e1, hl.s⟩
      dsimp only
      obtain ⟨e3, e4⟩ := e2 ((r1.inc.fail 80).member.1.2.2 = true ∨ (r1.inc.fail 80).member.1.1 < f) inferInstance
      exact ⟨Al.err (e4.trans hal.s) (e3.trans hal.e) (by rw [e3]; exact hne), fun h' => absurd h' (by rw [e3]; exact hne)⟩
    | false =>
      rw [show (if (false = true) then r1.inc.fail 80 else r1.inc) = r1.inc from if_neg (by decide)]
      by_cases hend : q1.s.size ≤ q1.at_ + 1
      · rw [if_pos (.inr hend)]
        have hn : r1.inc.next = (0, false) := by
          rw [a1.inc.more, if_neg (fun h => by have := (PS.more_iff.1 h).2; simp only [PS.inc] at this; omega)]
        have hmem : r1.inc.member = ((0, S4.zero, false), r1.inc.fail 80) := by unfold RP.member; rw [hn]
        rw [hmem]
        dsimp only
        have hne := RP.fail_e r1.inc (e := 80) (by decide)
        have hff : (r1.inc.fail 80).fail 80 = r1.inc.fail 80 := by
          conv => lhs; unfold RP.fail
          exact if_neg hne
        rw [hff, ite_self]
        exact ⟨a1.inc.fail 80 (by decide), fun h' => absurd h' hne⟩
      · rw [if_neg (by rintro (h | h); · exact absurd h (by decide)
                       · exact hend h)]
        obtain ⟨k1, k2⟩ := member_al a1.inc r0 (by simp only [PS.inc]; omega)
        have hml : r1.inc.Le r1.inc.member.2 := (member_le (x := r1.inc.member.1) rfl).1
        generalize r1.inc.member = Z at k1 k2 hml
        generalize q1.inc.single8 = W at k1 k2
        obtain ⟨⟨last, s2, many2⟩, r4⟩ := Z
        obtain ⟨b, two, q3⟩ := W
        dsimp only at k1 k2 ⊢
        by_cases he : r4.e = 0
        · obtain ⟨c1, c2, c3⟩ := k2 he
          subst c1 c2
          have he3 : q3.e = 0 := by rw [← k1.e]; exact he
          obtain ⟨d1, d2⟩ := b3 rfl
          subst d1
          rw [only_with1 d2]
          cases many2 with
          | true =>
            rw [if_pos (.inl rfl), if_pos ⟨he3, .inl rfl⟩]
            exact ⟨k1.fail 80 (by decide), fun h' => absurd h' (RP.fail_e r4 (by decide))⟩
          | false =>
            obtain ⟨d3, d4⟩ := c3 rfl
            subst d3
            rw [only_with1 d4]
            by_cases hlf : last < f
            · rw [if_pos (.inr hlf), if_pos ⟨he3, .inr hlf⟩]
              exact ⟨k1.fail 80 (by decide), fun h' => absurd h' (RP.fail_e r4 (by decide))⟩
            · rw [if_neg (by rintro (h | h); · exact absurd h (by decide)
                             · exact hlf h), if_neg (by rintro ⟨_, h | h⟩; · exact absurd h (by decide)
                                                        · exact hlf h)]
              exact ⟨k1, fun _ => with_range d2 (by omega)⟩
        · have he3 : ¬ q3.e = 0 := by rw [← k1.e]; exact he
          have hrf : ∀ c : Prop, ∀ _ : Decidable c, (if c then r4.fail 80 else r4) = r4 := by
            intro c _
            by_cases hc : c
            · rw [if_pos hc]; unfold RP.fail; rw [if_neg he]
            · rw [if_neg hc]
          rw [hrf, if_neg (fun h => he3 h.1)]
          exact ⟨k1, fun h' => absurd h' he⟩
  · rw [if_neg hc]
    have hn : ¬ r1.next = (45, true) := by
      intro hn
      rw [hn] at hm
      by_cases hq : q1.more = true
      · rw [if_pos hq] at hm; exact hc ⟨hq, (Prod.mk.inj hm).1.symm⟩
      · rw [if_neg hq] at hm; exact absurd (Prod.mk.inj hm).2 (by decide)
    rw [if_neg hn]
    exact ⟨a1, fun h' => (a2 h').1⟩
theorem classLoop8_e : ∀ (f : Nat) (neg : Bool) (n : Nat) (s : S4) (q : PS), q.e ≠ 0 → (PS.classLoop8 f neg n s q).2.e = q.e ∧ (PS.classLoop8 f neg n s q).2.s = q.s
  | 0, _, _, _, q, h => ⟨rfl, rfl⟩
  | f + 1, neg, n, s, q, h => by
    unfold PS.classLoop8
    rw [if_neg (fun hm => h (PS.more_iff.1 hm).1)]
    unfold PS.fail; rw [if_neg h]; exact ⟨rfl, rfl⟩
theorem classLoop_al (neg : Bool) : ∀ (f f' n : Nat) (some_ : Bool) (s : S4) (r : RP) (q : PS), Al r q → r.e = 0 → (some_ = true ↔ n ≠ 0) → q.at_ ≤ q.s.size → q.s.size < f + q.at_ → q.s.size < f' + q.at_ →
    Al (r.classLoop f some_ s).2 (PS.classLoop8 f' neg n s q).2 ∧ ((r.classLoop f some_ s).2.e = 0 → (r.classLoop f some_ s).1.2 = true ∧ (PS.classLoop8 f' neg n s q).1 = (if neg = true then (r.classLoop f some_ s).1.1.not else (r.classLoop f some_ s).1.1))
  | 0, _, _, _, _, _, _, _, _, _, h, hf, _ => absurd hf (by omega)
  | _, 0, _, _, _, _, _, _, _, _, h, _, hf => absurd hf (by omega)
  | f + 1, f' + 1, n, some_, s, r, q, h, h0, hs, hat, hf, hf' => by
    have hm := h.more
    have hq0 : q.e = 0 := by rw [← h.e]; exact h0
    unfold RP.classLoop PS.classLoop8
    by_cases hlt : q.at_ < q.s.size
    · have hmo : q.more = true := PS.more_iff.2 ⟨hq0, hlt⟩
      rw [if_pos hmo] at hm ⊢
      have main : ¬ (r.next = (93, true) ∧ some_ = true) → q.byte ≠ 93 →
          Al (if (r.member.2.elem r.member.1.1 r.member.1.2.1 r.member.1.2.2).2.e ≠ 0 then ((S4.zero, false), (r.member.2.elem r.member.1.1 r.member.1.2.1 r.member.1.2.2).2) else RP.classLoop f true (s.or (r.member.2.elem r.member.1.1 r.member.1.2.1 r.member.1.2.2).1) (r.member.2.elem r.member.1.1 r.member.1.2.1 r.member.1.2.2).2).2
            (PS.classLoop8 f' neg (n + 1) (s.or q.element8.1) q.element8.2).2 ∧
          ((if (r.member.2.elem r.member.1.1 r.member.1.2.1 r.member.1.2.2).2.e ≠ 0 then ((S4.zero, false), (r.member.2.elem r.member.1.1 r.member.1.2.1 r.member.1.2.2).2) else RP.classLoop f true (s.or (r.member.2.elem r.member.1.1 r.member.1.2.1 r.member.1.2.2).1) (r.member.2.elem r.member.1.1 r.member.1.2.1 r.member.1.2.2).2).2.e = 0 →
            (if (r.member.2.elem r.member.1.1 r.member.1.2.1 r.member.1.2.2).2.e ≠ 0 then ((S4.zero, false), (r.member.2.elem r.member.1.1 r.member.1.2.1 r.member.1.2.2).2) else RP.classLoop f true (s.or (r.member.2.elem r.member.1.1 r.member.1.2.1 r.member.1.2.2).1) (r.member.2.elem r.member.1.1 r.member.1.2.1 r.member.1.2.2).2).1.2 = true ∧
            (PS.classLoop8 f' neg (n + 1) (s.or q.element8.1) q.element8.2).1 = (if neg = true then (if (r.member.2.elem r.member.1.1 r.member.1.2.1 r.member.1.2.2).2.e ≠ 0 then ((S4.zero, false), (r.member.2.elem r.member.1.1 r.member.1.2.1 r.member.1.2.2).2) else RP.classLoop f true (s.or (r.member.2.elem r.member.1.1 r.member.1.2.1 r.member.1.2.2).1) (r.member.2.elem r.member.1.1 r.member.1.2.1 r.member.1.2.2).2).1.1.not
              else (if (r.member.2.elem r.member.1.1 r.member.1.2.1 r.member.1.2.2).2.e ≠ 0 then ((S4.zero, false), (r.member.2.elem r.member.1.1 r.member.1.2.1 r.member.1.2.2).2) else RP.classLoop f true (s.or (r.member.2.elem r.member.1.1 r.member.1.2.1 r.member.1.2.2).1) (r.member.2.elem r.member.1.1 r.member.1.2.1 r.member.1.2.2).2).1.1)) := by
        intro _ _
        obtain ⟨e1, e2⟩ := element_al h h0 hlt
        have hml : r.Le r.member.2 ∧ _ := member_le (x := r.member.1) rfl
        have hel : r.member.2.Le (r.member.2.elem r.member.1.1 r.member.1.2.1 r.member.1.2.2).2 := elem_le (r1 := r.member.2) (first := r.member.1.1) (set := r.member.1.2.1) (many := r.member.1.2.2) (set' := (r.member.2.elem r.member.1.1 r.member.1.2.1 r.member.1.2.2).1) rfl
        have hmo := PS.element8_mo q
        have hra : (r.member.2.elem r.member.1.1 r.member.1.2.1 r.member.1.2.2).2.e = 0 → (r.member.2.elem r.member.1.1 r.member.1.2.1 r.member.1.2.2).2.at_ ≤ r.s.size := fun h5 => by
          have h6 := (member_sh (r := r) (by rw [h.s, h.at_ h0]; exact hat) (hel.ok h5)).2
          have := (elem_sh (r := r.member.2) (first := r.member.1.1) (set := r.member.1.2.1) (many := r.member.1.2.2) (by rw [hml.1.s]; exact h6) h5).2
          rw [hml.1.s] at this; exact this
        generalize r.member.2.elem r.member.1.1 r.member.1.2.1 r.member.1.2.2 = X at e1 e2 hel hra
        generalize q.element8 = Y at e1 e2 hmo
        obtain ⟨set', r5⟩ := X
        obtain ⟨x, q1⟩ := Y
        dsimp only at e1 e2 hmo hel hra ⊢
        by_cases he : r5.e ≠ 0
        · rw [if_pos he]
          obtain ⟨k1, k2⟩ := classLoop8_e f' neg (n + 1) (s.or x) q1 (by rw [← e1.e]; exact he)
          exact ⟨Al.err (by rw [k2]; exact e1.s) (by rw [k1]; exact e1.e) he, fun h' => absurd h' he⟩
        · rw [if_neg he]
          have he : r5.e = 0 := by omega
          have := e2 he
          subst this
          have hqs := hmo.1.s
          have hqa : q1.at_ ≤ q1.s.size := by
            have := hra he
            rw [hqs, ← h.s, ← e1.at_ he]; exact this
          exact classLoop_al neg f f' (n + 1) true _ r5 q1 e1 he (by simp) hqa (by rw [hqs]; have := hmo.2; omega) (by rw [hqs]; have := hmo.2; omega)
      by_cases hb : q.byte = 93
      · rw [if_pos hb]
        cases some_ with
        | true =>
          have hn0 : n ≠ 0 := hs.1 rfl
          rw [if_pos ⟨by rw [hm, hb], rfl⟩, if_neg hn0]
          exact ⟨h.inc, fun _ => ⟨rfl, rfl⟩⟩
        | false =>
          have hn0 : n = 0 := by
            by_cases hn : n = 0
            · exact hn
            · exact absurd (hs.2 hn) (by decide)
          rw [if_neg (fun h => absurd h.2 (by decide)), if_pos hn0]
          have hmem : r.member = ((0, S4.zero, false), r.fail 80) := by
            unfold RP.member; rw [hm]; dsimp only; rw [if_pos (.inl hb)]
          have hne := RP.fail_e r (e := 80) (by decide)
          have hel : (r.fail 80).elem 0 S4.zero false = (S4.zero, r.fail 80) := by
            unfold RP.elem
            rw [if_neg]
            intro hx
            exact hne (RP.next_some hx).1
          rw [hmem]
          dsimp only
          rw [hel]
          dsimp only
          rw [if_pos hne]
          exact ⟨h.failInc' 80 (by decide), fun h' => absurd h' hne⟩
      · rw [if_neg hb]
        have hno : ¬ (r.next = (93, true) ∧ some_ = true) := fun h => hb (by rw [hm] at h; exact (Prod.mk.inj h.1).1)
        rw [if_neg hno]
        exact main hno hb
    · have hmo : ¬ q.more = true := fun h => hlt (PS.more_iff.1 h).2
      rw [if_neg hmo] at hm ⊢
      rw [if_neg (fun h => by rw [hm] at h; exact absurd (Prod.mk.inj h.1).2 (by decide))]
      have hmem : r.member = ((0, S4.zero, false), r.fail 80) := by
        unfold RP.member; rw [hm]
      have hne := RP.fail_e r (e := 80) (by decide)
      have hel : (r.fail 80).elem 0 S4.zero false = (S4.zero, r.fail 80) := by
        unfold RP.elem
        rw [if_neg]
        intro hx
        exact hne (RP.next_some hx).1
      rw [hmem]
      dsimp only
      rw [hel]
      dsimp only
      rw [if_pos hne]
      exact ⟨h.fail 80 (by decide), fun h' => absurd h' hne⟩
end Go.Proofs.Ytaffcoiomggpfaa

/- The two parsers of patterns find the same: patterns. -/
namespace Go.Proofs.Ytaffcoiomggpfaa
open Go.V
attribute [local irreducible] app
set_option linter.unusedVariables false

theorem class_al {r : RP} {q : PS} (h : Al r q) (h0 : r.e = 0) (hat : q.at_ ≤ q.s.size) : Al r.class.2 q.class8.2 ∧ (r.class.2.e = 0 → r.class.1 = q.class8.1) := by
  have hm := h.more
  have hq0 : q.e = 0 := by rw [← h.e]; exact h0
  have h9 : (q.more && decide (q.byte = 94)) = decide (r.next.1 = 94) := by
    rw [hm]
    by_cases hmo : q.more = true
    · rw [if_pos hmo, hmo]; simp
    · rw [if_neg hmo]; simp [hmo]
  unfold RP.class PS.class8
  rw [h9]
  have hc2 : ∀ (c : Nat) (R : (S4 × Bool) × RP), (classOut c R).2 = R.2 := fun c R => by obtain ⟨⟨o, k⟩, r'⟩ := R; cases k <;> rfl
  have go : ∀ (r' : RP) (q' : PS) (neg : Bool), Al r' q' → r'.e = 0 → q'.at_ ≤ q'.s.size → q'.s = q.s → (neg = true ↔ r.next.1 = 94) →
      Al (classOut r.next.1 (r'.classLoop (r.s.size + 1) false S4.zero)).2 (PS.classLoop8 (q.s.size + 28) neg 0 S4.zero q').2 ∧
      ((classOut r.next.1 (r'.classLoop (r.s.size + 1) false S4.zero)).2.e = 0 → (classOut r.next.1 (r'.classLoop (r.s.size + 1) false S4.zero)).1 = (PS.classLoop8 (q.s.size + 28) neg 0 S4.zero q').1) := by
    intro r' q' neg ha hr' hq' hs' hneg
    obtain ⟨g1, g2⟩ := classLoop_al neg (r.s.size + 1) (q.s.size + 28) 0 false S4.zero r' q' ha hr' (by simp) hq' (by rw [hs', h.s]; omega) (by rw [hs']; omega)
    rw [hc2]
    refine ⟨g1, fun he => ?_⟩
    obtain ⟨k1, k2⟩ := g2 he
    rw [k2]
    generalize r'.classLoop (r.s.size + 1) false S4.zero = R at k1
    obtain ⟨⟨o, k⟩, r''⟩ := R
    dsimp only at k1
    subst k1
    show (if r.next.1 = 94 then o.not else o) = (if neg = true then o.not else o)
    by_cases hc : r.next.1 = 94
    · rw [if_pos hc, if_pos (hneg.2 hc)]
    · rw [if_neg hc, if_neg (fun h => hc (hneg.1 h))]
  by_cases hc : r.next.1 = 94
  · rw [if_pos hc, decide_eq_true hc]
    have hmo : q.more = true := by
      by_cases hmo : q.more = true
      · exact hmo
      · rw [hm, if_neg hmo] at hc; exact absurd hc (by decide)
    exact go r.inc q.inc true h.inc h0 (PS.more_iff.1 hmo).2 rfl (by simp [hc])
  · rw [if_neg hc, decide_eq_false hc]
    exact go r q false h h0 hat rfl (by simp [hc])

/-! ### The depth of the reference's parser -/
theorem pfail_deep (q : PS) (e : Int) : (q.fail e).deep = q.deep := (PS.fail_at q e).2.2
theorem escape8_deep (q : PS) : q.escape8.2.2.deep = q.deep := by
  unfold PS.escape8
  split
  · exact pfail_deep _ _
  · split
    rename_i s x y _
    cases y
    · exact pfail_deep q 82
    · rfl
theorem single8_deep (q : PS) : q.single8.2.2.deep = q.deep := by
  unfold PS.single8
  split
  · exact escape8_deep q.inc
  · split
    · exact pfail_deep q.inc 80
    · rfl
theorem element8_deep (q : PS) : q.element8.2.deep = q.deep := by
  have h := single8_deep q
  unfold PS.element8
  revert h
  generalize q.single8 = R
  obtain ⟨a, one, q1⟩ := R
  intro h
  dsimp only at h ⊢
  split
  · split
    · exact (pfail_deep q1.inc 80).trans h
    · have h3 := single8_deep q1.inc
      revert h3
      generalize q1.inc.single8 = R
      obtain ⟨b, two, q3⟩ := R
      intro h3
      dsimp only at h3 ⊢
      split
      · exact ((pfail_deep q3 80).trans h3).trans h
      · exact h3.trans h
  · exact h
theorem classLoop8_deep : ∀ (f : Nat) (neg : Bool) (n : Nat) (s : S4) (q : PS), (PS.classLoop8 f neg n s q).2.deep = q.deep
  | 0, _, _, _, q => rfl
  | f + 1, neg, n, s, q => by
    unfold PS.classLoop8
    split
    · split
      · dsimp only
        split
        · exact pfail_deep q 80
        · rfl
      · have h := element8_deep q
        revert h
        generalize q.element8 = R
        obtain ⟨x, q1⟩ := R
        intro h
        exact (classLoop8_deep f neg _ _ _).trans h
    · exact pfail_deep q 80
theorem class8_deep (q : PS) : q.class8.2.deep = q.deep := by
  unfold PS.class8
  dsimp only
  split
  · exact classLoop8_deep _ _ _ _ q.inc
  · exact classLoop8_deep _ _ _ _ q

/-! ### Nodes that are shifted -/
def kd (B : Nat) (x : Nd) : Nd := { x with l := if 0 < kids2 x.k then x.l + B else 0, r := if 1 < kids2 x.k then x.r + B else 0 }
def Bd (L : List Nd) : Prop := ∀ x ∈ L, (0 ≤ x.l ∧ x.l ≤ L.length) ∧ (0 ≤ x.r ∧ x.r ≤ L.length) ∧ (¬ 0 < kids2 x.k → x.l = 0) ∧ (¬ 1 < kids2 x.k → x.r = 0)
theorem shift_kd {n : Nat} {x : Nd} (hl : 0 ≤ x.l ∧ x.l ≤ 1048576) (hr : 0 ≤ x.r ∧ x.r ≤ 1048576) (hn : n ≤ 1048576) : Nd.shift n x = kd n x := by
  unfold Nd.shift kd sh
  rw [IntWalk.i64_in (x.l + n) (by omega), IntWalk.i64_in (x.r + n) (by omega)]
theorem kd_kd (B n : Nat) (x : Nd) : kd B (kd n x) = kd (B + n) x := by
  unfold kd
  dsimp only
  congr 1
  · by_cases h : 0 < kids2 x.k
    · rw [if_pos h, if_pos h, if_pos h]; omega
    · rw [if_neg h, if_neg h]
  · by_cases h : 1 < kids2 x.k
    · rw [if_pos h, if_pos h, if_pos h]; omega
    · rw [if_neg h, if_neg h]
theorem kd_zero {L : List Nd} (h : Bd L) : L.map (kd 0) = L := by
  have : ∀ x ∈ L, kd 0 x = id x := fun x hx => by
    obtain ⟨_, _, h3, h4⟩ := h x hx
    unfold kd
    obtain ⟨k, l, r, a, b, c, d⟩ := x
    simp only [id, Nd.mk.injEq, true_and, and_true] at h3 h4 ⊢
    refine ⟨?_, ?_⟩
    · split
      · omega
      · rename_i hh; exact (h3 hh).symm
    · split
      · omega
      · rename_i hh; exact (h4 hh).symm
  rw [List.map_congr_left this, List.map_id]
theorem kd_leaf {k : Int} (hk : kids2 k = 0) (B : Nat) (s : S4) : kd B (ndI k s) = nd k 0 0 s := by
  unfold kd ndI nd; dsimp only; rw [hk]; rfl

structure Ra (base : List Nd) (x : Nat × RP) (y : List Nd × PS) : Prop where
  al : Al x.2 y.2
  ok : x.2.e = 0 → x.2.nds = base ++ y.1.map (kd base.length) ∧ x.1 + 1 = base.length + y.1.length ∧ Bd y.1 ∧ 0 < y.1.length ∧ x.2.op = y.2.deep ∧ x.2.at_ ≤ x.2.s.size
theorem leaf_ra {base : List Nd} {r : RP} {q : PS} {k : Int} {s s' : S4} (h : Al r q) (hb : r.e = 0 → r.nds = base ∧ s = s' ∧ r.op = q.deep ∧ r.at_ ≤ r.s.size) (hk : kids2 k = 0) : Ra base (r.putN (nd k 0 0 s)) ([ndI k s'], q) := by
  refine ⟨⟨h.s, h.e, h.at_⟩, fun he => ?_⟩
  obtain ⟨h1, h2, h3, h4⟩ := hb he
  subst h1 h2
  refine ⟨?_, rfl, fun x hx => ?_, Nat.one_pos, h3, h4⟩
  · show r.nds ++ [_] = _
    rw [List.map_singleton, kd_leaf hk]
  · obtain rfl := List.mem_singleton.1 hx
    simp [ndI]
theorem join_ra {base : List Nd} {r r' : RP} {q q' : PS} {n m : Nat} {l xl : List Nd} {k : Int} (hk : kids2 k = 2) (hz : l.length + xl.length ≤ 1048576) (h : Ra base (n, r) (l, q)) (h' : Ra r.nds (m, r') (xl, q')) (he : r.e = 0) :
    Ra base (r'.nds.length, r'.put (nd k n m S4.zero)) (joinN k l xl, q') := by
  refine ⟨⟨h'.al.s, h'.al.e, h'.al.at_⟩, fun he' => ?_⟩
  obtain ⟨a1, a2, a3, a4, a5, a6⟩ := h.ok he
  obtain ⟨b1, b2, b3, b4, b5, b6⟩ := h'.ok he'
  dsimp only at a1 a2 a3 a4 b1 b2 b3 b4 b5 b6
  have hlen : r.nds.length = base.length + l.length := by rw [a1]; simp
  have hlen' : r'.nds.length = base.length + l.length + xl.length := by rw [b1, List.length_append, hlen]; simp
  refine ⟨?_, ?_, ?_, by rw [joinN_length]; omega, b5, b6⟩
  · show r'.nds ++ [_] = _
    unfold joinN
    rw [List.map_append, List.map_append, List.map_map, b1, a1]
    rw [show (base ++ l.map (kd base.length)).length = base.length + l.length by simp]
    have e1 : xl.map (kd base.length ∘ Nd.shift (l.length : Nat)) = xl.map (kd (base.length + l.length)) := List.map_congr_left fun x hx => by
      obtain ⟨c1, c2, _⟩ := b3 x hx
      show kd base.length (Nd.shift (l.length : Nat) x) = _
      rw [shift_kd (by omega) (by omega) (by omega), kd_kd]
    rw [e1]
    have e2 : nd k n m S4.zero = kd base.length ⟨k, (l.length : Int) - 1, if 0 < xl.length then (l.length : Int) + xl.length - 1 else 0, 0, 0, 0, 0⟩ := by
      unfold nd kd
      dsimp only
      rw [hk, if_pos b4, if_pos (by decide), if_pos (by decide)]
      congr 1
      · omega
      · rw [hlen] at b2; omega
    rw [List.map_singleton, ← e2]
    simp only [List.append_assoc]
  · dsimp only
    rw [joinN_length]; omega
  · intro x hx
    rw [joinN_length]
    unfold joinN at hx
    rw [List.mem_append, List.mem_append, List.mem_map, List.mem_singleton] at hx
    rcases hx with (hx | ⟨y, hy, rfl⟩) | rfl
    · obtain ⟨c1, c2, c3, c4⟩ := a3 x hx
      exact ⟨by omega, by omega, c3, c4⟩
    · obtain ⟨c1, c2, c3, c4⟩ := b3 y hy
      rw [shift_kd (by omega) (by omega) (by omega)]
      unfold kd
      dsimp only
      refine ⟨?_, ?_, fun hn => if_neg hn, fun hn => if_neg hn⟩
      · split <;> omega
      · split <;> omega
    · dsimp only
      rw [hk, if_pos b4]
      exact ⟨by omega, by omega, fun hn => absurd (by decide) hn, fun hn => absurd (by decide) hn⟩
theorem join1_ra {base : List Nd} {r : RP} {q : PS} {n : Nat} {l : List Nd} {k : Nat} (hk : kids2 k = 1) (h : Ra base (n, r) (l, q)) (hlt : r.e = 0 → r.at_ < r.s.size) :
    Ra base (r.nds.length, r.inc.put (nd k n 0 S4.zero)) (joinN k l [], q.inc) := by
  refine ⟨⟨h.al.inc.s, h.al.inc.e, h.al.inc.at_⟩, fun he => ?_⟩
  obtain ⟨a1, a2, a3, a4, a5, a6⟩ := h.ok he
  dsimp only at a1 a2 a3 a4
  have hlen : r.nds.length = base.length + l.length := by rw [a1]; simp
  refine ⟨?_, ?_, ?_, by rw [joinN_length]; omega, a5, hlt he⟩
  · show r.nds ++ [_] = _
    unfold joinN
    rw [List.map_append, List.map_append, a1, List.map_nil, List.map_nil, List.append_nil, List.map_singleton, List.append_assoc]
    have e2 : nd k n 0 S4.zero = kd base.length ⟨k, (l.length : Int) - 1, if 0 < ([] : List Nd).length then (l.length : Int) + ([] : List Nd).length - 1 else 0, 0, 0, 0, 0⟩ := by
      unfold nd kd
      dsimp only
      rw [hk, if_pos (by decide), if_neg (show ¬ (1 : Int) < 1 by decide)]
      congr 1
      omega
    rw [← e2]
  · dsimp only
    rw [joinN_length, List.length_nil]; omega
  · intro x hx
    rw [joinN_length]
    unfold joinN at hx
    rw [List.mem_append, List.map_nil, List.append_nil, List.mem_singleton] at hx
    rcases hx with hx | rfl
    · obtain ⟨c1, c2, c3, c4⟩ := a3 x hx
      exact ⟨by omega, by omega, c3, c4⟩
    · dsimp only
      rw [hk, if_neg (by simp)]
      exact ⟨by simp; omega, by simp; omega, fun hn => absurd (by decide) hn, fun _ => rfl⟩
theorem signOf_le (c : Nat) : signOf c ≠ 0 → kids2 (signOf c : Nat) = 1 := by
  unfold signOf
  repeat' split
  all_goals first | (intro _; rfl) | (intro h; exact absurd rfl h)
theorem signs_ra {base : List Nd} : ∀ (f f' n : Nat) (l : List Nd) (r : RP) (q : PS), Ra base (n, r) (l, q) → (r.e = 0 → r.s.size < f + r.at_) → (r.e = 0 → r.s.size < f' + r.at_) → Ra base (signs f n r) (PS.signs8 f' l q) := by
  intro f
  induction f with
  | zero =>
    intro f' n l r q h hf hf'
    by_cases he : r.e = 0
    · have := hf he; have := (h.ok he).2.2.2.2.2; dsimp only at this; omega
    · have hm : ¬ q.more = true := fun hm => he (by have := h.al.e; dsimp only at this; rw [this]; exact (PS.more_iff.1 hm).1)
      have : PS.signs8 f' l q = (l, q) := by
        cases f' with
        | zero => rfl
        | succ f' => unfold PS.signs8; rw [if_neg (fun h => hm h.1)]
      rw [this]; exact h
  | succ f ih =>
    intro f' n l r q h hf hf'
    have hm := h.al.more
    dsimp only at hm
    cases f' with
    | zero =>
      by_cases he : r.e = 0
      · have := hf' he; have := (h.ok he).2.2.2.2.2; dsimp only at this; omega
      · have hm' : ¬ q.more = true := fun hm => he (by have := h.al.e; dsimp only at this; rw [this]; exact (PS.more_iff.1 hm).1)
        unfold signs PS.signs8
        rw [hm, if_neg hm', if_pos (show signOf 0 = 0 from rfl)]
        exact h
    | succ f' =>
      unfold signs PS.signs8
      by_cases hmo : q.more = true
      · rw [if_pos hmo] at hm
        rw [hm]
        dsimp only
        by_cases hs : signOf q.byte = 0
        · rw [if_pos hs, if_neg (fun h => h.2 hs)]; exact h
        · rw [if_neg hs, if_pos ⟨hmo, hs⟩]
          obtain ⟨g1, g2⟩ := PS.more_iff.1 hmo
          have he : r.e = 0 := by have := h.al.e; dsimp only at this; rw [this]; exact g1
          have hlt : r.at_ < r.s.size := by
            have h1 := h.al.at_ he; have h2 := h.al.s
            dsimp only at h1 h2
            rw [h1, h2]; exact g2
          refine ih f' _ _ _ _ (join1_ra (signOf_le _ hs) h fun _ => hlt) (fun _ => ?_) (fun _ => ?_)
          · have := hf he; show r.s.size < f + (r.at_ + 1); omega
          · have := hf' he; show r.s.size < f' + (r.at_ + 1); omega
      · rw [if_neg hmo] at hm
        rw [hm, if_pos (show signOf 0 = 0 from rfl), if_neg (fun h => hmo h.1)]
        exact h
end Go.Proofs.Ytaffcoiomggpfaa

/- The two parsers of patterns find the same: the parsers. -/
namespace Go.Proofs.Ytaffcoiomggpfaa
open Go.V
attribute [local irreducible] app
set_option linter.unusedVariables false

def Dev (x : Nat × RP) (y : List Nd × PS) (op : Nat) : Prop := op = 0 ∧ x.2.e = 83 ∧ y.2.e = 0 ∧ y.2.more = true ∧ y.2.byte = 41
def Fin (x : Nat × RP) (op : Nat) : Prop := x.2.e = 0 → x.2.next.2 = false ∨ x.2.next.1 = 41 ∧ op ≠ 0
def PatR (F : RP → Nat × RP) (G : PS → List Nd × PS) (op : Nat) : Prop := ∀ (r : RP) (q : PS), Al r q → r.e = 0 → r.op = op → q.deep = op → r.at_ ≤ r.s.size → r.s.size ≤ 4096 → Ra r.nds (F r) (G q) ∧ Fin (F r) op ∨ Dev (F r) (G q) op
variable {F : RP → Nat × RP} {G : PS → List Nd × PS} {op : Nat}
theorem fail_keep {r : RP} (h : r.e ≠ 0) (e : Int) : r.fail e = r := by unfold RP.fail; exact if_neg h
theorem atom_ra {r : RP} {q : PS} (hF : ∀ r, Up r (F r).2 1 0) (hp : op + 1 ≤ 24 → PatR F G (op + 1)) (h : Al r q) (h0 : r.e = 0) (hop : r.op = op) (hd : q.deep = op) (hlt : r.at_ < r.s.size) (hsz : r.s.size ≤ 4096) :
    Ra r.nds (atomOf F q.byte r) (PS.atom8 G q) := by
  have hlq : q.at_ < q.s.size := by rw [← h.s, ← h.at_ h0]; exact hlt
  have hod : r.inc.op = q.inc.deep := by show r.op = q.deep; omega
  unfold atomOf PS.atom8
  by_cases c1 : q.byte = 46
  · rw [if_pos c1, if_pos c1]; exact leaf_ra h.inc (fun _ => ⟨rfl, by decide +kernel, hod, hlt⟩) rfl
  rw [if_neg c1, if_neg c1]
  by_cases c2 : q.byte = 94
  · rw [if_pos c2, if_pos c2]; exact leaf_ra h.inc (fun _ => ⟨rfl, rfl, hod, hlt⟩) rfl
  rw [if_neg c2, if_neg c2]
  by_cases c3 : q.byte = 36
  · rw [if_pos c3, if_pos c3]; exact leaf_ra h.inc (fun _ => ⟨rfl, rfl, hod, hlt⟩) rfl
  rw [if_neg c3, if_neg c3]
  by_cases c7 : q.byte = 92
  · rw [if_neg (by omega), if_neg (by omega), if_neg (by omega), if_pos c7, if_pos c7]
    obtain ⟨g1, g2⟩ := escape_al h h0
    have hl : r.inc.Le r.escape.2 := escape_le (x := r.escape.1) rfl
    exact leaf_ra g1 (fun he => ⟨hl.nds, (g2 he).1, by rw [hl.op, escape8_deep]; exact hod, by rw [hl.s]; exact (escape_sh hlt he).2⟩) rfl
  rw [if_neg c7, if_neg c7]
  by_cases c4 : q.byte = 91
  · rw [if_pos c4, if_pos c4]
    obtain ⟨g1, g2⟩ := class_al h.inc h0 hlq
    have hl := class_le r.inc
    exact leaf_ra g1 (fun he => ⟨hl.nds, g2 he, by rw [hl.op, class8_deep]; exact hod, by rw [hl.s]; exact (class_sh (r := r.inc) hlt he).2⟩) rfl
  rw [if_neg c4, if_neg c4]
  by_cases c5 : q.byte = 93
  · rw [if_pos c5, if_pos c5]
    exact ⟨h.inc.fail 80 (by decide), fun he => absurd he (RP.fail_e r.inc (by decide))⟩
  rw [if_neg c5, if_neg c5]
  by_cases c6 : q.byte = 42 ∨ q.byte = 43 ∨ q.byte = 63
  · rw [if_pos c6, if_pos c6]
    exact ⟨h.inc.fail 81 (by decide), fun he => absurd he (RP.fail_e r.inc (by decide))⟩
  rw [if_neg c6, if_neg c6]
  by_cases c8 : q.byte = 40
  · rw [if_pos c8, if_pos c8]
    have hu : Al r.inc.up q.inc.up := ⟨h.s, h.e, h.inc.at_⟩
    by_cases d1 : 24 < r.op + 1
    · rw [if_pos d1, if_pos (show 24 < q.deep + 1 by omega)]
      exact ⟨hu.fail 84 (by decide), fun he => absurd he (RP.fail_e r.inc.up (by decide))⟩
    rw [if_neg d1, if_neg (show ¬ 24 < q.deep + 1 by omega)]
    dsimp only
    have hup := hF r.inc.up
    have hsx : (F r.inc.up).2.s = r.s := hup.s
    rcases hp (by omega) r.inc.up q.inc.up hu h0 (congrArg (· + 1) hop) (congrArg (· + 1) hd) hlt hsz with ⟨g1, g2⟩ | ⟨g, _⟩
    · generalize F r.inc.up = X at g1 g2 hsx hup
      generalize G q.inc.up = Y at g1
      have hxal := g1.al
      have hm := hxal.more
      by_cases he : X.2.e = 0
      · have hy : Y.2.e = 0 := by rw [← hxal.e]; exact he
        obtain ⟨k1, k2, k3, k4, k5, k6⟩ := g1.ok he
        by_cases hmo : Y.2.more = true
        · rw [if_pos hmo] at hm
          have hb : Y.2.byte = 41 := by
            rcases g2 he with g | g
            · rw [hm] at g; exact absurd (show true = false from g) (by decide)
            · rw [hm] at g; exact g.1
          obtain ⟨m1, m2⟩ := PS.more_iff.1 hmo
          have hlt' : X.2.at_ < X.2.s.size := by rw [hxal.at_ he, hxal.s]; exact m2
          rw [if_pos (by rw [hm, hb]), if_neg (by omega)]
          refine ⟨⟨hxal.s, hxal.e, fun _ => congrArg (· + 1) (hxal.at_ he)⟩, fun _ => ⟨k1, k2, k3, k4, ?_, hlt'⟩⟩
          show X.2.op - 1 = Y.2.deep - 1
          omega
        · rw [if_neg hmo] at hm
          have hge : Y.2.s.size ≤ Y.2.at_ := by
            by_cases hx : Y.2.at_ < Y.2.s.size
            · exact absurd (PS.more_iff.2 ⟨hy, hx⟩) hmo
            · omega
          rw [if_neg (by rw [hm]; intro h; exact absurd (Prod.mk.inj h).2 (by decide)), if_pos ⟨hy, hge⟩]
          have := hxal.fail 83 (by decide)
          have hne := RP.fail_e X.2 (e := 83) (by decide)
          exact ⟨⟨this.s, this.e, fun he => absurd he hne⟩, fun he => absurd he hne⟩
      · have hy : ¬ Y.2.e = 0 := by rw [← hxal.e]; exact he
        rw [if_neg (fun h => he (RP.next_some h).1), if_neg (fun h => hy h.1), fail_keep he]
        exact ⟨⟨hxal.s, hxal.e, fun h => absurd h he⟩, fun h => absurd h he⟩
    · omega
  rw [if_neg c8, if_neg c8]
  exact leaf_ra h.inc (fun _ => ⟨rfl, with_self _ _, hod, hlt⟩) rfl
theorem part_ra {r : RP} {q : PS} (hF : ∀ r, Up r (F r).2 1 0) (hG : ∀ q, PS.Wa q (G q) 1 0) (hp : op + 1 ≤ 24 → PatR F G (op + 1)) (h : Al r q) (h0 : r.e = 0) (hop : r.op = op) (hd : q.deep = op) (hlt : r.at_ < r.s.size) (hsz : r.s.size ≤ 4096) :
    Ra r.nds (partOf F q.byte r) (PS.part8 G q) := by
  have ha := atom_ra hF hp h h0 hop hd hlt hsz
  have hu := atomOf_up hF q.byte r h0
  unfold partOf PS.part8
  refine signs_ra _ _ _ _ _ _ ha (fun _ => by rw [hu.s]; omega) (fun _ => by rw [hu.s, h.s]; omega)
def St (base : List Nd) (n : Option Nat) (l : List Nd) (r : RP) (q : PS) : Prop := match n with
  | none => l = [] ∧ Al r q ∧ r.nds = base ∧ r.op = q.deep ∧ r.at_ ≤ r.s.size
  | some m => Ra base (m, r) (l, q)
theorem altLoop_e {F : RP → Nat × RP} (f k : Nat) (r : RP) (h : r.e ≠ 0) : (altLoop F (f + 1) (some k) r) = (k, r) := by
  have hn : r.next = (0, false) := if_pos (.inl h)
  unfold altLoop
  rw [hn, if_pos (.inl rfl)]
  dsimp only
  rw [if_neg (fun h => absurd (Prod.mk.inj h.1).2 (by decide))]
theorem patLoop_e {F : RP → Nat × RP} (f k : Nat) (r : RP) (h : r.e ≠ 0) : (patLoop F f k r) = (k, r) := by
  cases f with
  | zero => rfl
  | succ f =>
    have hn : r.next = (0, false) := if_pos (.inl h)
    unfold patLoop
    rw [hn, if_neg (fun h => absurd (Prod.mk.inj h).2 (by decide))]
def CFin (x : Nat × RP) (op : Nat) : Prop := x.2.e = 0 → x.2.next.2 = false ∨ x.2.next.1 = 124 ∨ x.2.next.1 = 41 ∧ op ≠ 0
theorem cat_ra {base : List Nd} (hF : ∀ r, Up r (F r).2 1 0) (hG : ∀ q, PS.Wa q (G q) 1 0) (hp : op + 1 ≤ 24 → PatR F G (op + 1)) :
    ∀ (f f' : Nat) (n : Option Nat) (l : List Nd) (r : RP) (q : PS), St base n l r q → r.e = 0 → r.op = op → r.s.size ≤ 4096 → l.length ≤ 2 * r.at_ → r.s.size < f + r.at_ → r.s.size < f' + r.at_ →
      Ra base (altLoop F f n r) (PS.catLoop8 G f' l q) ∧ CFin (altLoop F f n r) op ∨ Dev (altLoop F f n r) (PS.catLoop8 G f' l q) op := by
  intro f
  induction f with
  | zero =>
    intro f' n l r q hst h0 hop hsz hl hf hf'
    have : r.at_ ≤ r.s.size := by
      cases n with
      | none => exact hst.2.2.2.2
      | some m => exact (hst.ok h0).2.2.2.2.2
    omega
  | succ f ih =>
    intro f' n l r q hst h0 hop hsz hl hf hf'
    have hfacts : Al r q ∧ r.op = q.deep ∧ r.at_ ≤ r.s.size := by
      cases n with
      | none => exact ⟨hst.2.1, hst.2.2.2.1, hst.2.2.2.2⟩
      | some m => exact ⟨hst.al, (hst.ok h0).2.2.2.2.1, (hst.ok h0).2.2.2.2.2⟩
    obtain ⟨hal, hod, hat⟩ := hfacts
    cases f' with
    | zero => omega
    | succ f' =>
      have hm := hal.more
      unfold altLoop PS.catLoop8
      by_cases hgo : q.more = true ∧ q.byte ≠ 124 ∧ q.byte ≠ 41
      · rw [if_pos hgo.1] at hm
        rw [if_pos hgo, hm]
        rw [if_neg (show ¬ (true = false ∨ q.byte = 124 ∨ q.byte = 41) by rintro (h | h | h); · exact absurd h (by decide)
                                                                          · exact hgo.2.1 h
                                                                          · exact hgo.2.2 h)]
        dsimp only
        have hlt : r.at_ < r.s.size := (RP.next_some hm).2.1
        have hpr := part_ra hF hG hp hal h0 hop (by omega) hlt hsz
        have hpu := partOf_up hF q.byte r h0
        have hpw := PS.part8_wa hG q
        generalize partOf F q.byte r = X at hpr hpu
        generalize PS.part8 G q = Y at hpr hpw
        obtain ⟨x, rx⟩ := X
        obtain ⟨xl, qx⟩ := Y
        have hxe : rx.e = qx.e := hpr.al.e
        by_cases he : rx.e = 0
        · have hqe : qx.e = 0 := by omega
          rw [if_neg (show ¬ qx.e ≠ 0 by omega)]
          have hxat : rx.at_ = qx.at_ := hpr.al.at_ he
          have hrat : r.at_ = q.at_ := hal.at_ h0
          have hlen := hpw.len
          dsimp only at hlen
          have hge : r.at_ + 1 ≤ rx.at_ := hpu.at_
          have hrs : rx.s = r.s := hpu.s
          have hrop : rx.op = op := by have := hpu.op (.inl he); rw [← hop]; exact this
          have hxok := hpr.ok he
          dsimp only at hxok
          have hxle : rx.at_ ≤ r.s.size := by rw [← hrs]; exact hxok.2.2.2.2.2
          cases n with
          | none =>
            obtain ⟨rfl, _, hb, _, _⟩ := hst
            subst hb
            rw [if_pos (show ([] : List Nd).length = 0 from rfl)]
            exact ih f' (some x) xl rx qx hpr he hrop (by rw [hrs]; exact hsz) (by omega) (by rw [hrs]; omega) (by rw [hrs]; omega)
          | some k =>
            have hl0 : 0 < l.length := (hst.ok h0).2.2.2.1
            rw [if_neg (show ¬ l.length = 0 by omega)]
            have hj := join_ra (k := 3) rfl (by omega) hst hpr h0
            exact ih f' (some rx.nds.length) _ _ _ hj he hrop (show rx.s.size ≤ 4096 by rw [hrs]; exact hsz) (by rw [joinN_length]; show l.length + xl.length + 1 ≤ 2 * rx.at_; omega) (show rx.s.size < f + rx.at_ by rw [hrs]; omega) (show rx.s.size < f' + rx.at_ by rw [hrs]; omega)
        · have hqe : qx.e ≠ 0 := by omega
          rw [if_pos hqe]
          have hf1 : ∃ f2, f = f2 + 1 := ⟨f - 1, by omega⟩
          obtain ⟨f2, rfl⟩ := hf1
          left
          cases n with
          | none =>
            dsimp only
            rw [altLoop_e f2 x rx he]
            exact ⟨⟨hpr.al, fun h => absurd h he⟩, fun h => absurd h he⟩
          | some k =>
            dsimp only
            rw [altLoop_e f2 _ (rx.put _) he]
            exact ⟨⟨⟨hpr.al.s, hpr.al.e, hpr.al.at_⟩, fun h => absurd h he⟩, fun h => absurd h he⟩
      · rw [if_neg hgo]
        have hstop : r.next.2 = false ∨ r.next.1 = 124 ∨ r.next.1 = 41 := by
          rw [hm]
          by_cases hmo : q.more = true
          · rw [if_pos hmo]
            by_cases h1 : q.byte = 124
            · exact .inr (.inl h1)
            · by_cases h2 : q.byte = 41
              · exact .inr (.inr h2)
              · exact absurd ⟨hmo, h1, h2⟩ hgo
          · rw [if_neg hmo]; exact .inl rfl
        rw [if_pos hstop]
        by_cases hdev : r.next = (41, true) ∧ r.op = 0
        · right
          have hmo : q.more = true := by
            by_cases hmo : q.more = true
            · exact hmo
            · rw [if_neg hmo] at hm; rw [hm] at hdev; exact absurd (Prod.mk.inj hdev.1).2 (by decide)
          have hb : q.byte = 41 := by rw [if_pos hmo] at hm; rw [hm] at hdev; exact (Prod.mk.inj hdev.1).1
          have h83 : (r.fail 83).e = 83 := by unfold RP.fail; rw [if_pos h0]
          rw [if_pos hdev]
          have hq0 : q.e = 0 := by rw [← hal.e]; exact h0
          cases n with
          | none => exact ⟨by omega, h83, hq0, hmo, hb⟩
          | some m => exact ⟨by omega, h83, hq0, hmo, hb⟩
        · left
          rw [if_neg hdev]
          have hend : ∀ r' : RP, r'.next = r.next → (r'.next.2 = false ∨ r'.next.1 = 124 ∨ r'.next.1 = 41 ∧ op ≠ 0) := by
            intro r' hr'
            rw [hr']
            rcases hstop with h | h | h
            · exact .inl h
            · exact .inr (.inl h)
            · by_cases h2 : r.next.2 = false
              · exact .inl h2
              · refine .inr (.inr ⟨h, fun h3 => hdev ⟨Prod.ext h (by simpa using h2), hop.trans h3⟩⟩)
          cases n with
          | none =>
            obtain ⟨rfl, ha, hb, hod, hat⟩ := hst
            subst hb
            rw [if_pos (show ([] : List Nd).length = 0 from rfl)]
            exact ⟨leaf_ra ha (fun _ => ⟨rfl, rfl, hod, hat⟩) rfl, fun _ => hend _ rfl⟩
          | some m =>
            have hl0 : 0 < l.length := (hst.ok h0).2.2.2.1
            rw [if_neg (show ¬ l.length = 0 by omega)]
            exact ⟨hst, fun _ => hend _ rfl⟩
theorem alt_ra {base : List Nd} (hF : ∀ r, Up r (F r).2 1 0) (hG : ∀ q, PS.Wa q (G q) 1 0) (hp : op + 1 ≤ 24 → PatR F G (op + 1)) :
    ∀ (f f' : Nat) (n : Nat) (l : List Nd) (r : RP) (q : PS), Ra base (n, r) (l, q) → CFin (n, r) op → (r.e = 0 → r.op = op) → r.s.size ≤ 4096 → (r.e = 0 → l.length ≤ 2 * r.at_ + 1) → (r.e = 0 → r.s.size < f + r.at_) → (r.e = 0 → r.s.size < f' + r.at_) →
      Ra base (patLoop F f n r) (PS.altLoop8 G f' l q) ∧ Fin (patLoop F f n r) op ∨ Dev (patLoop F f n r) (PS.altLoop8 G f' l q) op := by
  intro f
  induction f with
  | zero =>
    intro f' n l r q hst hfin hop hsz hl hf hf'
    by_cases he : r.e = 0
    · have h1 := hf he; have h2 := (hst.ok he).2.2.2.2.2; dsimp only at h2; omega
    · have hq : ¬ q.more = true := fun hm => he (by have := hst.al.e; dsimp only at this; rw [this]; exact (PS.more_iff.1 hm).1)
      rw [patLoop_e 0 n r he]
      have : PS.altLoop8 G f' l q = (l, q) := by
        cases f' with
        | zero => rfl
        | succ f' => unfold PS.altLoop8; rw [if_neg (fun h => hq h.1)]
      rw [this]; exact .inl ⟨hst, fun h => absurd h he⟩
  | succ f ih =>
    intro f' n l r q hst hfin hop hsz hl hf hf'
    have hm := hst.al.more
    dsimp only at hm
    by_cases he : r.e = 0
    · cases f' with
      | zero => have h1 := hf' he; have h2 := (hst.ok he).2.2.2.2.2; dsimp only at h2; omega
      | succ f' =>
        have hq0 : q.e = 0 := by have := hst.al.e; dsimp only at this; omega
        unfold patLoop PS.altLoop8
        by_cases hgo : q.more = true ∧ q.byte = 124
        · have hn : r.next = (124, true) := by rw [hm, if_pos hgo.1, hgo.2]
          rw [if_pos hgo, if_pos hn]
          have hlt : r.at_ < r.s.size := (RP.next_some hn).2.1
          have hok := hst.ok he
          dsimp only at hok ⊢
          have hrat : r.at_ = q.at_ := hst.al.at_ he
          have hcu := altOf_up hF r.inc
          have hcw := PS.cat8_wa hG q.inc
          have hrf := hf he; have hrf' := hf' he
          have hcat : Ra r.nds (altOf F r.inc) (PS.cat8 G q.inc) ∧ CFin (altOf F r.inc) op ∨ Dev (altOf F r.inc) (PS.cat8 G q.inc) op := by
            have hai : Al r.inc q.inc := hst.al.inc
            refine cat_ra hF hG hp _ _ none [] r.inc q.inc ⟨rfl, hai, rfl, hok.2.2.2.2.1, hlt⟩ he (hop he) hsz (Nat.zero_le _) (by omega) ?_
            rw [← hai.s]; omega
          generalize altOf F r.inc = X at hcat hcu
          generalize PS.cat8 G q.inc = Y at hcat hcw
          obtain ⟨x, rx⟩ := X
          obtain ⟨xl, qx⟩ := Y
          have hrs : rx.s = r.s := hcu.s
          dsimp only
          rcases hcat with ⟨hra, hcf⟩ | ⟨d1, d2, d3, d4, d5⟩
          · have hxe : rx.e = qx.e := hra.al.e
            by_cases hxe0 : rx.e = 0
            · rw [if_neg (show ¬ qx.e ≠ 0 by omega)]
              have hxat : rx.at_ = qx.at_ := hra.al.at_ hxe0
              have hlen := hcw.len
              have hge : r.at_ + 1 + 0 ≤ rx.at_ := hcu.at_
              have hl1 := hl he
              have hxok := hra.ok hxe0
              dsimp only [PS.inc] at hlen hxok
              rw [hrs] at hxok
              have hj := join_ra (k := 4) rfl (by omega) hst hra he
              refine ih f' _ _ _ _ hj (fun h => hcf h) (fun _ => (hcu.op (.inl hxe0)).trans (hop he)) (show rx.s.size ≤ 4096 by rw [hrs]; exact hsz) (fun _ => ?_) (fun _ => ?_) (fun _ => ?_)
              · rw [joinN_length]; show _ ≤ 2 * rx.at_ + 1; omega
              · show rx.s.size < f + rx.at_; rw [hrs]; omega
              · show rx.s.size < f' + rx.at_; rw [hrs]; omega
            · rw [if_pos (show qx.e ≠ 0 by omega), patLoop_e f _ (rx.put _) hxe0]
              exact .inl ⟨⟨⟨hra.al.s, hra.al.e, hra.al.at_⟩, fun h => absurd h hxe0⟩, fun h => absurd h hxe0⟩
          · dsimp only at d2 d3 d4 d5
            rw [if_neg (show ¬ qx.e ≠ 0 by omega)]
            have hne : rx.e ≠ 0 := by omega
            rw [patLoop_e f _ (rx.put _) hne]
            have : ∀ l', PS.altLoop8 G f' l' qx = (l', qx) := fun l' => by
              cases f' with
              | zero => rfl
              | succ f' => unfold PS.altLoop8; rw [if_neg (by rw [d5]; rintro ⟨_, h⟩; exact absurd h (by decide))]
            rw [this]
            exact .inr ⟨d1, d2, d3, d4, d5⟩
        · rw [if_neg hgo]
          have hn : ¬ r.next = (124, true) := by
            intro hn
            rw [hm] at hn
            by_cases hmo : q.more = true
            · rw [if_pos hmo] at hn; exact hgo ⟨hmo, (Prod.mk.inj hn).1⟩
            · rw [if_neg hmo] at hn; exact absurd (Prod.mk.inj hn).2 (by decide)
          rw [if_neg hn]
          refine .inl ⟨hst, fun _ => ?_⟩
          rcases hfin he with h | h | h
          · exact .inl h
          · by_cases h2 : r.next.2 = false
            · exact .inl h2
            · exact absurd (Prod.ext h (by simpa using h2)) hn
          · exact .inr h
    · have hq : ¬ q.more = true := fun hm => he (by have := hst.al.e; dsimp only at this; rw [this]; exact (PS.more_iff.1 hm).1)
      rw [patLoop_e (f + 1) n r he]
      have : PS.altLoop8 G f' l q = (l, q) := by
        cases f' with
        | zero => rfl
        | succ f' => unfold PS.altLoop8; rw [if_neg (fun h => hq h.1)]
      rw [this]; exact .inl ⟨hst, fun h => absurd h he⟩
theorem pat_ra (hF : ∀ r, Up r (F r).2 1 0) (hG : ∀ q, PS.Wa q (G q) 1 0) (hp : op + 1 ≤ 24 → PatR F G (op + 1)) : PatR (patOf F) (PS.alt8 G) op := by
  intro r q hal h0 hop hd hat hsz
  have hcu := altOf_up hF r
  have hcw := PS.cat8_wa hG q
  have hss : q.s = r.s := hal.s.symm
  have hcat : Ra r.nds (altOf F r) (PS.cat8 G q) ∧ CFin (altOf F r) op ∨ Dev (altOf F r) (PS.cat8 G q) op := by
    refine cat_ra hF hG hp _ _ none [] r q ⟨rfl, hal, rfl, by omega, hat⟩ h0 hop hsz (Nat.zero_le _) (by omega) ?_
    rw [hss]; omega
  have hrat : r.at_ = q.at_ := hal.at_ h0
  unfold patOf PS.alt8
  generalize altOf F r = X at hcat hcu
  generalize PS.cat8 G q = Y at hcat hcw
  obtain ⟨x, rx⟩ := X
  obtain ⟨xl, qx⟩ := Y
  have hrs : rx.s = r.s := hcu.s
  have hge : r.at_ + 0 ≤ rx.at_ := hcu.at_
  dsimp only
  rcases hcat with ⟨hra, hcf⟩ | ⟨d1, d2, d3, d4, d5⟩
  · refine alt_ra hF hG hp _ _ _ _ _ _ hra hcf (fun h => (hcu.op (.inl h)).trans hop) (by rw [hrs]; exact hsz) (fun h => ?_) (fun _ => by rw [hrs]; omega) (fun _ => by rw [hrs, hss]; omega)
    have hxat : rx.at_ = qx.at_ := hra.al.at_ h
    have hlen := hcw.len
    dsimp only at hlen
    omega
  · dsimp only at d2 d3 d4 d5
    rw [patLoop_e _ _ rx (by omega)]
    have : PS.altLoop8 G (q.s.size + 28) xl qx = (xl, qx) := by
      rw [show q.s.size + 28 = (q.s.size + 27) + 1 from rfl]
      unfold PS.altLoop8; rw [if_neg (by rw [d5]; rintro ⟨_, h⟩; exact absurd h (by decide))]
    rw [this]
    exact .inr ⟨d1, d2, d3, d4, d5⟩
theorem patN_ra : ∀ (n op : Nat), 25 ≤ op + n → op ≤ 24 → PatR (patN n) (PS.altN8 n) op
  | 0, op, h, h' => absurd h (by omega)
  | n + 1, op, h, h' => pat_ra (patN_up n) (PS.altN8_wa n) fun h2 => patN_ra n (op + 1) (by omega) h2
theorem parse_eq (s : ByteArray) : rxParse s = rParse s := by
  unfold rxParse rParse
  by_cases hs : 128 < s.size
  · rw [if_pos hs, if_pos hs]
  rw [if_neg hs, if_neg hs]
  dsimp only
  have hra := patN_ra 25 0 (by omega) (by omega) (parser0 s) ⟨s, 0, 0, 0⟩ ⟨rfl, rfl, fun _ => rfl⟩ rfl rfl rfl (Nat.zero_le _) (show s.size ≤ 4096 by omega)
  have hxs : (PS.altN8 25 ⟨s, 0, 0, 0⟩).2.s = s := (PS.altN8_wa 25 ⟨s, 0, 0, 0⟩).mo.s
  have hb : (parser0 s).nds = [] := rfl
  rw [hb] at hra
  generalize patN 25 (parser0 s) = X at hra
  generalize PS.altN8 25 ⟨s, 0, 0, 0⟩ = Y at hra hxs
  obtain ⟨x, r⟩ := X
  obtain ⟨l, q⟩ := Y
  dsimp only at hxs
  subst hxs
  dsimp only
  rcases hra with ⟨h, hfin⟩ | ⟨_, d2, d3, d4, d5⟩
  · have he : r.e = q.e := h.al.e
    by_cases h0 : r.e = 0
    · have hq0 : q.e = 0 := by omega
      obtain ⟨k1, k2, k3, k4, k5, k6⟩ := h.ok h0
      dsimp only at k1 k3 k4
      have hm := h.al.more
      dsimp only at hm
      have hmo : ¬ q.at_ < q.s.size := by
        intro hlt
        have hmo : q.more = true := PS.more_iff.2 ⟨hq0, hlt⟩
        rw [if_pos hmo] at hm
        rcases hfin h0 with g | g
        · dsimp only at g; rw [hm] at g; exact absurd (show true = false from g) (by decide)
        · exact g.2 rfl
      rw [if_neg (show ¬ (q.e = 0 ∧ q.at_ < q.s.size) from fun h => hmo h.2), if_neg (show ¬ r.e ≠ 0 by omega)]
      have hnds : r.nds = l := by rw [k1, List.nil_append]; exact kd_zero k3
      rw [hnds]
      by_cases hl : 256 < l.length
      · have : (q.fail 1).e = 1 := by unfold PS.fail; rw [if_pos hq0]
        rw [if_pos hl, if_pos (show q.e = 0 ∧ 256 < l.length from ⟨hq0, hl⟩), if_pos (show (q.fail 1).e ≠ 0 by rw [this]; decide), this]
      · rw [if_neg hl, if_neg (show ¬ (q.e = 0 ∧ 256 < l.length) from fun h => hl h.2), if_neg (show ¬ q.e ≠ 0 by omega)]
    · have hq : ¬ q.e = 0 := by omega
      rw [if_neg (show ¬ (q.e = 0 ∧ q.at_ < q.s.size) from fun h => hq h.1), if_pos h0, if_neg (show ¬ (q.e = 0 ∧ 256 < l.length) from fun h => hq h.1), if_pos hq, he]
  · dsimp only at d2 d3 d4 d5
    have hlt := (PS.more_iff.1 d4).2
    have h83 : (q.fail 83).e = 83 := by unfold PS.fail; rw [if_pos d3]
    rw [if_pos (show r.e ≠ 0 by omega), if_pos (show q.e = 0 ∧ q.at_ < q.s.size from ⟨d3, hlt⟩), if_neg (show ¬ ((q.fail 83).e = 0 ∧ 256 < l.length) from fun h => by rw [h83] at h; exact absurd h.1 (by decide)),
      if_pos (show (q.fail 83).e ≠ 0 by rw [h83]; decide), h83, d2]
end Go.Proofs.Ytaffcoiomggpfaa
