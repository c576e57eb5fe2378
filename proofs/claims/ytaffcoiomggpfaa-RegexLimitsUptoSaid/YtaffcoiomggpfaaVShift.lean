/- A pattern in parentheses has the same nodes: the parser, one byte and one level further on. -/
import Derived.Test.YtaffcoiomggpfaaVRegex4
namespace Go.Proofs.Ytaffcoiomggpfaa
open Go.V
attribute [local irreducible] app
set_option linter.unusedVariables false

def wrap (s : ByteArray) : ByteArray := (⟨[40].toArray⟩ ++ s) ++ ⟨[41].toArray⟩
theorem wrap_data (s : ByteArray) : (wrap s).data.toList = 40 :: (s.data.toList ++ [41]) := by
  unfold wrap; rw [ByteArray.data_append, ByteArray.data_append]; simp
theorem wrap_size (s : ByteArray) : (wrap s).size = s.size + 2 := by
  rw [← ByteArray.size_data, ← Array.length_toList, wrap_data]; simp [← ByteArray.size_data]
theorem byteAt_list (s : ByteArray) (i : Nat) : byteAt s i = ((s.data.toList[i]?).getD 0).toNat := by
  unfold byteAt
  simp
theorem wrap_0 (s : ByteArray) : byteAt (wrap s) 0 = 40 := by rw [byteAt_list, wrap_data]; rfl
theorem wrap_in (s : ByteArray) {i : Nat} (h : i < s.size) : byteAt (wrap s) (i + 1) = byteAt s i := by
  rw [byteAt_list, byteAt_list, wrap_data, List.getElem?_cons_succ, List.getElem?_append_left (by simpa [← ByteArray.size_data] using h)]
theorem wrap_end (s : ByteArray) : byteAt (wrap s) (s.size + 1) = 41 := by
  rw [byteAt_list, wrap_data, List.getElem?_cons_succ, List.getElem?_append_right (by simp [← ByteArray.size_data])]
  simp [← ByteArray.size_data]

def shr (r : RP) : RP := { s := wrap r.s, at_ := r.at_ + 1, op := r.op + 1, nds := r.nds, e := r.e }
theorem sh_fail (r : RP) (e : Int) : shr (r.fail e) = (shr r).fail e := by
  unfold RP.fail
  by_cases h : r.e = 0
  · rw [if_pos h, if_pos (show (shr r).e = 0 from h)]; rfl
  · rw [if_neg h, if_neg (show ¬ (shr r).e = 0 from h)]
theorem sh_next (r : RP) (h : r.at_ ≤ r.s.size) : (shr r).next = r.next ∨ r.next = (0, false) ∧ (shr r).next = (41, true) := by
  unfold RP.next
  have hs : (shr r).s.size = r.s.size + 2 := wrap_size r.s
  have ha : (shr r).at_ = r.at_ + 1 := rfl
  have he : (shr r).e = r.e := rfl
  by_cases h1 : r.e ≠ 0
  · left; rw [if_pos (.inl (by rw [he]; exact h1)), if_pos (.inl h1)]
  · by_cases h2 : r.s.size ≤ r.at_
    · right
      have h3 : r.at_ = r.s.size := by omega
      refine ⟨if_pos (.inr h2), ?_⟩
      rw [if_neg (by rw [he, hs, ha]; omega)]
      rw [ha, h3]; exact congrArg (·, true) (wrap_end r.s)
    · left
      rw [if_neg (by rw [he, hs, ha]; omega), if_neg (by omega), ha]
      exact congrArg (·, true) (wrap_in r.s (by omega))
theorem sh_next_some {r : RP} (h : r.at_ ≤ r.s.size) {c : Nat} (hn : r.next = (c, true)) : (shr r).next = (c, true) := by
  rcases sh_next r h with h | ⟨h, _⟩
  · rw [h, hn]
  · rw [h] at hn; cases hn
theorem sh_next_is {r : RP} (h : r.at_ ≤ r.s.size) {c : Nat} (hc : c ≠ 41) : (shr r).next = (c, true) ↔ r.next = (c, true) := by
  rcases sh_next r h with h | ⟨h, h'⟩
  · rw [h]
  · rw [h, h']; constructor
    · intro h; cases h; exact absurd rfl hc
    · intro h; cases h
theorem fail_ne (r : RP) {e : Int} (he : e ≠ 0) (h : (r.fail e).e = 0) : False := RP.fail_e r he h

theorem escape_sh {r : RP} (h : r.at_ < r.s.size) (h0 : r.escape.2.e = 0) : (shr r).escape = (r.escape.1, shr r.escape.2) ∧ r.escape.2.at_ ≤ r.s.size := by
  unfold RP.escape at h0 ⊢
  have hi : (shr r).inc = shr r.inc := rfl
  rw [hi]
  cases hn : r.inc.next with
  | mk c k =>
    rw [hn] at h0
    cases k with
    | false => exact (fail_ne _ (by decide) h0).elim
    | true =>
      obtain ⟨_, g2, _⟩ := RP.next_some hn
      rw [sh_next_some (r := r.inc) (by simp only [RP.inc]; omega) hn]
      dsimp only at h0 ⊢
      cases hm : named c with
      | mk s k =>
        rw [hm] at h0
        cases k with
        | true => exact ⟨rfl, g2⟩
        | false =>
          dsimp only at h0 ⊢
          cases hs : single c with
          | mk n k =>
            rw [hs] at h0
            cases k with
            | true => exact ⟨rfl, g2⟩
            | false => exact (fail_ne r.inc.inc (e := 82) (by decide) h0).elim
theorem member_sh {r : RP} (h : r.at_ ≤ r.s.size) (h0 : r.member.2.e = 0) : (shr r).member = (r.member.1, shr r.member.2) ∧ r.member.2.at_ ≤ r.s.size := by
  unfold RP.member at h0 ⊢
  cases hn : r.next with
  | mk c k =>
    rw [hn] at h0
    cases k with
    | false => exact (fail_ne _ (by decide) h0).elim
    | true =>
      obtain ⟨_, g2, _⟩ := RP.next_some hn
      rw [sh_next_some h hn]
      dsimp only at h0 ⊢
      by_cases h1 : c = 93 ∨ c = 94 ∨ c = 45
      · rw [if_pos h1] at h0; exact (fail_ne _ (by decide) h0).elim
      · rw [if_neg h1] at h0 ⊢
        rw [if_neg h1]
        by_cases h2 : c = 92
        · rw [if_pos h2] at h0 ⊢; rw [if_pos h2]; exact escape_sh g2 h0
        · rw [if_neg h2, if_neg h2]; exact ⟨rfl, g2⟩
/-- No error after all: none before. -/
theorem RP.Le.ok {a b : RP} (h : a.Le b) (hb : b.e = 0) : a.e = 0 := by
  by_cases ha : a.e = 0
  · exact ha
  · have := h.e ha; omega
theorem Up.ok {a b : RP} {d : Int} {m : Nat} (h : Up a b d m) (hb : b.e = 0) : a.e = 0 := by
  by_cases ha : a.e = 0
  · exact ha
  · have := h.e ha; omega
theorem elem_sh {r : RP} {first : Nat} {set : S4} {many : Bool} (h : r.at_ ≤ r.s.size) (h0 : (r.elem first set many).2.e = 0) :
    (shr r).elem first set many = ((r.elem first set many).1, shr (r.elem first set many).2) ∧ (r.elem first set many).2.at_ ≤ r.s.size := by
  unfold RP.elem at h0 ⊢
  by_cases hn : r.next = (45, true)
  · rw [if_pos hn] at h0 ⊢
    rw [if_pos ((sh_next_is h (by decide)).2 hn)]
    obtain ⟨_, g2, _⟩ := RP.next_some hn
    cases many with
    | true =>
      rw [if_pos rfl] at h0
      have hl : (r.inc.fail 80).Le _ := (member_le (x := (r.inc.fail 80).member.1) (r' := (r.inc.fail 80).member.2) rfl).1
      have he := RP.fail_e r.inc (e := 80) (by decide)
      have he2 : (r.inc.fail 80).member.2.e ≠ 0 := by rw [hl.e he]; exact he
      dsimp only at h0
      split at h0
      · exact (fail_ne _ (by decide) h0).elim
      · exact absurd h0 he2
    | false =>
      rw [if_neg (by decide)] at h0 ⊢
      rw [if_neg (by decide)]
      dsimp only at h0 ⊢
      by_cases hb : r.inc.member.1.2.2 = true ∨ r.inc.member.1.1 < first
      · rw [if_pos hb] at h0; exact (fail_ne _ (by decide) h0).elim
      · rw [if_neg hb] at h0 ⊢
        have hi : (shr r).inc = shr r.inc := rfl
        obtain ⟨e1, e2⟩ := member_sh (r := r.inc) g2 h0
        rw [hi, e1]
        exact ⟨by dsimp only; rw [if_neg hb], e2⟩
  · rw [if_neg hn, if_neg (fun h' => hn ((sh_next_is h (by decide)).1 h'))]
    exact ⟨rfl, h⟩
theorem classLoop_sh : ∀ (f f' : Nat) (x : Bool) (out : S4) (r : RP), r.at_ ≤ r.s.size → r.s.size < f + r.at_ → r.s.size < f' + r.at_ → (r.classLoop f x out).2.e = 0 →
    (shr r).classLoop f' x out = ((r.classLoop f x out).1, shr (r.classLoop f x out).2) ∧ (r.classLoop f x out).2.at_ ≤ r.s.size
  | 0, _, _, _, r, h, hf, _, _ => absurd hf (by omega)
  | _, 0, _, _, r, h, _, hf, _ => absurd hf (by omega)
  | f + 1, f' + 1, x, out, r, h, hf, hf', h0 => by
    unfold RP.classLoop at h0 ⊢
    by_cases hn : r.next = (93, true) ∧ x = true
    · rw [if_pos hn, if_pos ⟨(sh_next_is h (by decide)).2 hn.1, hn.2⟩]
      obtain ⟨_, g2, _⟩ := RP.next_some hn.1
      exact ⟨rfl, g2⟩
    · rw [if_neg hn] at h0 ⊢
      rw [if_neg (fun h' => hn ⟨(sh_next_is h (by decide)).1 h'.1, h'.2⟩)]
      dsimp only at h0 ⊢
      by_cases hb : (r.member.2.elem r.member.1.1 r.member.1.2.1 r.member.1.2.2).2.e ≠ 0
      · rw [if_pos hb] at h0; exact absurd h0 hb
      · have hb' : (r.member.2.elem r.member.1.1 r.member.1.2.1 r.member.1.2.2).2.e = 0 := by omega
        rw [if_neg hb] at h0 ⊢
        have hl : r.member.2.Le (r.member.2.elem r.member.1.1 r.member.1.2.1 r.member.1.2.2).2 := elem_le (r1 := r.member.2) (first := r.member.1.1) (set := r.member.1.2.1) (many := r.member.1.2.2) (set' := (r.member.2.elem r.member.1.1 r.member.1.2.1 r.member.1.2.2).1) rfl
        have hm : r.Le r.member.2 ∧ (r.member.2.e = 0 → r.at_ < r.member.2.at_) := member_le (r := r) (x := r.member.1) rfl
        obtain ⟨e1, e2⟩ := member_sh h (hl.ok hb')
        rw [e1]
        dsimp only
        obtain ⟨e3, e4⟩ := elem_sh (r := r.member.2) (by rw [hm.1.s]; exact e2) hb'
        rw [e3]
        dsimp only
        rw [if_neg (show ¬ (shr (r.member.2.elem r.member.1.1 r.member.1.2.1 r.member.1.2.2).2).e ≠ 0 from hb)]
        have hs := hl.s.trans hm.1.s
        have hat := Nat.lt_of_lt_of_le (hm.2 (hl.ok hb')) hl.at_
        have ih := classLoop_sh f f' true (out.or (r.member.2.elem r.member.1.1 r.member.1.2.1 r.member.1.2.2).1) (r.member.2.elem r.member.1.1 r.member.1.2.1 r.member.1.2.2).2
          (by rw [hl.s]; exact e4) (by rw [hs]; omega) (by rw [hs]; omega) h0
        rw [hs] at ih
        exact ih
theorem class_sh {r : RP} (h : r.at_ ≤ r.s.size) (h0 : r.class.2.e = 0) : (shr r).class = (r.class.1, shr r.class.2) ∧ r.class.2.at_ ≤ r.s.size := by
  have h9 : (shr r).next.1 = 94 ↔ r.next.1 = 94 := by
    rcases sh_next r h with h | ⟨h, h'⟩
    · rw [h]
    · rw [h, h']; decide
  have h1 : (if (shr r).next.1 = 94 then (shr r).inc else shr r) = shr (if r.next.1 = 94 then r.inc else r) := by
    by_cases hc : r.next.1 = 94
    · rw [if_pos hc, if_pos (h9.2 hc)]; rfl
    · rw [if_neg hc, if_neg (fun h => hc (h9.1 h))]
  have h2 : (if r.next.1 = 94 then r.inc else r).at_ ≤ r.s.size ∧ (if r.next.1 = 94 then r.inc else r).s = r.s ∧ r.at_ ≤ (if r.next.1 = 94 then r.inc else r).at_ := by
    split
    · rename_i hc
      have hk : r.next = (94, true) := by
        cases hn : r.next with
        | mk c k =>
          rw [hn] at hc
          cases k with
          | true => exact congrArg (·, true) hc
          | false => exact absurd ((RP.next_none hn).1.symm.trans hc) (by decide)
      obtain ⟨_, g2, _⟩ := RP.next_some hk
      exact ⟨g2, rfl, Nat.le_succ _⟩
    · exact ⟨h, rfl, Nat.le_refl _⟩
  have hco : ∀ (c c' : Nat) (R : (S4 × Bool) × RP) (g : RP → RP), (c' = 94 ↔ c = 94) → classOut c' (R.1, g R.2) = ((classOut c R).1, g (classOut c R).2) := by
    intro c c' R g hcc
    obtain ⟨⟨o, k⟩, r'⟩ := R
    cases k
    · rfl
    · show ((if c' = 94 then o.not else o, g r') : S4 × RP) = (if c = 94 then o.not else o, g r')
      by_cases hc : c = 94
      · rw [if_pos hc, if_pos (hcc.2 hc)]
      · rw [if_neg hc, if_neg (fun h => hc (hcc.1 h))]
  have hc2 : ∀ (c : Nat) (R : (S4 × Bool) × RP), (classOut c R).2 = R.2 := fun c R => by obtain ⟨⟨o, k⟩, r'⟩ := R; cases k <;> rfl
  unfold RP.class at h0 ⊢
  rw [h1]
  rw [hc2] at h0 ⊢
  obtain ⟨a1, a2, a3⟩ := h2
  have hs : (shr r).s.size = r.s.size + 2 := wrap_size r.s
  obtain ⟨e1, e2⟩ := classLoop_sh (r.s.size + 1) ((shr r).s.size + 1) false S4.zero (if r.next.1 = 94 then r.inc else r) (by rw [a2]; exact a1) (by rw [a2]; omega) (by rw [a2, hs]; omega) h0
  rw [e1]
  exact ⟨(hco _ _ _ shr h9).trans (by rw [hc2]), by rw [a2] at e2; exact e2⟩

/-! ### Patterns -/
/-- What a pattern's parser does one level further on, where it meets no error: the same, or it goes too deep. -/
def Sh (F G : RP → Nat × RP) (r : RP) : Prop := (F r).2.e = 0 → (F r).2.at_ ≤ r.s.size ∧ (G (shr r) = ((F r).1, shr (F r).2) ∨ (G (shr r)).2.e = 84)
theorem atomOf_sh {F G : RP → Nat × RP} (hF : ∀ r, Up r (F r).2 1 0) (hG : ∀ r, Up r (G r).2 1 0) {c : Nat} {r : RP} (hp : r.op + 1 ≤ 23 → ∀ r', r'.op = r.op + 1 → r'.at_ ≤ r'.s.size → Sh F G r')
    (h : r.at_ < r.s.size) : Sh (atomOf F c) (atomOf G c) r := by
  intro h0
  have hi : (shr r).inc = shr r.inc := rfl
  unfold atomOf at h0 ⊢
  rw [hi]
  by_cases c1 : c = 46
  · rw [if_pos c1, if_pos c1]; exact ⟨h, .inl rfl⟩
  rw [if_neg c1] at h0 ⊢; rw [if_neg c1]
  by_cases c2 : c = 94
  · rw [if_pos c2, if_pos c2]; exact ⟨h, .inl rfl⟩
  rw [if_neg c2] at h0 ⊢; rw [if_neg c2]
  by_cases c3 : c = 36
  · rw [if_pos c3, if_pos c3]; exact ⟨h, .inl rfl⟩
  rw [if_neg c3] at h0 ⊢; rw [if_neg c3]
  by_cases c4 : c = 91
  · rw [if_pos c4] at h0 ⊢; rw [if_pos c4]
    obtain ⟨e1, e2⟩ := class_sh (r := r.inc) h h0
    rw [e1]; exact ⟨e2, .inl rfl⟩
  rw [if_neg c4] at h0 ⊢; rw [if_neg c4]
  by_cases c5 : c = 93
  · rw [if_pos c5] at h0; exact (fail_ne _ (by decide) h0).elim
  rw [if_neg c5] at h0 ⊢; rw [if_neg c5]
  by_cases c6 : c = 42 ∨ c = 43 ∨ c = 63
  · rw [if_pos c6] at h0; exact (fail_ne _ (by decide) h0).elim
  rw [if_neg c6] at h0 ⊢; rw [if_neg c6]
  by_cases c7 : c = 92
  · rw [if_pos c7] at h0 ⊢; rw [if_pos c7]
    obtain ⟨e1, e2⟩ := escape_sh (r := r) h h0
    rw [e1]; exact ⟨e2, .inl rfl⟩
  rw [if_neg c7] at h0 ⊢; rw [if_neg c7]
  by_cases c8 : c = 40
  · rw [if_pos c8] at h0 ⊢; rw [if_pos c8]
    by_cases d1 : 24 < r.op + 1
    · rw [if_pos d1] at h0; exact (fail_ne _ (by decide) h0).elim
    rw [if_neg d1] at h0 ⊢
    dsimp only at h0 ⊢
    have hF1 := hF r.inc.up
    generalize hx : F r.inc.up = x at h0 hF1
    have hq : x.2.e = 0 ∧ x.2.next = (41, true) := by
      by_cases hq : x.2.next = (41, true)
      · exact ⟨(RP.next_some hq).1, hq⟩
      · rw [if_neg hq] at h0; exact (fail_ne _ (by decide) h0).elim
    rw [if_pos hq.2]
    have hxs : x.2.s = r.s := hF1.s
    have hlt := (RP.next_some hq.2).2.1
    refine ⟨by rw [← hxs]; exact hlt, ?_⟩
    by_cases d2 : 24 < (shr r).op + 1
    · rw [if_pos d2]
      right
      have : (shr r.inc).up.e = 0 := by
        have := hF1.ok hq.1
        exact this
      unfold RP.fail; rw [if_pos this]
    rw [if_neg d2]
    have d3 : r.op + 1 ≤ 23 := by have : (shr r).op = r.op + 1 := rfl; omega
    have hop : x.2.op = r.op + 1 := hF1.op (.inl hq.1)
    have hup : (shr r.inc).up = shr r.inc.up := rfl
    rw [hup]
    obtain ⟨_, g⟩ := hp d3 r.inc.up rfl h (by rw [hx]; exact hq.1)
    rw [hx] at g
    rcases g with g | g
    · left
      rw [g]
      dsimp only
      rw [if_pos (sh_next_some (by omega) hq.2)]
      refine congrArg (Prod.mk x.1) ?_
      have : ∀ q : RP, 1 ≤ q.op → (shr q).inc.down = shr q.inc.down := fun q hq => by
        simp only [shr, RP.inc, RP.down, RP.mk.injEq, true_and, and_true]; omega
      exact this _ (by omega)
    · right
      have hG1 : (G (shr r.inc.up)).2.e ≠ 0 := by rw [g]; decide
      generalize (G (shr r.inc.up)).2 = q at g hG1
      have hn : ¬ q.next = (41, true) := fun h => hG1 (RP.next_some h).1
      dsimp only
      rw [if_neg hn]
      unfold RP.fail; rw [if_neg hG1]; exact g
  rw [if_neg c8] at h0 ⊢; rw [if_neg c8]
  exact ⟨h, .inl rfl⟩
theorem signs_sh : ∀ (f f' n : Nat) (r : RP), r.at_ ≤ r.s.size → r.s.size < f + r.at_ → r.s.size < f' + r.at_ → (signs f n r).2.e = 0 →
    (signs f n r).2.at_ ≤ r.s.size ∧ signs f' n (shr r) = ((signs f n r).1, shr (signs f n r).2)
  | 0, _, _, r, h, hf, _, _ => absurd hf (by omega)
  | _, 0, _, r, h, _, hf, _ => absurd hf (by omega)
  | f + 1, f' + 1, n, r, h, hf, hf', h0 => by
    have hsg : signOf (shr r).next.1 = signOf r.next.1 := by
      rcases sh_next r h with h | ⟨h, h'⟩
      · rw [h]
      · rw [h, h']; rfl
    unfold signs at h0 ⊢
    rw [hsg]
    by_cases hs : signOf r.next.1 = 0
    · rw [if_pos hs, if_pos hs]; exact ⟨h, rfl⟩
    · rw [if_neg hs] at h0 ⊢
      rw [if_neg hs]
      have hlt : r.at_ < r.s.size := by
        cases hn : r.next with
        | mk c k =>
          cases k with
          | true => exact (RP.next_some hn).2.1
          | false => rw [hn] at hs; have := (RP.next_none hn).1; subst this; exact absurd rfl hs
      exact signs_sh f f' r.nds.length (r.inc.put (nd (signOf r.next.1) n 0 S4.zero)) hlt (show r.s.size < f + (r.at_ + 1) by omega) (show r.s.size < f' + (r.at_ + 1) by omega) h0
theorem signs_e (f n : Nat) (r : RP) (h : r.e ≠ 0) : (signs f n r).2.e = r.e := (signs_up f n r).e h
theorem partOf_sh {F G : RP → Nat × RP} (hF : ∀ r, Up r (F r).2 1 0) (hG : ∀ r, Up r (G r).2 1 0) {c : Nat} {r : RP} (hp : r.op + 1 ≤ 23 → ∀ r', r'.op = r.op + 1 → r'.at_ ≤ r'.s.size → Sh F G r')
    (h : r.at_ < r.s.size) (he : r.e = 0) : Sh (partOf F c) (partOf G c) r := by
  intro h0
  unfold partOf at h0 ⊢
  have hu := atomOf_up hF c r he
  have h1 : (atomOf F c r).2.e = 0 := (signs_up _ _ _).ok h0
  obtain ⟨g1, g2⟩ := atomOf_sh hF hG hp h h1
  have ha := hu.at_
  have hss : (shr r).s.size = r.s.size + 2 := wrap_size r.s
  obtain ⟨k1, k2⟩ := signs_sh (r.s.size + 1) ((shr r).s.size + 1) (atomOf F c r).1 (atomOf F c r).2 (by rw [hu.s]; exact g1) (by rw [hu.s]; omega) (by rw [hu.s, hss]; omega) h0
  rw [hu.s] at k1
  refine ⟨k1, ?_⟩
  rcases g2 with g | g
  · left; rw [g]; exact k2
  · right; rw [signs_e _ _ _ (by rw [g]; decide)]; exact g
theorem altLoop_sh {F G : RP → Nat × RP} (hF : ∀ r, Up r (F r).2 1 0) (hG : ∀ r, Up r (G r).2 1 0) {op : Nat} (hp : op + 1 ≤ 23 → ∀ r', r'.op = op + 1 → r'.at_ ≤ r'.s.size → Sh F G r') :
    ∀ (f f' : Nat) (n : Option Nat) (r : RP), r.op = op → r.at_ ≤ r.s.size → r.s.size < f + r.at_ → r.s.size < f' + r.at_ → (altLoop F f n r).2.e = 0 →
      (altLoop F f n r).2.at_ ≤ r.s.size ∧ ((altLoop F f n r).2.next.2 = false ∨ (altLoop F f n r).2.next.1 = 124 ∨ (altLoop F f n r).2.next.1 = 41 ∧ op ≠ 0) ∧
      (altLoop G f' n (shr r) = ((altLoop F f n r).1, shr (altLoop F f n r).2) ∨ (altLoop G f' n (shr r)).2.e = 84)
  | 0, _, _, r, _, h, hf, _, _ => absurd hf (by omega)
  | _, 0, _, r, _, h, _, hf, _ => absurd hf (by omega)
  | f + 1, f' + 1, n, r, hop, h, hf, hf', h0 => by
    have hstop : ((shr r).next.2 = false ∨ (shr r).next.1 = 124 ∨ (shr r).next.1 = 41) ↔ (r.next.2 = false ∨ r.next.1 = 124 ∨ r.next.1 = 41) := by
      rcases sh_next r h with h | ⟨h, h'⟩
      · rw [h]
      · rw [h, h']; decide
    unfold altLoop at h0 ⊢
    by_cases hs : r.next.2 = false ∨ r.next.1 = 124 ∨ r.next.1 = 41
    · rw [if_pos hs] at h0 ⊢
      rw [if_pos (hstop.2 hs)]
      have hsh : (if (shr r).next = (41, true) ∧ (shr r).op = 0 then (shr r).fail 83 else shr r) = shr r := if_neg (fun h => by have : (shr r).op = r.op + 1 := rfl; omega)
      have hr : ¬ (r.next = (41, true) ∧ r.op = 0) := by
        intro hb
        rw [if_pos hb] at h0
        cases n
        · exact (fail_ne r (by decide) h0).elim
        · exact (fail_ne r (by decide) h0).elim
      rw [if_neg hr, hsh]
      have hend : ∀ q : RP, q.next = r.next → (q.next.2 = false ∨ q.next.1 = 124 ∨ q.next.1 = 41 ∧ op ≠ 0) := by
        intro q hq
        rw [hq]
        rcases hs with hs | hs | hs
        · exact .inl hs
        · exact .inr (.inl hs)
        · by_cases h2 : r.next.2 = false
          · exact .inl h2
          · refine .inr (.inr ⟨hs, fun h3 => hr ⟨Prod.ext hs (by simpa using h2), hop.trans h3⟩⟩)
      cases n with
      | none => exact ⟨h, hend _ rfl, .inl rfl⟩
      | some m => exact ⟨h, hend _ rfl, .inl rfl⟩
    · rw [if_neg hs] at h0 ⊢
      rw [if_neg (fun h => hs (hstop.1 h))]
      have hn : r.next = (r.next.1, true) := Prod.ext rfl (by
        by_cases h2 : r.next.2 = false
        · exact absurd (.inl h2) hs
        · simpa using h2)
      obtain ⟨he, hlt, _⟩ := RP.next_some hn
      rw [sh_next_some h hn]
      dsimp only at h0 ⊢
      have hu := partOf_up hF r.next.1 r he
      have hat := hu.at_
      have main : ∀ (m : Nat) (g : RP → RP) (hgs : ∀ q, (g q).s = q.s ∧ (g q).at_ = q.at_ ∧ (g q).op = q.op ∧ (g q).e = q.e ∧ shr (g q) = g (shr q)),
          (altLoop F f (some m) (g (partOf F r.next.1 r).2)).2.e = 0 → 
          (altLoop F f (some m) (g (partOf F r.next.1 r).2)).2.at_ ≤ r.s.size ∧ ((altLoop F f (some m) (g (partOf F r.next.1 r).2)).2.next.2 = false ∨ (altLoop F f (some m) (g (partOf F r.next.1 r).2)).2.next.1 = 124 ∨ (altLoop F f (some m) (g (partOf F r.next.1 r).2)).2.next.1 = 41 ∧ op ≠ 0) ∧
          (partOf G r.next.1 (shr r) = ((partOf F r.next.1 r).1, shr (partOf F r.next.1 r).2) ∧ altLoop G f' (some m) (g (shr (partOf F r.next.1 r).2)) = ((altLoop F f (some m) (g (partOf F r.next.1 r).2)).1, shr (altLoop F f (some m) (g (partOf F r.next.1 r).2)).2) ∨
           partOf G r.next.1 (shr r) = ((partOf F r.next.1 r).1, shr (partOf F r.next.1 r).2) ∧ (altLoop G f' (some m) (g (shr (partOf F r.next.1 r).2))).2.e = 84 ∨
           (partOf G r.next.1 (shr r)).2.e = 84) := by
        intro m g hgs h0
        obtain ⟨q1, q2, q3, q4, q5⟩ := hgs (partOf F r.next.1 r).2
        have he1 : (partOf F r.next.1 r).2.e = 0 := by rw [← q4]; exact (altLoop_up hF _ _ _).ok h0
        obtain ⟨g1, g2⟩ := partOf_sh hF hG (c := r.next.1) (r := r) (by rw [hop]; exact hp) hlt he he1
        have ih := altLoop_sh hF hG hp f f' (some m) (g (partOf F r.next.1 r).2) (by rw [q3, hu.op (.inl he1), hop]) (by rw [q1, q2, hu.s]; exact g1) (by rw [q1, q2, hu.s]; omega) (by rw [q1, q2, hu.s]; omega) h0
        rw [q1, hu.s] at ih
        refine ⟨ih.1, ih.2.1, ?_⟩
        rw [q5] at ih
        rcases g2 with g2 | g2
        · rcases ih.2.2 with ih | ih
          · exact .inl ⟨g2, ih⟩
          · exact .inr (.inl ⟨g2, ih⟩)
        · exact .inr (.inr g2)
      cases n with
      | none =>
        dsimp only at h0 ⊢
        obtain ⟨m1, m2, m3⟩ := main (partOf F r.next.1 r).1 id (fun q => ⟨rfl, rfl, rfl, rfl, rfl⟩) h0
        refine ⟨m1, m2, ?_⟩
        rcases m3 with ⟨a, b⟩ | ⟨a, b⟩ | a
        · left; rw [a]; exact b
        · right; rw [a]; exact b
        · right; exact ((altLoop_up hG _ _ _).e (by rw [a]; decide)).trans a
      | some k =>
        dsimp only at h0 ⊢
        obtain ⟨m1, m2, m3⟩ := main (partOf F r.next.1 r).2.nds.length (fun q => q.put (nd 3 k (partOf F r.next.1 r).1 S4.zero)) (fun q => ⟨rfl, rfl, rfl, rfl, rfl⟩) h0
        refine ⟨m1, m2, ?_⟩
        rcases m3 with ⟨a, b⟩ | ⟨a, b⟩ | a
        · left; rw [a]; exact b
        · right; rw [a]; exact b
        · right
          refine ((altLoop_up hG _ _ _).e ?_).trans (show ((partOf G r.next.1 (shr r)).2.put _).e = 84 from a)
          show (partOf G r.next.1 (shr r)).2.e ≠ 0
          rw [a]; decide
theorem patLoop_sh {F G : RP → Nat × RP} (hF : ∀ r, Up r (F r).2 1 0) (hG : ∀ r, Up r (G r).2 1 0) {op : Nat} (hp : op + 1 ≤ 23 → ∀ r', r'.op = op + 1 → r'.at_ ≤ r'.s.size → Sh F G r') :
    ∀ (f f' : Nat) (n : Nat) (r : RP), r.op = op → (r.next.2 = false ∨ r.next.1 = 124 ∨ r.next.1 = 41 ∧ op ≠ 0) → r.at_ ≤ r.s.size → r.s.size < f + r.at_ → r.s.size < f' + r.at_ → (patLoop F f n r).2.e = 0 →
      (patLoop F f n r).2.at_ ≤ r.s.size ∧ ((patLoop F f n r).2.next.2 = false ∨ (patLoop F f n r).2.next.1 = 41 ∧ op ≠ 0) ∧
      (patLoop G f' n (shr r) = ((patLoop F f n r).1, shr (patLoop F f n r).2) ∨ (patLoop G f' n (shr r)).2.e = 84)
  | 0, _, _, r, _, _, h, hf, _, _ => absurd hf (by omega)
  | _, 0, _, r, _, _, h, _, hf, _ => absurd hf (by omega)
  | f + 1, f' + 1, n, r, hop, hr, h, hf, hf', h0 => by
    unfold patLoop at h0 ⊢
    by_cases hn : r.next = (124, true)
    · rw [if_pos hn] at h0 ⊢
      rw [if_pos ((sh_next_is h (by decide)).2 hn)]
      obtain ⟨he, hlt, _⟩ := RP.next_some hn
      dsimp only at h0 ⊢
      have hu := altOf_up hF r.inc
      have he1 : (altOf F r.inc).2.e = 0 := (patLoop_up hF f (altOf F r.inc).2.nds.length ((altOf F r.inc).2.put (nd 4 n (altOf F r.inc).1 S4.zero))).ok h0
      have hat : r.at_ + 1 + 0 ≤ (altOf F r.inc).2.at_ := hu.at_
      have hus : (altOf F r.inc).2.s = r.s := hu.s
      have hi : (shr r).inc = shr r.inc := rfl
      have hss : (shr r).s.size = r.s.size + 2 := wrap_size r.s
      obtain ⟨g1, g2, g3⟩ := altLoop_sh hF hG hp (r.inc.s.size + 1) ((shr r.inc).s.size + 1) none r.inc hop hlt (by simp only [RP.inc]; omega) (by have hss' : (shr r.inc).s.size = r.s.size + 2 := hss; rw [hss']; simp only [RP.inc]; omega) he1
      have ih := patLoop_sh hF hG hp f f' (altOf F r.inc).2.nds.length ((altOf F r.inc).2.put (nd 4 n (altOf F r.inc).1 S4.zero)) ((hu.op (.inl he1)).trans hop) g2 (show _ ≤ (altOf F r.inc).2.s.size by rw [hus]; exact g1)
        (show (altOf F r.inc).2.s.size < f + (altOf F r.inc).2.at_ by rw [hus]; omega) (show (altOf F r.inc).2.s.size < f' + (altOf F r.inc).2.at_ by rw [hus]; omega) h0
      have hps : ∀ x, ((altOf F r.inc).2.put x).s = r.s := fun _ => hus
      rw [hps] at ih
      refine ⟨ih.1, ih.2.1, ?_⟩
      rw [hi]
      rcases g3 with g3 | g3
      · have g3 : altOf G (shr r.inc) = ((altOf F r.inc).1, shr (altOf F r.inc).2) := g3
        rw [g3]
        exact ih.2.2
      · have g3 : (altOf G (shr r.inc)).2.e = 84 := g3
        right
        exact ((patLoop_up hG f' (altOf G (shr r.inc)).2.nds.length ((altOf G (shr r.inc)).2.put (nd 4 n (altOf G (shr r.inc)).1 S4.zero))).e (show (altOf G (shr r.inc)).2.e ≠ 0 by rw [g3]; decide)).trans g3
    · rw [if_neg hn] at h0 ⊢
      rw [if_neg (fun h' => hn ((sh_next_is h (by decide)).1 h'))]
      refine ⟨h, ?_, .inl rfl⟩
      rcases hr with hr | hr | hr
      · exact .inl hr
      · by_cases h2 : r.next.2 = false
        · exact .inl h2
        · exact absurd (Prod.ext hr (by simpa using h2)) hn
      · exact .inr hr
theorem patOf_sh {F G : RP → Nat × RP} (hF : ∀ r, Up r (F r).2 1 0) (hG : ∀ r, Up r (G r).2 1 0) {op : Nat} (hp : op + 1 ≤ 23 → ∀ r', r'.op = op + 1 → r'.at_ ≤ r'.s.size → Sh F G r') {r : RP} (hop : r.op = op)
    (h : r.at_ ≤ r.s.size) (h0 : (patOf F r).2.e = 0) : (patOf F r).2.at_ ≤ r.s.size ∧ ((patOf F r).2.next.2 = false ∨ (patOf F r).2.next.1 = 41 ∧ op ≠ 0) ∧ (patOf G (shr r) = ((patOf F r).1, shr (patOf F r).2) ∨ (patOf G (shr r)).2.e = 84) := by
  unfold patOf at h0 ⊢
  have hu := altOf_up hF r
  have he1 : (altOf F r).2.e = 0 := (patLoop_up hF _ _ _).ok h0
  have hss : (shr r).s.size = r.s.size + 2 := wrap_size r.s
  have hat := hu.at_
  obtain ⟨g1, g2, g3⟩ := altLoop_sh hF hG hp (r.s.size + 1) ((shr r).s.size + 1) none r hop h (by omega) (by omega) he1
  obtain ⟨k1, k2, k3⟩ := patLoop_sh hF hG hp (r.s.size + 1) ((shr r).s.size + 1) (altOf F r).1 (altOf F r).2 ((hu.op (.inl he1)).trans hop) g2 (by rw [hu.s]; exact g1) (by rw [hu.s]; omega) (by rw [hu.s]; omega) h0
  rw [hu.s] at k1
  refine ⟨k1, k2, ?_⟩
  rcases g3 with g3 | g3
  · have g3 : altOf G (shr r) = ((altOf F r).1, shr (altOf F r).2) := g3
    rw [g3]; exact k3
  · have g3 : (altOf G (shr r)).2.e = 84 := g3
    right
    exact ((patLoop_up hG _ _ _).e (by rw [g3]; decide)).trans g3
theorem patN_sh : ∀ (n n' : Nat) (r : RP), r.op ≤ 23 → 25 ≤ r.op + n → 24 ≤ r.op + n' → r.at_ ≤ r.s.size → (patN n r).2.e = 0 →
    (patN n r).2.at_ ≤ r.s.size ∧ ((patN n r).2.next.2 = false ∨ (patN n r).2.next.1 = 41 ∧ r.op ≠ 0) ∧ (patN n' (shr r) = ((patN n r).1, shr (patN n r).2) ∨ (patN n' (shr r)).2.e = 84)
  | 0, _, r, h, h1, _, _, _ => absurd h1 (by omega)
  | _, 0, r, h, _, h1, _, _ => absurd h1 (by omega)
  | n + 1, n' + 1, r, h, h1, h2, hat, h0 =>
    patOf_sh (F := patN n) (G := patN n') (patN_up n) (patN_up n') (op := r.op) (fun hop r' hr hat h0 => by
      have := patN_sh n n' r' (by omega) (by omega) (by omega) hat h0
      exact ⟨this.1, this.2.2⟩) rfl hat h0
/-- A pattern in parentheses: the same nodes, or too deep. -/
theorem rx_wrap {s : ByteArray} {a : List Nd} (h : rxParse s = (a, 0)) (hs : s.size ≤ 126) : rxParse (wrap s) = (a, 0) ∨ (rxParse (wrap s)).2 = 84 := by
  unfold rxParse at h
  rw [if_neg (by omega)] at h
  dsimp only at h
  have h0 : (patN 25 (parser0 s)).2.e = 0 := by
    by_cases h0 : (patN 25 (parser0 s)).2.e = 0
    · exact h0
    · rw [if_pos h0] at h; exact (Prod.mk.inj h).2
  rw [if_neg (by omega)] at h
  have hl : ¬ 256 < (patN 25 (parser0 s)).2.nds.length := fun hl => by
    rw [if_pos hl] at h; exact absurd (Prod.mk.inj h).2 (by decide)
  rw [if_neg hl] at h
  have ha := (Prod.mk.inj h).1
  have hu := patN_up 25 (parser0 s)
  obtain ⟨g1, g2, g3⟩ := patN_sh 25 24 (parser0 s) (by simp [parser0]) (by simp [parser0]) (by simp [parser0]) (by simp [parser0]) h0
  have hxs : (patN 25 (parser0 s)).2.s = s := hu.s
  have hop : (patN 25 (parser0 s)).2.op = 0 := hu.op (.inl h0)
  -- the end of the text
  have hend : (patN 25 (parser0 s)).2.at_ = s.size := by
    rcases g2 with g2 | ⟨_, g2⟩
    · cases hn : (patN 25 (parser0 s)).2.next with
      | mk c k =>
        rw [hn] at g2
        have : k = false := g2
        subst this
        rcases (RP.next_none hn).2 with h | h
        · exact absurd h0 h
        · have : (parser0 s).s = s := rfl
          rw [hxs] at h; rw [this] at g1; omega
    · exact absurd rfl g2
  generalize hX : patN 25 (parser0 s) = X at *
  have hw : (wrap s).size = s.size + 2 := wrap_size s
  have hn0 : (parser0 (wrap s)).next = (40, true) := by
    unfold RP.next
    rw [if_neg (by simp only [parser0]; omega)]
    exact congrArg (·, true) (wrap_0 s)
  have hup : (parser0 (wrap s)).inc.up = shr (parser0 s) := rfl
  have hat : atomOf (patN 24) 40 (parser0 (wrap s)) = ((patN 24 (shr (parser0 s))).1, (if (patN 24 (shr (parser0 s))).2.next = (41, true) then (patN 24 (shr (parser0 s))).2.inc else (patN 24 (shr (parser0 s))).2.fail 83).down) := by
    unfold atomOf
    rw [if_neg (by decide), if_neg (by decide), if_neg (by decide), if_neg (by decide), if_neg (by decide), if_neg (by decide), if_neg (by decide), if_pos rfl, if_neg (by simp [parser0])]
    rw [hup]
  have hP : ∀ P : RP → Nat × RP, altOf P (parser0 (wrap s)) = altLoop P (s.size + 2) (some (partOf P 40 (parser0 (wrap s))).1) (partOf P 40 (parser0 (wrap s))).2 := fun P => by
    unfold altOf
    have : (parser0 (wrap s)).s.size + 1 = (s.size + 2) + 1 := by simp only [parser0]; omega
    rw [this]
    conv => lhs; unfold altLoop
    rw [hn0]
    rfl
  have hfin : rxParse (wrap s) = (if (patN 25 (parser0 (wrap s))).2.e ≠ 0 then ([], (patN 25 (parser0 (wrap s))).2.e) else if 256 < (patN 25 (parser0 (wrap s))).2.nds.length then ([], 1) else ((patN 25 (parser0 (wrap s))).2.nds, 0)) := by
    unfold rxParse; rw [if_neg (by omega)]
  have hpat : patN 25 (parser0 (wrap s)) = patOf (patN 24) (parser0 (wrap s)) := rfl
  rw [hfin, hpat]
  rcases g3 with g3 | g3
  · left
    rw [g3] at hat
    dsimp only at hat
    have hq : (shr X.2).next = (41, true) := by
      rcases sh_next X.2 (by rw [hxs]; omega) with hh | ⟨_, hh⟩
      · exfalso
        have e1 : (shr X.2).e = 0 := h0
        have e2 : (shr X.2).s.size = s.size + 2 := by show (wrap X.2.s).size = _; rw [hxs]; exact hw
        have e3 : (shr X.2).at_ = s.size + 1 := by show X.2.at_ + 1 = _; omega
        have e4 : X.2.next = (0, false) := if_pos (.inr (by rw [hxs]; omega))
        rw [e4] at hh
        unfold RP.next at hh
        rw [if_neg (by rw [e1, e2, e3]; omega)] at hh
        exact absurd (Prod.mk.inj hh).2 (by decide)
      · exact hh
    rw [if_pos hq] at hat
    -- behind the closing parenthesis
    have hz : ((shr X.2).inc.down).next = (0, false) := if_pos (.inr (by
      show (wrap X.2.s).size ≤ X.2.at_ + 1 + 1
      rw [hxs]; omega))
    have hsig : ∀ f n, signs f n (shr X.2).inc.down = (n, (shr X.2).inc.down) := fun f n => by
      cases f with
      | zero => rfl
      | succ f => unfold signs; rw [hz]; rfl
    have hpart : partOf (patN 24) 40 (parser0 (wrap s)) = (X.1, (shr X.2).inc.down) := by
      unfold partOf; rw [hat]; exact hsig _ _
    have halt : altOf (patN 24) (parser0 (wrap s)) = (X.1, (shr X.2).inc.down) := by
      rw [hP, hpart]
      dsimp only
      unfold altLoop
      rw [hz]
      rw [if_pos (.inl rfl)]
      dsimp only
      rw [if_neg (fun h => by cases h.1)]
    have hall : patOf (patN 24) (parser0 (wrap s)) = (X.1, (shr X.2).inc.down) := by
      unfold patOf
      rw [halt]
      dsimp only
      conv => lhs; unfold patLoop
      rw [hz, if_neg (fun h => absurd (Prod.mk.inj h).2 (by decide))]
    rw [hall]
    dsimp only
    rw [if_neg (show ¬ (shr X.2).inc.down.e ≠ 0 from fun h => h h0), if_neg (show ¬ 256 < (shr X.2).inc.down.nds.length from hl)]
    exact congrArg (·, (0 : Int)) ha
  · right
    have hA : (atomOf (patN 24) 40 (parser0 (wrap s))).2.e = 84 := by
      rw [hat]
      have hG1 : (patN 24 (shr (parser0 s))).2.e ≠ 0 := by rw [g3]; decide
      rw [if_neg (fun h => hG1 (RP.next_some h).1)]
      unfold RP.fail; rw [if_neg hG1]; exact g3
    have hB : (partOf (patN 24) 40 (parser0 (wrap s))).2.e = 84 := by
      unfold partOf
      rw [signs_e _ _ _ (by rw [hA]; decide)]; exact hA
    have hC : (altOf (patN 24) (parser0 (wrap s))).2.e = 84 := by
      rw [hP]
      exact ((altLoop_up (patN_up 24) _ _ _).e (by rw [hB]; decide)).trans hB
    have hD : (patOf (patN 24) (parser0 (wrap s))).2.e = 84 := by
      unfold patOf
      exact ((patLoop_up (patN_up 24) _ _ _).e (by rw [hC]; decide)).trans hC
    rw [if_pos (by rw [hD]; decide)]
    exact hD
end Go.Proofs.Ytaffcoiomggpfaa
