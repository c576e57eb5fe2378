/- The two parsers of patterns find the same: patterns. -/
import Derived.Test.YtaffcoiomggpfaaVPEq
namespace Go.Proofs.Ytaffcoiomggpfaa
open Go.V
attribute [local irreducible] app
set_option linter.unusedVariables false

theorem class_al {r : RP} {q : PS} (h : Al r q) (h0 : r.e = 0) (hat : q.at_ ≤ q.s.size) : Al r.class.2 q.class8.2 ∧ (r.class.2.e = 0 → r.class.1 = q.class8.1) := by
  have hm := h.more
  have hq0 : q.e = 0 := by rw [← h.e]; exact h0
  have h9 : (q.more && decide (q.byte = 94)) = decide (r.next.1 = 94) := by
    rw [hm]
    by_cases hmo : q.more = true
    · rw [if_pos hmo, hmo]; simp
    · rw [if_neg hmo]; simp [hmo]
  unfold RP.class PS.class8
  rw [h9]
  have hc2 : ∀ (c : Nat) (R : (S4 × Bool) × RP), (classOut c R).2 = R.2 := fun c R => by obtain ⟨⟨o, k⟩, r'⟩ := R; cases k <;> rfl
  have go : ∀ (r' : RP) (q' : PS) (neg : Bool), Al r' q' → r'.e = 0 → q'.at_ ≤ q'.s.size → q'.s = q.s → (neg = true ↔ r.next.1 = 94) →
      Al (classOut r.next.1 (r'.classLoop (r.s.size + 1) false S4.zero)).2 (PS.classLoop8 (q.s.size + 28) neg 0 S4.zero q').2 ∧
      ((classOut r.next.1 (r'.classLoop (r.s.size + 1) false S4.zero)).2.e = 0 → (classOut r.next.1 (r'.classLoop (r.s.size + 1) false S4.zero)).1 = (PS.classLoop8 (q.s.size + 28) neg 0 S4.zero q').1) := by
    intro r' q' neg ha hr' hq' hs' hneg
    obtain ⟨g1, g2⟩ := classLoop_al neg (r.s.size + 1) (q.s.size + 28) 0 false S4.zero r' q' ha hr' (by simp) hq' (by rw [hs', h.s]; omega) (by rw [hs']; omega)
    rw [hc2]
    refine ⟨g1, fun he => ?_⟩
    obtain ⟨k1, k2⟩ := g2 he
    rw [k2]
    generalize r'.classLoop (r.s.size + 1) false S4.zero = R at k1
    obtain ⟨⟨o, k⟩, r''⟩ := R
    dsimp only at k1
    subst k1
    show (if r.next.1 = 94 then o.not else o) = (if neg = true then o.not else o)
    by_cases hc : r.next.1 = 94
    · rw [if_pos hc, if_pos (hneg.2 hc)]
    · rw [if_neg hc, if_neg (fun h => hc (hneg.1 h))]
  by_cases hc : r.next.1 = 94
  · rw [if_pos hc, decide_eq_true hc]
    have hmo : q.more = true := by
      by_cases hmo : q.more = true
      · exact hmo
      · rw [hm, if_neg hmo] at hc; exact absurd hc (by decide)
    exact go r.inc q.inc true h.inc h0 (PS.more_iff.1 hmo).2 rfl (by simp [hc])
  · rw [if_neg hc, decide_eq_false hc]
    exact go r q false h h0 hat rfl (by simp [hc])

/-! ### The depth of the reference's parser -/
theorem pfail_deep (q : PS) (e : Int) : (q.fail e).deep = q.deep := (PS.fail_at q e).2.2
theorem escape8_deep (q : PS) : q.escape8.2.2.deep = q.deep := by
  unfold PS.escape8
  split
  · exact pfail_deep _ _
  · split
    rename_i s x y _
    cases y
    · exact pfail_deep q 82
    · rfl
theorem single8_deep (q : PS) : q.single8.2.2.deep = q.deep := by
  unfold PS.single8
  split
  · exact escape8_deep q.inc
  · split
    · exact pfail_deep q.inc 80
    · rfl
theorem element8_deep (q : PS) : q.element8.2.deep = q.deep := by
  have h := single8_deep q
  unfold PS.element8
  revert h
  generalize q.single8 = R
  obtain ⟨a, one, q1⟩ := R
  intro h
  dsimp only at h ⊢
  split
  · split
    · exact (pfail_deep q1.inc 80).trans h
    · have h3 := single8_deep q1.inc
      revert h3
      generalize q1.inc.single8 = R
      obtain ⟨b, two, q3⟩ := R
      intro h3
      dsimp only at h3 ⊢
      split
      · exact ((pfail_deep q3 80).trans h3).trans h
      · exact h3.trans h
  · exact h
theorem classLoop8_deep : ∀ (f : Nat) (neg : Bool) (n : Nat) (s : S4) (q : PS), (PS.classLoop8 f neg n s q).2.deep = q.deep
  | 0, _, _, _, q => rfl
  | f + 1, neg, n, s, q => by
    unfold PS.classLoop8
    split
    · split
      · dsimp only
        split
        · exact pfail_deep q 80
        · rfl
      · have h := element8_deep q
        revert h
        generalize q.element8 = R
        obtain ⟨x, q1⟩ := R
        intro h
        exact (classLoop8_deep f neg _ _ _).trans h
    · exact pfail_deep q 80
theorem class8_deep (q : PS) : q.class8.2.deep = q.deep := by
  unfold PS.class8
  dsimp only
  split
  · exact classLoop8_deep _ _ _ _ q.inc
  · exact classLoop8_deep _ _ _ _ q

/-! ### Nodes that are shifted -/
def kd (B : Nat) (x : Nd) : Nd := { x with l := if 0 < kids2 x.k then x.l + B else 0, r := if 1 < kids2 x.k then x.r + B else 0 }
/-- The places of a list's nodes lie in it. -/
def Bd (L : List Nd) : Prop := ∀ x ∈ L, (0 ≤ x.l ∧ x.l ≤ L.length) ∧ (0 ≤ x.r ∧ x.r ≤ L.length) ∧ (¬ 0 < kids2 x.k → x.l = 0) ∧ (¬ 1 < kids2 x.k → x.r = 0)
theorem shift_kd {n : Nat} {x : Nd} (hl : 0 ≤ x.l ∧ x.l ≤ 1048576) (hr : 0 ≤ x.r ∧ x.r ≤ 1048576) (hn : n ≤ 1048576) : Nd.shift n x = kd n x := by
  unfold Nd.shift kd sh
  rw [IntWalk.i64_in (x.l + n) (by omega), IntWalk.i64_in (x.r + n) (by omega)]
theorem kd_kd (B n : Nat) (x : Nd) : kd B (kd n x) = kd (B + n) x := by
  unfold kd
  dsimp only
  congr 1
  · by_cases h : 0 < kids2 x.k
    · rw [if_pos h, if_pos h, if_pos h]; omega
    · rw [if_neg h, if_neg h]
  · by_cases h : 1 < kids2 x.k
    · rw [if_pos h, if_pos h, if_pos h]; omega
    · rw [if_neg h, if_neg h]
theorem kd_zero {L : List Nd} (h : Bd L) : L.map (kd 0) = L := by
  have : ∀ x ∈ L, kd 0 x = id x := fun x hx => by
    obtain ⟨_, _, h3, h4⟩ := h x hx
    unfold kd
    obtain ⟨k, l, r, a, b, c, d⟩ := x
    simp only [id, Nd.mk.injEq, true_and, and_true] at h3 h4 ⊢
    refine ⟨?_, ?_⟩
    · split
      · omega
      · rename_i hh; exact (h3 hh).symm
    · split
      · omega
      · rename_i hh; exact (h4 hh).symm
  rw [List.map_congr_left this, List.map_id]
theorem kd_leaf {k : Int} (hk : kids2 k = 0) (B : Nat) (s : S4) : kd B (ndI k s) = nd k 0 0 s := by
  unfold kd ndI nd; dsimp only; rw [hk]; rfl

/-- What the two parsers have read from a place on: the same nodes, behind the nodes that were there. -/
structure Ra (base : List Nd) (x : Nat × RP) (y : List Nd × PS) : Prop where
  al : Al x.2 y.2
  ok : x.2.e = 0 → x.2.nds = base ++ y.1.map (kd base.length) ∧ x.1 + 1 = base.length + y.1.length ∧ Bd y.1 ∧ 0 < y.1.length ∧ x.2.op = y.2.deep ∧ x.2.at_ ≤ x.2.s.size
theorem leaf_ra {base : List Nd} {r : RP} {q : PS} {k : Int} {s s' : S4} (h : Al r q) (hb : r.e = 0 → r.nds = base ∧ s = s' ∧ r.op = q.deep ∧ r.at_ ≤ r.s.size) (hk : kids2 k = 0) : Ra base (r.putN (nd k 0 0 s)) ([ndI k s'], q) := by
  refine ⟨⟨h.s, h.e, h.at_⟩, fun he => ?_⟩
  obtain ⟨h1, h2, h3, h4⟩ := hb he
  subst h1 h2
  refine ⟨?_, rfl, fun x hx => ?_, Nat.one_pos, h3, h4⟩
  · show r.nds ++ [_] = _
    rw [List.map_singleton, kd_leaf hk]
  · obtain rfl := List.mem_singleton.1 hx
    simp [ndI]
theorem join_ra {base : List Nd} {r r' : RP} {q q' : PS} {n m : Nat} {l xl : List Nd} {k : Int} (hk : kids2 k = 2) (hz : l.length + xl.length ≤ 1048576) (h : Ra base (n, r) (l, q)) (h' : Ra r.nds (m, r') (xl, q')) (he : r.e = 0) :
    Ra base (r'.nds.length, r'.put (nd k n m S4.zero)) (joinN k l xl, q') := by
  refine ⟨⟨h'.al.s, h'.al.e, h'.al.at_⟩, fun he' => ?_⟩
  obtain ⟨a1, a2, a3, a4, a5, a6⟩ := h.ok he
  obtain ⟨b1, b2, b3, b4, b5, b6⟩ := h'.ok he'
  dsimp only at a1 a2 a3 a4 b1 b2 b3 b4 b5 b6
  have hlen : r.nds.length = base.length + l.length := by rw [a1]; simp
  have hlen' : r'.nds.length = base.length + l.length + xl.length := by rw [b1, List.length_append, hlen]; simp
  refine ⟨?_, ?_, ?_, by rw [joinN_length]; omega, b5, b6⟩
  · show r'.nds ++ [_] = _
    unfold joinN
    rw [List.map_append, List.map_append, List.map_map, b1, a1]
    rw [show (base ++ l.map (kd base.length)).length = base.length + l.length by simp]
    have e1 : xl.map (kd base.length ∘ Nd.shift (l.length : Nat)) = xl.map (kd (base.length + l.length)) := List.map_congr_left fun x hx => by
      obtain ⟨c1, c2, _⟩ := b3 x hx
      show kd base.length (Nd.shift (l.length : Nat) x) = _
      rw [shift_kd (by omega) (by omega) (by omega), kd_kd]
    rw [e1]
    have e2 : nd k n m S4.zero = kd base.length ⟨k, (l.length : Int) - 1, if 0 < xl.length then (l.length : Int) + xl.length - 1 else 0, 0, 0, 0, 0⟩ := by
      unfold nd kd
      dsimp only
      rw [hk, if_pos b4, if_pos (by decide), if_pos (by decide)]
      congr 1
      · omega
      · rw [hlen] at b2; omega
    rw [List.map_singleton, ← e2]
    simp only [List.append_assoc]
  · dsimp only
    rw [joinN_length]; omega
  · intro x hx
    rw [joinN_length]
    unfold joinN at hx
    rw [List.mem_append, List.mem_append, List.mem_map, List.mem_singleton] at hx
    rcases hx with (hx | ⟨y, hy, rfl⟩) | rfl
    · obtain ⟨c1, c2, c3, c4⟩ := a3 x hx
      exact ⟨by omega, by omega, c3, c4⟩
    · obtain ⟨c1, c2, c3, c4⟩ := b3 y hy
      rw [shift_kd (by omega) (by omega) (by omega)]
      unfold kd
      dsimp only
      refine ⟨?_, ?_, fun hn => if_neg hn, fun hn => if_neg hn⟩
      · split <;> omega
      · split <;> omega
    · dsimp only
      rw [hk, if_pos b4]
      exact ⟨by omega, by omega, fun hn => absurd (by decide) hn, fun hn => absurd (by decide) hn⟩
theorem join1_ra {base : List Nd} {r : RP} {q : PS} {n : Nat} {l : List Nd} {k : Nat} (hk : kids2 k = 1) (h : Ra base (n, r) (l, q)) (hlt : r.e = 0 → r.at_ < r.s.size) :
    Ra base (r.nds.length, r.inc.put (nd k n 0 S4.zero)) (joinN k l [], q.inc) := by
  refine ⟨⟨h.al.inc.s, h.al.inc.e, h.al.inc.at_⟩, fun he => ?_⟩
  obtain ⟨a1, a2, a3, a4, a5, a6⟩ := h.ok he
  dsimp only at a1 a2 a3 a4
  have hlen : r.nds.length = base.length + l.length := by rw [a1]; simp
  refine ⟨?_, ?_, ?_, by rw [joinN_length]; omega, a5, hlt he⟩
  · show r.nds ++ [_] = _
    unfold joinN
    rw [List.map_append, List.map_append, a1, List.map_nil, List.map_nil, List.append_nil, List.map_singleton, List.append_assoc]
    have e2 : nd k n 0 S4.zero = kd base.length ⟨k, (l.length : Int) - 1, if 0 < ([] : List Nd).length then (l.length : Int) + ([] : List Nd).length - 1 else 0, 0, 0, 0, 0⟩ := by
      unfold nd kd
      dsimp only
      rw [hk, if_pos (by decide), if_neg (show ¬ (1 : Int) < 1 by decide)]
      congr 1
      omega
    rw [← e2]
  · dsimp only
    rw [joinN_length, List.length_nil]; omega
  · intro x hx
    rw [joinN_length]
    unfold joinN at hx
    rw [List.mem_append, List.map_nil, List.append_nil, List.mem_singleton] at hx
    rcases hx with hx | rfl
    · obtain ⟨c1, c2, c3, c4⟩ := a3 x hx
      exact ⟨by omega, by omega, c3, c4⟩
    · dsimp only
      rw [hk, if_neg (by simp)]
      exact ⟨by simp; omega, by simp; omega, fun hn => absurd (by decide) hn, fun _ => rfl⟩
theorem signOf_le (c : Nat) : signOf c ≠ 0 → kids2 (signOf c : Nat) = 1 := by
  unfold signOf
  repeat' split
  all_goals first | (intro _; rfl) | (intro h; exact absurd rfl h)
theorem signs_ra {base : List Nd} : ∀ (f f' n : Nat) (l : List Nd) (r : RP) (q : PS), Ra base (n, r) (l, q) → (r.e = 0 → r.s.size < f + r.at_) → (r.e = 0 → r.s.size < f' + r.at_) → Ra base (signs f n r) (PS.signs8 f' l q) := by
  intro f
  induction f with
  | zero =>
    intro f' n l r q h hf hf'
    by_cases he : r.e = 0
    · have := hf he; have := (h.ok he).2.2.2.2.2; dsimp only at this; omega
    · have hm : ¬ q.more = true := fun hm => he (by have := h.al.e; dsimp only at this; rw [this]; exact (PS.more_iff.1 hm).1)
      have : PS.signs8 f' l q = (l, q) := by
        cases f' with
        | zero => rfl
        | succ f' => unfold PS.signs8; rw [if_neg (fun h => hm h.1)]
      rw [this]; exact h
  | succ f ih =>
    intro f' n l r q h hf hf'
    have hm := h.al.more
    dsimp only at hm
    cases f' with
    | zero =>
      by_cases he : r.e = 0
      · have := hf' he; have := (h.ok he).2.2.2.2.2; dsimp only at this; omega
      · have hm' : ¬ q.more = true := fun hm => he (by have := h.al.e; dsimp only at this; rw [this]; exact (PS.more_iff.1 hm).1)
        unfold signs PS.signs8
        rw [hm, if_neg hm', if_pos (show signOf 0 = 0 from rfl)]
        exact h
    | succ f' =>
      unfold signs PS.signs8
      by_cases hmo : q.more = true
      · rw [if_pos hmo] at hm
        rw [hm]
        dsimp only
        by_cases hs : signOf q.byte = 0
        · rw [if_pos hs, if_neg (fun h => h.2 hs)]; exact h
        · rw [if_neg hs, if_pos ⟨hmo, hs⟩]
          obtain ⟨g1, g2⟩ := PS.more_iff.1 hmo
          have he : r.e = 0 := by have := h.al.e; dsimp only at this; rw [this]; exact g1
          have hlt : r.at_ < r.s.size := by
            have h1 := h.al.at_ he; have h2 := h.al.s
            dsimp only at h1 h2
            rw [h1, h2]; exact g2
          refine ih f' _ _ _ _ (join1_ra (signOf_le _ hs) h fun _ => hlt) (fun _ => ?_) (fun _ => ?_)
          · have := hf he; show r.s.size < f + (r.at_ + 1); omega
          · have := hf' he; show r.s.size < f' + (r.at_ + 1); omega
      · rw [if_neg hmo] at hm
        rw [hm, if_pos (show signOf 0 = 0 from rfl), if_neg (fun h => hmo h.1)]
        exact h
end Go.Proofs.Ytaffcoiomggpfaa
