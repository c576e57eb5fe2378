/- The two parsers of patterns find the same: the parsers. -/
import Derived.Test.YtaffcoiomggpfaaVPEq2
namespace Go.Proofs.Ytaffcoiomggpfaa
open Go.V
attribute [local irreducible] app
set_option linter.unusedVariables false

/-- A parenthesis too many: the one parser says so here, the other one at its end. -/
def Dev (x : Nat × RP) (y : List Nd × PS) (op : Nat) : Prop := op = 0 ∧ x.2.e = 83 ∧ y.2.e = 0 ∧ y.2.more = true ∧ y.2.byte = 41
/-- The end of a pattern. -/
def Fin (x : Nat × RP) (op : Nat) : Prop := x.2.e = 0 → x.2.next.2 = false ∨ x.2.next.1 = 41 ∧ op ≠ 0
/-- The two parsers of patterns at a depth. -/
def PatR (F : RP → Nat × RP) (G : PS → List Nd × PS) (op : Nat) : Prop := ∀ (r : RP) (q : PS), Al r q → r.e = 0 → r.op = op → q.deep = op → r.at_ ≤ r.s.size → r.s.size ≤ 4096 → Ra r.nds (F r) (G q) ∧ Fin (F r) op ∨ Dev (F r) (G q) op
variable {F : RP → Nat × RP} {G : PS → List Nd × PS} {op : Nat}
theorem fail_keep {r : RP} (h : r.e ≠ 0) (e : Int) : r.fail e = r := by unfold RP.fail; exact if_neg h
theorem pfail_keep {q : PS} (h : q.e ≠ 0) (e : Int) : q.fail e = q := by unfold PS.fail; exact if_neg h
theorem atom_ra {r : RP} {q : PS} (hF : ∀ r, Up r (F r).2 1 0) (hp : op + 1 ≤ 24 → PatR F G (op + 1)) (h : Al r q) (h0 : r.e = 0) (hop : r.op = op) (hd : q.deep = op) (hlt : r.at_ < r.s.size) (hsz : r.s.size ≤ 4096) :
    Ra r.nds (atomOf F q.byte r) (PS.atom8 G q) := by
  have hlq : q.at_ < q.s.size := by rw [← h.s, ← h.at_ h0]; exact hlt
  have hod : r.inc.op = q.inc.deep := by show r.op = q.deep; omega
  unfold atomOf PS.atom8
  by_cases c1 : q.byte = 46
  · rw [if_pos c1, if_pos c1]; exact leaf_ra h.inc (fun _ => ⟨rfl, by decide +kernel, hod, hlt⟩) rfl
  rw [if_neg c1, if_neg c1]
  by_cases c2 : q.byte = 94
  · rw [if_pos c2, if_pos c2]; exact leaf_ra h.inc (fun _ => ⟨rfl, rfl, hod, hlt⟩) rfl
  rw [if_neg c2, if_neg c2]
  by_cases c3 : q.byte = 36
  · rw [if_pos c3, if_pos c3]; exact leaf_ra h.inc (fun _ => ⟨rfl, rfl, hod, hlt⟩) rfl
  rw [if_neg c3, if_neg c3]
  by_cases c7 : q.byte = 92
  · rw [if_neg (by omega), if_neg (by omega), if_neg (by omega), if_pos c7, if_pos c7]
    obtain ⟨g1, g2⟩ := escape_al h h0
    have hl : r.inc.Le r.escape.2 := escape_le (x := r.escape.1) rfl
    exact leaf_ra g1 (fun he => ⟨hl.nds, (g2 he).1, by rw [hl.op, escape8_deep]; exact hod, by rw [hl.s]; exact (escape_sh hlt he).2⟩) rfl
  rw [if_neg c7, if_neg c7]
  by_cases c4 : q.byte = 91
  · rw [if_pos c4, if_pos c4]
    obtain ⟨g1, g2⟩ := class_al h.inc h0 hlq
    have hl := class_le r.inc
    exact leaf_ra g1 (fun he => ⟨hl.nds, g2 he, by rw [hl.op, class8_deep]; exact hod, by rw [hl.s]; exact (class_sh (r := r.inc) hlt he).2⟩) rfl
  rw [if_neg c4, if_neg c4]
  by_cases c5 : q.byte = 93
  · rw [if_pos c5, if_pos c5]
    exact ⟨h.inc.fail 80 (by decide), fun he => absurd he (RP.fail_e r.inc (by decide))⟩
  rw [if_neg c5, if_neg c5]
  by_cases c6 : q.byte = 42 ∨ q.byte = 43 ∨ q.byte = 63
  · rw [if_pos c6, if_pos c6]
    exact ⟨h.inc.fail 81 (by decide), fun he => absurd he (RP.fail_e r.inc (by decide))⟩
  rw [if_neg c6, if_neg c6]
  by_cases c8 : q.byte = 40
  · rw [if_pos c8, if_pos c8]
    have hu : Al r.inc.up q.inc.up := ⟨h.s, h.e, h.inc.at_⟩
    by_cases d1 : 24 < r.op + 1
    · rw [if_pos d1, if_pos (show 24 < q.deep + 1 by omega)]
      exact ⟨hu.fail 84 (by decide), fun he => absurd he (RP.fail_e r.inc.up (by decide))⟩
    rw [if_neg d1, if_neg (show ¬ 24 < q.deep + 1 by omega)]
    dsimp only
    have hup := hF r.inc.up
    have hsx : (F r.inc.up).2.s = r.s := hup.s
    rcases hp (by omega) r.inc.up q.inc.up hu h0 (congrArg (· + 1) hop) (congrArg (· + 1) hd) hlt hsz with ⟨g1, g2⟩ | ⟨g, _⟩
    · generalize F r.inc.up = X at g1 g2 hsx hup
      generalize G q.inc.up = Y at g1
      have hxal := g1.al
      have hm := hxal.more
      by_cases he : X.2.e = 0
      · have hy : Y.2.e = 0 := by rw [← hxal.e]; exact he
        obtain ⟨k1, k2, k3, k4, k5, k6⟩ := g1.ok he
        by_cases hmo : Y.2.more = true
        · rw [if_pos hmo] at hm
          have hb : Y.2.byte = 41 := by
            rcases g2 he with g | g
            · rw [hm] at g; exact absurd (show true = false from g) (by decide)
            · rw [hm] at g; exact g.1
          obtain ⟨m1, m2⟩ := PS.more_iff.1 hmo
          have hlt' : X.2.at_ < X.2.s.size := by rw [hxal.at_ he, hxal.s]; exact m2
          rw [if_pos (by rw [hm, hb]), if_neg (by omega)]
          refine ⟨⟨hxal.s, hxal.e, fun _ => congrArg (· + 1) (hxal.at_ he)⟩, fun _ => ⟨k1, k2, k3, k4, ?_, hlt'⟩⟩
          show X.2.op - 1 = Y.2.deep - 1
          omega
        · rw [if_neg hmo] at hm
          have hge : Y.2.s.size ≤ Y.2.at_ := by
            by_cases hx : Y.2.at_ < Y.2.s.size
            · exact absurd (PS.more_iff.2 ⟨hy, hx⟩) hmo
            · omega
          rw [if_neg (by rw [hm]; intro h; exact absurd (Prod.mk.inj h).2 (by decide)), if_pos ⟨hy, hge⟩]
          have := hxal.fail 83 (by decide)
          have hne := RP.fail_e X.2 (e := 83) (by decide)
          exact ⟨⟨this.s, this.e, fun he => absurd he hne⟩, fun he => absurd he hne⟩
      · have hy : ¬ Y.2.e = 0 := by rw [← hxal.e]; exact he
        rw [if_neg (fun h => he (RP.next_some h).1), if_neg (fun h => hy h.1), fail_keep he]
        exact ⟨⟨hxal.s, hxal.e, fun h => absurd h he⟩, fun h => absurd h he⟩
    · omega
  rw [if_neg c8, if_neg c8]
  exact leaf_ra h.inc (fun _ => ⟨rfl, with_self _ _, hod, hlt⟩) rfl
theorem part_ra {r : RP} {q : PS} (hF : ∀ r, Up r (F r).2 1 0) (hG : ∀ q, PS.Wa q (G q) 1 0) (hp : op + 1 ≤ 24 → PatR F G (op + 1)) (h : Al r q) (h0 : r.e = 0) (hop : r.op = op) (hd : q.deep = op) (hlt : r.at_ < r.s.size) (hsz : r.s.size ≤ 4096) :
    Ra r.nds (partOf F q.byte r) (PS.part8 G q) := by
  have ha := atom_ra hF hp h h0 hop hd hlt hsz
  have hu := atomOf_up hF q.byte r h0
  unfold partOf PS.part8
  refine signs_ra _ _ _ _ _ _ ha (fun _ => by rw [hu.s]; omega) (fun _ => by rw [hu.s, h.s]; omega)
/-- What an alternative has read up to here. -/
def St (base : List Nd) (n : Option Nat) (l : List Nd) (r : RP) (q : PS) : Prop := match n with
  | none => l = [] ∧ Al r q ∧ r.nds = base ∧ r.op = q.deep ∧ r.at_ ≤ r.s.size
  | some m => Ra base (m, r) (l, q)
theorem altLoop_e {F : RP → Nat × RP} (f k : Nat) (r : RP) (h : r.e ≠ 0) : (altLoop F (f + 1) (some k) r) = (k, r) := by
  have hn : r.next = (0, false) := if_pos (.inl h)
  unfold altLoop
  rw [hn, if_pos (.inl rfl)]
  dsimp only
  rw [if_neg (fun h => absurd (Prod.mk.inj h.1).2 (by decide))]
theorem patLoop_e {F : RP → Nat × RP} (f k : Nat) (r : RP) (h : r.e ≠ 0) : (patLoop F f k r) = (k, r) := by
  cases f with
  | zero => rfl
  | succ f =>
    have hn : r.next = (0, false) := if_pos (.inl h)
    unfold patLoop
    rw [hn, if_neg (fun h => absurd (Prod.mk.inj h).2 (by decide))]
def CFin (x : Nat × RP) (op : Nat) : Prop := x.2.e = 0 → x.2.next.2 = false ∨ x.2.next.1 = 124 ∨ x.2.next.1 = 41 ∧ op ≠ 0
theorem cat_ra {base : List Nd} (hF : ∀ r, Up r (F r).2 1 0) (hG : ∀ q, PS.Wa q (G q) 1 0) (hp : op + 1 ≤ 24 → PatR F G (op + 1)) :
    ∀ (f f' : Nat) (n : Option Nat) (l : List Nd) (r : RP) (q : PS), St base n l r q → r.e = 0 → r.op = op → r.s.size ≤ 4096 → l.length ≤ 2 * r.at_ → r.s.size < f + r.at_ → r.s.size < f' + r.at_ →
      Ra base (altLoop F f n r) (PS.catLoop8 G f' l q) ∧ CFin (altLoop F f n r) op ∨ Dev (altLoop F f n r) (PS.catLoop8 G f' l q) op := by
  intro f
  induction f with
  | zero =>
    intro f' n l r q hst h0 hop hsz hl hf hf'
    have : r.at_ ≤ r.s.size := by
      cases n with
      | none => exact hst.2.2.2.2
      | some m => exact (hst.ok h0).2.2.2.2.2
    omega
  | succ f ih =>
    intro f' n l r q hst h0 hop hsz hl hf hf'
    have hfacts : Al r q ∧ r.op = q.deep ∧ r.at_ ≤ r.s.size := by
      cases n with
      | none => exact ⟨hst.2.1, hst.2.2.2.1, hst.2.2.2.2⟩
      | some m => exact ⟨hst.al, (hst.ok h0).2.2.2.2.1, (hst.ok h0).2.2.2.2.2⟩
    obtain ⟨hal, hod, hat⟩ := hfacts
    cases f' with
    | zero => omega
    | succ f' =>
      have hm := hal.more
      unfold altLoop PS.catLoop8
      by_cases hgo : q.more = true ∧ q.byte ≠ 124 ∧ q.byte ≠ 41
      · rw [if_pos hgo.1] at hm
        rw [if_pos hgo, hm]
        rw [if_neg (show ¬ (true = false ∨ q.byte = 124 ∨ q.byte = 41) by rintro (h | h | h); · exact absurd h (by decide)
                                                                          · exact hgo.2.1 h
                                                                          · exact hgo.2.2 h)]
        dsimp only
        have hlt : r.at_ < r.s.size := (RP.next_some hm).2.1
        have hpr := part_ra hF hG hp hal h0 hop (by omega) hlt hsz
        have hpu := partOf_up hF q.byte r h0
        have hpw := PS.part8_wa hG q
        generalize partOf F q.byte r = X at hpr hpu
        generalize PS.part8 G q = Y at hpr hpw
        obtain ⟨x, rx⟩ := X
        obtain ⟨xl, qx⟩ := Y
        have hxe : rx.e = qx.e := hpr.al.e
        by_cases he : rx.e = 0
        · have hqe : qx.e = 0 := by omega
          rw [if_neg (show ¬ qx.e ≠ 0 by omega)]
          have hxat : rx.at_ = qx.at_ := hpr.al.at_ he
          have hrat : r.at_ = q.at_ := hal.at_ h0
          have hlen := hpw.len
          dsimp only at hlen
          have hge : r.at_ + 1 ≤ rx.at_ := hpu.at_
          have hrs : rx.s = r.s := hpu.s
          have hrop : rx.op = op := by have := hpu.op (.inl he); rw [← hop]; exact this
          have hxok := hpr.ok he
          dsimp only at hxok
          have hxle : rx.at_ ≤ r.s.size := by rw [← hrs]; exact hxok.2.2.2.2.2
          cases n with
          | none =>
            obtain ⟨rfl, _, hb, _, _⟩ := hst
            subst hb
            rw [if_pos (show ([] : List Nd).length = 0 from rfl)]
            exact ih f' (some x) xl rx qx hpr he hrop (by rw [hrs]; exact hsz) (by omega) (by rw [hrs]; omega) (by rw [hrs]; omega)
          | some k =>
            have hl0 : 0 < l.length := (hst.ok h0).2.2.2.1
            rw [if_neg (show ¬ l.length = 0 by omega)]
            have hj := join_ra (k := 3) rfl (by omega) hst hpr h0
            exact ih f' (some rx.nds.length) _ _ _ hj he hrop (show rx.s.size ≤ 4096 by rw [hrs]; exact hsz) (by rw [joinN_length]; show l.length + xl.length + 1 ≤ 2 * rx.at_; omega) (show rx.s.size < f + rx.at_ by rw [hrs]; omega) (show rx.s.size < f' + rx.at_ by rw [hrs]; omega)
        · have hqe : qx.e ≠ 0 := by omega
          rw [if_pos hqe]
          have hf1 : ∃ f2, f = f2 + 1 := ⟨f - 1, by omega⟩
          obtain ⟨f2, rfl⟩ := hf1
          left
          cases n with
          | none =>
            dsimp only
            rw [altLoop_e f2 x rx he]
            exact ⟨⟨hpr.al, fun h => absurd h he⟩, fun h => absurd h he⟩
          | some k =>
            dsimp only
            rw [altLoop_e f2 _ (rx.put _) he]
            exact ⟨⟨⟨hpr.al.s, hpr.al.e, hpr.al.at_⟩, fun h => absurd h he⟩, fun h => absurd h he⟩
      · rw [if_neg hgo]
        have hstop : r.next.2 = false ∨ r.next.1 = 124 ∨ r.next.1 = 41 := by
          rw [hm]
          by_cases hmo : q.more = true
          · rw [if_pos hmo]
            by_cases h1 : q.byte = 124
            · exact .inr (.inl h1)
            · by_cases h2 : q.byte = 41
              · exact .inr (.inr h2)
              · exact absurd ⟨hmo, h1, h2⟩ hgo
          · rw [if_neg hmo]; exact .inl rfl
        rw [if_pos hstop]
        by_cases hdev : r.next = (41, true) ∧ r.op = 0
        · right
          have hmo : q.more = true := by
            by_cases hmo : q.more = true
            · exact hmo
            · rw [if_neg hmo] at hm; rw [hm] at hdev; exact absurd (Prod.mk.inj hdev.1).2 (by decide)
          have hb : q.byte = 41 := by rw [if_pos hmo] at hm; rw [hm] at hdev; exact (Prod.mk.inj hdev.1).1
          have h83 : (r.fail 83).e = 83 := by unfold RP.fail; rw [if_pos h0]
          rw [if_pos hdev]
          have hq0 : q.e = 0 := by rw [← hal.e]; exact h0
          cases n with
          | none => exact ⟨by omega, h83, hq0, hmo, hb⟩
          | some m => exact ⟨by omega, h83, hq0, hmo, hb⟩
        · left
          rw [if_neg hdev]
          have hend : ∀ r' : RP, r'.next = r.next → (r'.next.2 = false ∨ r'.next.1 = 124 ∨ r'.next.1 = 41 ∧ op ≠ 0) := by
            intro r' hr'
            rw [hr']
            rcases hstop with h | h | h
            · exact .inl h
            · exact .inr (.inl h)
            · by_cases h2 : r.next.2 = false
              · exact .inl h2
              · refine .inr (.inr ⟨h, fun h3 => hdev ⟨Prod.ext h (by simpa using h2), hop.trans h3⟩⟩)
          cases n with
          | none =>
            obtain ⟨rfl, ha, hb, hod, hat⟩ := hst
            subst hb
            rw [if_pos (show ([] : List Nd).length = 0 from rfl)]
            exact ⟨leaf_ra ha (fun _ => ⟨rfl, rfl, hod, hat⟩) rfl, fun _ => hend _ rfl⟩
          | some m =>
            have hl0 : 0 < l.length := (hst.ok h0).2.2.2.1
            rw [if_neg (show ¬ l.length = 0 by omega)]
            exact ⟨hst, fun _ => hend _ rfl⟩
theorem alt_ra {base : List Nd} (hF : ∀ r, Up r (F r).2 1 0) (hG : ∀ q, PS.Wa q (G q) 1 0) (hp : op + 1 ≤ 24 → PatR F G (op + 1)) :
    ∀ (f f' : Nat) (n : Nat) (l : List Nd) (r : RP) (q : PS), Ra base (n, r) (l, q) → CFin (n, r) op → (r.e = 0 → r.op = op) → r.s.size ≤ 4096 → (r.e = 0 → l.length ≤ 2 * r.at_ + 1) → (r.e = 0 → r.s.size < f + r.at_) → (r.e = 0 → r.s.size < f' + r.at_) →
      Ra base (patLoop F f n r) (PS.altLoop8 G f' l q) ∧ Fin (patLoop F f n r) op ∨ Dev (patLoop F f n r) (PS.altLoop8 G f' l q) op := by
  intro f
  induction f with
  | zero =>
    intro f' n l r q hst hfin hop hsz hl hf hf'
    by_cases he : r.e = 0
    · have h1 := hf he; have h2 := (hst.ok he).2.2.2.2.2; dsimp only at h2; omega
    · have hq : ¬ q.more = true := fun hm => he (by have := hst.al.e; dsimp only at this; rw [this]; exact (PS.more_iff.1 hm).1)
      rw [patLoop_e 0 n r he]
      have : PS.altLoop8 G f' l q = (l, q) := by
        cases f' with
        | zero => rfl
        | succ f' => unfold PS.altLoop8; rw [if_neg (fun h => hq h.1)]
      rw [this]; exact .inl ⟨hst, fun h => absurd h he⟩
  | succ f ih =>
    intro f' n l r q hst hfin hop hsz hl hf hf'
    have hm := hst.al.more
    dsimp only at hm
    by_cases he : r.e = 0
    · cases f' with
      | zero => have h1 := hf' he; have h2 := (hst.ok he).2.2.2.2.2; dsimp only at h2; omega
      | succ f' =>
        have hq0 : q.e = 0 := by have := hst.al.e; dsimp only at this; omega
        unfold patLoop PS.altLoop8
        by_cases hgo : q.more = true ∧ q.byte = 124
        · have hn : r.next = (124, true) := by rw [hm, if_pos hgo.1, hgo.2]
          rw [if_pos hgo, if_pos hn]
          have hlt : r.at_ < r.s.size := (RP.next_some hn).2.1
          have hok := hst.ok he
          dsimp only at hok ⊢
          have hrat : r.at_ = q.at_ := hst.al.at_ he
          have hcu := altOf_up hF r.inc
          have hcw := PS.cat8_wa hG q.inc
          have hrf := hf he; have hrf' := hf' he
          have hcat : Ra r.nds (altOf F r.inc) (PS.cat8 G q.inc) ∧ CFin (altOf F r.inc) op ∨ Dev (altOf F r.inc) (PS.cat8 G q.inc) op := by
            have hai : Al r.inc q.inc := hst.al.inc
            refine cat_ra hF hG hp _ _ none [] r.inc q.inc ⟨rfl, hai, rfl, hok.2.2.2.2.1, hlt⟩ he (hop he) hsz (Nat.zero_le _) (by omega) ?_
            rw [← hai.s]; omega
          generalize altOf F r.inc = X at hcat hcu
          generalize PS.cat8 G q.inc = Y at hcat hcw
          obtain ⟨x, rx⟩ := X
          obtain ⟨xl, qx⟩ := Y
          have hrs : rx.s = r.s := hcu.s
          dsimp only
          rcases hcat with ⟨hra, hcf⟩ | ⟨d1, d2, d3, d4, d5⟩
          · have hxe : rx.e = qx.e := hra.al.e
            by_cases hxe0 : rx.e = 0
            · rw [if_neg (show ¬ qx.e ≠ 0 by omega)]
              have hxat : rx.at_ = qx.at_ := hra.al.at_ hxe0
              have hlen := hcw.len
              have hge : r.at_ + 1 + 0 ≤ rx.at_ := hcu.at_
              have hl1 := hl he
              have hxok := hra.ok hxe0
              dsimp only [PS.inc] at hlen hxok
              rw [hrs] at hxok
              have hj := join_ra (k := 4) rfl (by omega) hst hra he
              refine ih f' _ _ _ _ hj (fun h => hcf h) (fun _ => (hcu.op (.inl hxe0)).trans (hop he)) (show rx.s.size ≤ 4096 by rw [hrs]; exact hsz) (fun _ => ?_) (fun _ => ?_) (fun _ => ?_)
              · rw [joinN_length]; show _ ≤ 2 * rx.at_ + 1; omega
              · show rx.s.size < f + rx.at_; rw [hrs]; omega
              · show rx.s.size < f' + rx.at_; rw [hrs]; omega
            · rw [if_pos (show qx.e ≠ 0 by omega), patLoop_e f _ (rx.put _) hxe0]
              exact .inl ⟨⟨⟨hra.al.s, hra.al.e, hra.al.at_⟩, fun h => absurd h hxe0⟩, fun h => absurd h hxe0⟩
          · dsimp only at d2 d3 d4 d5
            rw [if_neg (show ¬ qx.e ≠ 0 by omega)]
            have hne : rx.e ≠ 0 := by omega
            rw [patLoop_e f _ (rx.put _) hne]
            have : ∀ l', PS.altLoop8 G f' l' qx = (l', qx) := fun l' => by
              cases f' with
              | zero => rfl
              | succ f' => unfold PS.altLoop8; rw [if_neg (by rw [d5]; rintro ⟨_, h⟩; exact absurd h (by decide))]
            rw [this]
            exact .inr ⟨d1, d2, d3, d4, d5⟩
        · rw [if_neg hgo]
          have hn : ¬ r.next = (124, true) := by
            intro hn
            rw [hm] at hn
            by_cases hmo : q.more = true
            · rw [if_pos hmo] at hn; exact hgo ⟨hmo, (Prod.mk.inj hn).1⟩
            · rw [if_neg hmo] at hn; exact absurd (Prod.mk.inj hn).2 (by decide)
          rw [if_neg hn]
          refine .inl ⟨hst, fun _ => ?_⟩
          rcases hfin he with h | h | h
          · exact .inl h
          · by_cases h2 : r.next.2 = false
            · exact .inl h2
            · exact absurd (Prod.ext h (by simpa using h2)) hn
          · exact .inr h
    · have hq : ¬ q.more = true := fun hm => he (by have := hst.al.e; dsimp only at this; rw [this]; exact (PS.more_iff.1 hm).1)
      rw [patLoop_e (f + 1) n r he]
      have : PS.altLoop8 G f' l q = (l, q) := by
        cases f' with
        | zero => rfl
        | succ f' => unfold PS.altLoop8; rw [if_neg (fun h => hq h.1)]
      rw [this]; exact .inl ⟨hst, fun h => absurd h he⟩
theorem pat_ra (hF : ∀ r, Up r (F r).2 1 0) (hG : ∀ q, PS.Wa q (G q) 1 0) (hp : op + 1 ≤ 24 → PatR F G (op + 1)) : PatR (patOf F) (PS.alt8 G) op := by
  intro r q hal h0 hop hd hat hsz
  have hcu := altOf_up hF r
  have hcw := PS.cat8_wa hG q
  have hss : q.s = r.s := hal.s.symm
  have hcat : Ra r.nds (altOf F r) (PS.cat8 G q) ∧ CFin (altOf F r) op ∨ Dev (altOf F r) (PS.cat8 G q) op := by
    refine cat_ra hF hG hp _ _ none [] r q ⟨rfl, hal, rfl, by omega, hat⟩ h0 hop hsz (Nat.zero_le _) (by omega) ?_
    rw [hss]; omega
  have hrat : r.at_ = q.at_ := hal.at_ h0
  unfold patOf PS.alt8
  generalize altOf F r = X at hcat hcu
  generalize PS.cat8 G q = Y at hcat hcw
  obtain ⟨x, rx⟩ := X
  obtain ⟨xl, qx⟩ := Y
  have hrs : rx.s = r.s := hcu.s
  have hge : r.at_ + 0 ≤ rx.at_ := hcu.at_
  dsimp only
  rcases hcat with ⟨hra, hcf⟩ | ⟨d1, d2, d3, d4, d5⟩
  · refine alt_ra hF hG hp _ _ _ _ _ _ hra hcf (fun h => (hcu.op (.inl h)).trans hop) (by rw [hrs]; exact hsz) (fun h => ?_) (fun _ => by rw [hrs]; omega) (fun _ => by rw [hrs, hss]; omega)
    have hxat : rx.at_ = qx.at_ := hra.al.at_ h
    have hlen := hcw.len
    dsimp only at hlen
    omega
  · dsimp only at d2 d3 d4 d5
    rw [patLoop_e _ _ rx (by omega)]
    have : PS.altLoop8 G (q.s.size + 28) xl qx = (xl, qx) := by
      rw [show q.s.size + 28 = (q.s.size + 27) + 1 from rfl]
      unfold PS.altLoop8; rw [if_neg (by rw [d5]; rintro ⟨_, h⟩; exact absurd h (by decide))]
    rw [this]
    exact .inr ⟨d1, d2, d3, d4, d5⟩
theorem patN_ra : ∀ (n op : Nat), 25 ≤ op + n → op ≤ 24 → PatR (patN n) (PS.altN8 n) op
  | 0, op, h, h' => absurd h (by omega)
  | n + 1, op, h, h' => pat_ra (patN_up n) (PS.altN8_wa n) fun h2 => patN_ra n (op + 1) (by omega) h2
/-- Parse and its reference find the same. -/
theorem parse_eq (s : ByteArray) : rxParse s = rParse s := by
  unfold rxParse rParse
  by_cases hs : 128 < s.size
  · rw [if_pos hs, if_pos hs]
  rw [if_neg hs, if_neg hs]
  dsimp only
  have hra := patN_ra 25 0 (by omega) (by omega) (parser0 s) ⟨s, 0, 0, 0⟩ ⟨rfl, rfl, fun _ => rfl⟩ rfl rfl rfl (Nat.zero_le _) (show s.size ≤ 4096 by omega)
  have hxs : (PS.altN8 25 ⟨s, 0, 0, 0⟩).2.s = s := (PS.altN8_wa 25 ⟨s, 0, 0, 0⟩).mo.s
  have hb : (parser0 s).nds = [] := rfl
  rw [hb] at hra
  generalize patN 25 (parser0 s) = X at hra
  generalize PS.altN8 25 ⟨s, 0, 0, 0⟩ = Y at hra hxs
  obtain ⟨x, r⟩ := X
  obtain ⟨l, q⟩ := Y
  dsimp only at hxs
  subst hxs
  dsimp only
  rcases hra with ⟨h, hfin⟩ | ⟨_, d2, d3, d4, d5⟩
  · have he : r.e = q.e := h.al.e
    by_cases h0 : r.e = 0
    · have hq0 : q.e = 0 := by omega
      obtain ⟨k1, k2, k3, k4, k5, k6⟩ := h.ok h0
      dsimp only at k1 k3 k4
      have hm := h.al.more
      dsimp only at hm
      have hmo : ¬ q.at_ < q.s.size := by
        intro hlt
        have hmo : q.more = true := PS.more_iff.2 ⟨hq0, hlt⟩
        rw [if_pos hmo] at hm
        rcases hfin h0 with g | g
        · dsimp only at g; rw [hm] at g; exact absurd (show true = false from g) (by decide)
        · exact g.2 rfl
      rw [if_neg (show ¬ (q.e = 0 ∧ q.at_ < q.s.size) from fun h => hmo h.2), if_neg (show ¬ r.e ≠ 0 by omega)]
      have hnds : r.nds = l := by rw [k1, List.nil_append]; exact kd_zero k3
      rw [hnds]
      by_cases hl : 256 < l.length
      · have : (q.fail 1).e = 1 := by unfold PS.fail; rw [if_pos hq0]
        rw [if_pos hl, if_pos (show q.e = 0 ∧ 256 < l.length from ⟨hq0, hl⟩), if_pos (show (q.fail 1).e ≠ 0 by rw [this]; decide), this]
      · rw [if_neg hl, if_neg (show ¬ (q.e = 0 ∧ 256 < l.length) from fun h => hl h.2), if_neg (show ¬ q.e ≠ 0 by omega)]
    · have hq : ¬ q.e = 0 := by omega
      rw [if_neg (show ¬ (q.e = 0 ∧ q.at_ < q.s.size) from fun h => hq h.1), if_pos h0, if_neg (show ¬ (q.e = 0 ∧ 256 < l.length) from fun h => hq h.1), if_pos hq, he]
  · dsimp only at d2 d3 d4 d5
    have hlt := (PS.more_iff.1 d4).2
    have h83 : (q.fail 83).e = 83 := by unfold PS.fail; rw [if_pos d3]
    rw [if_pos (show r.e ≠ 0 by omega), if_pos (show q.e = 0 ∧ q.at_ < q.s.size from ⟨d3, hlt⟩), if_neg (show ¬ ((q.fail 83).e = 0 ∧ 256 < l.length) from fun h => by rw [h83] at h; exact absurd h.1 (by decide)),
      if_pos (show (q.fail 83).e ≠ 0 by rw [h83]; decide), h83, d2]
end Go.Proofs.Ytaffcoiomggpfaa
