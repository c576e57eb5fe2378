/- Contracts of package jobmuxref08 (3): classes. -/
import Derived.Test.YtaffcoiomggpfaaVR08b
namespace Go.Proofs.Ytaffcoiomggpfaa
open Go.V
attribute [local irreducible] app
set_option linter.constructorNameAsVariable false
set_option linter.unusedVariables false
variable {H : Heap} {b : Nat} {q : PS} {Q : Value → Heap → Prop} {E : Chain → Heap → Prop}

theorem element8_c (h : PSs H b q) (h0 : q.e = 0) (hlt : q.at_ < q.s.size) (hk : ∀ H' s q', q.element8 = (s, q') → PSs H' b q' → Exb b H H' → Q (.agg s.cells) H') : Does Pr 118 #[.pointer (some ⟨b, 0, none⟩)] H Q E := by
  refine zqd2_fn _ Q E H ?_
  unfold zqd2
  refine nw_ext fun i H1 hi he1 hc1 => ?_
  have hc1 : H1 i = some (cs S4.zero) := hc1
  have hbi := h.ne hi
  have h1 := h.ext he1
  have hib : i ≠ b := Ne.symm hbi
  obtain ⟨g1, g2, g3, g4⟩ := id h
  unfold zqd2_27
  refine single8_c h1 h0 hlt fun H2 a one q1 hq1 h2 hx2 => ⟨_, _, _, _, _, rfl, ?_⟩
  refine nw_ext fun j H3 hj he3 hc3 => ?_
  have hc3 : H3 j = some (cs S4.zero) := hc3
  have hbj := h2.ne hj
  have hjb : j ≠ b := Ne.symm hbj
  have hij : i ≠ j := ne_of (hx2 _ _ hib hc1) hj
  refine S4.wr a hc3 ?_
  have h4 : PSs (H3.set j (cs a)) b q1 := (h2.ext he3).other hbj
  have hj4 : (H3.set j (cs a)) j = some (cs a) := Heap.set_self _ _ _
  have hi4 : (H3.set j (cs a)) i = some (cs S4.zero) := by rw [Heap.set_ne _ _ hij]; exact he3 _ _ (hx2 _ _ hib hc1)
  have hj0 : H j = none := by
    cases hh : H j with
    | none => rfl
    | some o => rw [hx2 _ _ hjb (he1 _ _ hh)] at hj; cases hj
  have hx4 : Exb b H (H3.set j (cs a)) := (((he1.exb b).trans hx2).trans (he3.exb b)).set hj0 _
  change zqd2_23 _ _ _ _ _ _ (H3.set j (cs a))
  revert h4 hj4 hi4 hx4
  generalize H3.set j (cs a) = H4
  intro h4 hj4 hi4 hx4
  have hmo := PS.single8_mo q
  rw [hq1] at hmo
  dsimp only at hmo
  -- the end: a set is returned
  have ret : ∀ (s : S4) (q' : PS) (H5 : Heap), q.element8 = (s, q') → PSs H5 b q' → Exb b H4 H5 → wr ⟨i, 0, none⟩ [.int .u64 s.a, .int .u64 s.b, .int .u64 s.c, .int .u64 s.d] H5 fun H6 =>
      ∃ n1 n2 n3 n4 : Int, H6.rd ⟨i, 0, none⟩ 0 [(.int .u64 n1), (.int .u64 n2), (.int .u64 n3), (.int .u64 n4)] ∧ Q (.agg #[(.int .u64 n1), (.int .u64 n2), (.int .u64 n3), (.int .u64 n4)]) H6 := by
    intro s q' H5 hq' h5 hx5
    exact S4.wr s (hx5 _ _ hib hi4) ⟨_, _, _, _, S4.rd (s := s) (Heap.set_self _ _ _), hk _ s q' hq' (h5.other hbi) ((hx4.trans hx5).set hi _)⟩
  have no : ¬ (q1.more = true ∧ q1.byte = 45) → zqd2_21 Q E (some ⟨b, 0, none⟩) (some ⟨i, 0, none⟩) (some ⟨j, 0, none⟩) one true H4 := by
    intro hno
    unfold zqd2_21
    refine sel_tt ?_
    simp only [ptr_some]
    refine ⟨_, _, _, _, S4.rd hj4, ret a q1 H4 ?_ h4 (Exb.refl _ _)⟩
    unfold PS.element8; rw [hq1]; dsimp only; rw [if_neg hno]
  unfold zqd2_23
  refine more_c h4 ⟨_, rfl, sel_not (fun hm => no (by simp [hm])) (fun hm => ?_)⟩
  obtain ⟨m1, m2⟩ := PS.more_iff.1 hm
  simp only [ptr_some]
  refine h4.ldStr (h4.ldAt ⟨⟨by omega, by omega⟩, ?_⟩)
  rw [sAt_nat]
  have hbyte : byteAt q1.s q1.at_ = q1.byte := rfl
  rw [hbyte]
  cases h45 : ((q1.byte : Int) != 45) with
  | true => exact no (by have : (q1.byte : Int) ≠ 45 := by simpa using h45
                         intro h; omega)
  | false =>
    have h45 : q1.byte = 45 := by
      have : (q1.byte : Int) = 45 := by simpa using h45
      omega
    have hel : q.element8 = if one = false ∨ q1.s.size ≤ q1.at_ + 1 then (a, q1.inc.fail 80)
      else match q1.inc.single8 with
        | (b, two, q3) => (S4.zero.with_ (only8 a) (only8 b), if q3.e = 0 ∧ (two = false ∨ only8 b < only8 a) then q3.fail 80 else q3) := by
      unfold PS.element8; rw [hq1]; dsimp only; rw [if_pos ⟨hm, h45⟩]
    unfold zqd2_21
    refine sel_ff ?_
    unfold zqd2_18
    simp only [ptr_some]
    refine h4.ldAt (h4.incS (by have := h4.2.2.1 m1; omega) (fun _ => m2) fun H5 h5 hx5 => ?_)
    -- a fault
    have bad : (one = false ∨ q1.s.size ≤ q1.at_ + 1) → zqd2_12 Q E (some ⟨b, 0, none⟩) (some ⟨i, 0, none⟩) (some ⟨j, 0, none⟩) true H5 := by
      intro hb
      unfold zqd2_12
      refine sel_tt (pfail_c (by decide) h5 fun H6 h6 hx6 => ?_)
      simp only [ptr_some]
      refine ⟨_, _, _, _, S4.rd (hx6 _ _ hjb (hx5 _ _ hjb hj4)), ret a _ H6 (by rw [hel, if_pos hb]) h6 (hx5.trans hx6)⟩
    unfold zqd2_14
    refine sel_not (fun hone => bad (.inl hone)) (fun hone => ?_)
    simp only [ptr_some]
    refine h5.ldAt (h5.ldStr ?_)
    cases hsz : decide (((q1.inc.at_ : Nat) : Int) ≥ ((q1.inc.s.size : Nat) : Int)) with
    | true => exact bad (.inr (by have := of_decide_eq_true hsz; simp only [PS.inc] at this; omega))
    | false =>
      have hsz : q1.at_ + 1 < q1.s.size := by have := of_decide_eq_false hsz; simp only [PS.inc] at this; omega
      rw [if_neg (by rw [hone]; simp; omega)] at hel
      unfold zqd2_12
      refine sel_ff ?_
      unfold zqd2_9
      refine single8_c h5 m1 hsz fun H6 c two q3 hq3 h6 hx6 => ⟨_, _, _, _, _, rfl, ?_⟩
      rw [hq3] at hel
      dsimp only at hel
      refine nw_ext fun k H7 hk7 he7 hc7 => ?_
      have hc7 : H7 k = some (cs S4.zero) := hc7
      have hbk := h6.ne hk7
      have hkb : k ≠ b := Ne.symm hbk
      have hj6 := hx6 _ _ hjb (hx5 _ _ hjb hj4)
      have hi6 := hx6 _ _ hib (hx5 _ _ hib hi4)
      have hjk : j ≠ k := ne_of hj6 hk7
      have hik : i ≠ k := ne_of hi6 hk7
      refine S4.wr c hc7 ?_
      have h8 : PSs (H7.set k (cs c)) b q3 := (h6.ext he7).other hbk
      have hk8 : (H7.set k (cs c)) k = some (cs c) := Heap.set_self _ _ _
      have hj8 : (H7.set k (cs c)) j = some (cs a) := by rw [Heap.set_ne _ _ hjk]; exact he7 _ _ hj6
      have hk40 : H4 k = none := by
        cases hh : H4 k with
        | none => rfl
        | some o => rw [hx6 _ _ hkb (hx5 _ _ hkb hh)] at hk7; cases hk7
      have hx8 : Exb b H4 (H7.set k (cs c)) := ((hx5.trans hx6).trans (he7.exb b)).set hk40 _
      change zqd2_5 _ _ _ _ _ _ _ (H7.set k (cs c))
      revert h8 hk8 hj8 hx8
      generalize H7.set k (cs c) = H8
      intro h8 hk8 hj8 hx8
      have fin : ∀ (q4 : PS) (H9 : Heap), (if q3.e = 0 ∧ (two = false ∨ only8 c < only8 a) then q3.fail 80 else q3) = q4 → PSs H9 b q4 → Exb b H8 H9 →
          zqd2_1 Q E (some ⟨i, 0, none⟩) (some ⟨j, 0, none⟩) (some ⟨k, 0, none⟩) H9 := by
        intro q4 H9 hq4 h9 hx9
        unfold zqd2_1
        refine ⟨fun z => z = k, ?_⟩
        simp only [ptr_some]
        refine ⟨_, _, _, _, S4.rd (hx9 _ _ hjb hj8), by trivial, _, _, _, _, S4.rd (hx9 _ _ hkb hk8), ?_⟩
        refine only8_c (s := a) fun H10 he10 => ⟨_, rfl, fun z hz _ => ?_, ?_⟩
        · subst hz; rw [he10 _ _ (hx9 _ _ hkb hk8)]; exact (hx9 _ _ hkb hk8).symm
        refine only8_c (s := c) fun H11 he11 => ⟨_, rfl, ?_⟩
        refine Range_c (only8_le _) (only8_le _) fun H12 he12 => ⟨_, _, _, _, rfl, ?_⟩
        refine ret _ q4 H12 (by rw [hel, hq4]) (((h9.ext he10).ext he11).ext he12) ((hx8.trans hx9).trans ((he10.trans he11).trans he12 |>.exb b))
      have fault : ∀ H9, PSs H9 b q3 → Exb b H8 H9 → (q3.e = 0 ∧ (two = false ∨ only8 c < only8 a)) → zqd2_3 Q E (some ⟨b, 0, none⟩) (some ⟨i, 0, none⟩) (some ⟨j, 0, none⟩) (some ⟨k, 0, none⟩) true H9 := by
        intro H9 h9 hx9 hb
        unfold zqd2_3
        exact sel_tt (pfail_c (by decide) h9 fun H10 h10 hx10 => fin _ H10 (if_pos hb) h10 (hx9.trans hx10))
      have good : ∀ H9, PSs H9 b q3 → Exb b H8 H9 → ¬ (q3.e = 0 ∧ (two = false ∨ only8 c < only8 a)) → zqd2_3 Q E (some ⟨b, 0, none⟩) (some ⟨i, 0, none⟩) (some ⟨j, 0, none⟩) (some ⟨k, 0, none⟩) false H9 := by
        intro H9 h9 hx9 hb
        unfold zqd2_3
        exact sel_ff (fin _ H9 (if_neg hb) h9 hx9)
      unfold zqd2_5
      refine ⟨fun z => z = k, ?_⟩
      simp only [ptr_some]
      refine h8.ldE (sel_beq (fun he => ?_) (fun he => good H8 h8 (Exb.refl _ _) (fun h => he h.1)))
      refine sel_not (fun ht => fault H8 h8 (Exb.refl _ _) ⟨he, .inl ht⟩) (fun ht => ?_)
      refine ⟨_, _, _, _, S4.rd hj8, by trivial, _, _, _, _, S4.rd hk8, ?_⟩
      refine only8_c (s := a) fun H10 he10 => ⟨_, rfl, fun z hz _ => ?_, ?_⟩
      · subst hz; rw [he10 _ _ hk8]; exact hk8.symm
      refine only8_c (s := c) fun H11 he11 => ⟨_, rfl, ?_⟩
      cases hgt : decide (((only8 a : Nat) : Int) > ((only8 c : Nat) : Int)) with
      | true => exact fault H11 ((h8.ext he10).ext he11) ((he10.trans he11).exb b) ⟨he, .inr (by have := of_decide_eq_true hgt; omega)⟩
      | false => exact good H11 ((h8.ext he10).ext he11) ((he10.trans he11).exb b) (by have := of_decide_eq_false hgt; rw [ht]; simp; omega)
theorem PSs.atOf (h : PSs H b q) : atOf b H = q.at_ := by
  unfold Go.Proofs.Ytaffcoiomggpfaa.atOf
  rw [h.2.2.2]
  simp [PS.cells]
set_option maxHeartbeats 1000000 in
theorem class8_c (h : PSs H b q) (h0 : q.e = 0) (hk : ∀ H' s q', q.class8 = (s, q') → PSs H' b q' → Exb b H H' → Q (.agg s.cells) H') : Does Pr 110 #[.pointer (some ⟨b, 0, none⟩)] H Q E := by
  refine zqa2_fn _ Q E H ?_
  unfold zqa2 zqa2_44
  refine nw_ext fun i H1 hi he1 hc1 => ?_
  refine nw_ext fun j H2 hj he2 hc2 => ?_
  have hc2 : H2 j = some (cs S4.zero) := hc2
  have hi2 : H2 i = some (cs S4.zero) := he2 _ _ hc1
  have hij : i ≠ j := ne_of hc1 hj
  have hib : i ≠ b := Ne.symm (h.ne hi)
  have hj0 := he1.free hj
  have hjb : j ≠ b := Ne.symm (h.ne hj0)
  have he12 := he1.trans he2
  have h2 := h.ext he12
  have hx2 := he12.exb b
  -- the loop
  have loop : ∀ (neg : Bool) (q1 : PS) (H3 : Heap), (q.more && decide (q.byte = 94)) = neg → (if neg = true then q.inc else q) = q1 → PSs H3 b q1 → Exb b H2 H3 →
      zqa2_34 Q E (some ⟨b, 0, none⟩) (some ⟨i, 0, none⟩) (some ⟨j, 0, none⟩) neg H3 := by
    intro neg q1 H3 hneg hq1 h3 hx3
    have hs1 : q1.s = q.s := by rw [← hq1]; split <;> rfl
    generalize hR : q1.s.size + 28 = F
    have hcl : q.class8 = PS.classLoop8 F neg 0 S4.zero q1 := by
      unfold PS.class8; dsimp only; rw [hneg, hq1, ← hR, hs1]
    unfold zqa2_34 zqa2_31
    refine ⟨fun x H' => ∃ (f n : Nat) (out : S4) (q' : PS), x = (n : Nat) ∧ n ≤ q'.at_ ∧ q'.s.size + 27 < f + q'.at_ ∧ PS.classLoop8 f neg n out q' = q.class8 ∧ q'.s = q1.s ∧ PSs H' b q' ∧ Exb b H H' ∧ H' i = some (cs S4.zero) ∧ H' j = some (cs out),
      fun _ H' => q1.s.size + 27 - atOf b H', ⟨F, 0, S4.zero, q1, by simp, by omega, by omega, hcl.symm, rfl, h3, hx2.trans hx3, hx3 _ _ hib hi2, hx3 _ _ hjb hc2⟩, ?_⟩
    rintro x H4 ⟨f, n, out, q', rfl, hn, hf, hcr, hs', h4, hx4, hi4, hj4⟩
    have h4b := h4.2.1
    have h4s := h4.1
    have ret : ∀ (s : S4) (q2 : PS) (H5 : Heap), q.class8 = (s, q2) → PSs H5 b q2 → Exb b H4 H5 → wr ⟨i, 0, none⟩ [.int .u64 s.a, .int .u64 s.b, .int .u64 s.c, .int .u64 s.d] H5 fun H6 =>
        ∃ n1 n2 n3 n4 : Int, H6.rd ⟨i, 0, none⟩ 0 [(.int .u64 n1), (.int .u64 n2), (.int .u64 n3), (.int .u64 n4)] ∧ Q (.agg #[(.int .u64 n1), (.int .u64 n2), (.int .u64 n3), (.int .u64 n4)]) H6 := by
      intro s q2 H5 hq2 h5 hx5
      exact S4.wr s (hx5 _ _ hib hi4) ⟨_, _, _, _, S4.rd (s := s) (Heap.set_self _ _ _), hk _ s q2 hq2 (h5.other (Ne.symm hib)) ((hx4.trans hx5).set hi _)⟩
    cases f with
    | zero => omega
    | succ f =>
      unfold zqa2_28
      refine more_c h4 ⟨_, rfl, ?_⟩
      simp only [PS.classLoop8] at hcr
      cases hm : q'.more with
      | false =>
        rw [hm] at hcr
        refine sel_ff ?_
        unfold zqa2_1
        refine pfail_c (by decide) h4 fun H5 h5 hx5 => ?_
        simp only [ptr_some]
        refine ⟨_, _, _, _, S4.rd (hx5 _ _ hjb hj4), ret out _ H5 (by rw [← hcr]; rfl) h5 hx5⟩
      | true =>
        rw [if_pos hm] at hcr
        obtain ⟨m1, m2⟩ := PS.more_iff.1 hm
        refine sel_tt ?_
        unfold zqa2_22
        simp only [ptr_some]
        refine h4.ldStr (h4.ldAt ⟨⟨by omega, by omega⟩, ?_⟩)
        rw [sAt_nat]
        have hbyte : byteAt q'.s q'.at_ = q'.byte := rfl
        rw [hbyte]
        unfold zqa2_20
        refine sel_beq (fun h93 => ?_) (fun h93 => ?_)
        · rw [if_pos (by omega)] at hcr
          have fin : ∀ (q2 : PS) (H5 : Heap), (if n = 0 then q'.fail 80 else q') = q2 → PSs H5 b q2 → Exb b H4 H5 →
              zqa2_12 (fun x' H1 => (∃ (f n : Nat) (out : S4) (q' : PS), x' = (n : Nat) ∧ n ≤ q'.at_ ∧ q'.s.size + 27 < f + q'.at_ ∧ PS.classLoop8 f neg n out q' = q.class8 ∧ q'.s = q1.s ∧ PSs H1 b q' ∧ Exb b H H1 ∧ H1 i = some (cs S4.zero) ∧ H1 j = some (cs out)) ∧
                q1.s.size + 27 - Go.Proofs.Ytaffcoiomggpfaa.atOf b H1 < q1.s.size + 27 - Go.Proofs.Ytaffcoiomggpfaa.atOf b H4) Q E (some ⟨b, 0, none⟩) (some ⟨i, 0, none⟩) (some ⟨j, 0, none⟩) neg H5 := by
            intro q2 H5 hq2 h5 hx5
            have hq' : q2.at_ = q'.at_ ∧ q2.s = q'.s ∧ q2.deep = q'.deep := by
              rw [← hq2]; split
              · exact PS.fail_at q' 80
              · exact ⟨rfl, rfl, rfl⟩
            unfold zqa2_12
            simp only [ptr_some]
            refine h5.ldAt (h5.incS (by have := (h4.2.2.1 m1).2; rw [hq'.1, hq'.2.1, hq'.2.2]; omega) (fun _ => by rw [hq'.1, hq'.2.1]; exact m2) fun H6 h6 hx6 => ?_)
            have hj6 := hx6 _ _ hjb (hx5 _ _ hjb hj4)
            rw [hq2] at hcr
            unfold zqa2_9
            cases neg with
            | true =>
              refine sel_tt ?_
              simp only [ptr_some]
              refine ⟨_, _, _, _, S4.rd hj6, Not_c (s := out) fun H7 he7 => ⟨_, _, _, _, rfl, ?_⟩⟩
              refine ret out.not q2.inc H7 hcr.symm (h6.ext he7) ((hx5.trans hx6).trans (he7.exb b))
            | false =>
              refine sel_ff ?_
              unfold zqa2_7
              simp only [ptr_some]
              refine ⟨_, _, _, _, S4.rd hj6, ret out q2.inc H6 hcr.symm h6 (hx5.trans hx6)⟩
          unfold zqa2_15
          refine sel_beq (fun hn0 => ?_) (fun hn0 => ?_)
          · exact pfail_c (by decide) h4 fun H5 h5 hx5 => fin _ H5 (if_pos (by omega)) h5 hx5
          · exact fin _ H4 (if_neg (by omega)) h4 (Exb.refl _ _)
        · rw [if_neg (by omega)] at hcr
          unfold zqa2_18 zqa2_5
          refine ⟨fun z => z = j, ?_⟩
          simp only [ptr_some]
          refine ⟨by trivial, _, _, _, _, S4.rd hj4, ?_⟩
          refine element8_c h4 m1 m2 fun H5 x q2 hq2 h5 hx5 => ⟨_, _, _, _, rfl, fun z hz _ => ?_, ?_⟩
          · subst hz; rw [hx5 _ _ hjb hj4]; exact hj4.symm
          rw [hq2] at hcr
          dsimp only at hcr
          have hmo := PS.element8_mo q'
          rw [hq2] at hmo
          dsimp only at hmo
          refine Union_c (s := out) (t := x) fun H6 he6 => ⟨_, _, _, _, rfl, ?_⟩
          have h6 := h5.ext he6
          refine S4.wr (out.or x) (he6 _ _ (hx5 _ _ hjb hj4)) ?_
          unfold zqa2_3
          have h7 : PSs (H6.set j (cs (out.or x))) b q2 := h6.other (Ne.symm hjb)
          have hw : IntKind.wrap .i64 ((n : Int) + 1) = ((n + 1 : Nat) : Int) := by rw [IntWalk.i64_in _ (by omega)]; omega
          rw [hw]
          have h5b := h5.2.1
          refine ⟨⟨f, n + 1, out.or x, q2, rfl, by omega, by rw [hmo.1.s]; omega, hcr, hmo.1.s.trans hs', h7, ((hx4.trans hx5).trans (he6.exb b)).set hj0 _, ?_, Heap.set_self _ _ _⟩, ?_⟩
          · rw [Heap.set_ne _ _ hij]; exact he6 _ _ (hx5 _ _ hib hi4)
          · show q1.s.size + 27 - Go.Proofs.Ytaffcoiomggpfaa.atOf b (H6.set j (cs (out.or x))) < _
            rw [h7.atOf, h4.atOf]
            rw [hmo.1.s, hs'] at h5b
            have := hmo.2
            omega
  unfold zqa2_41
  refine more_c h2 ⟨_, rfl, sel_mk (fun hm => ?_) (fun hm => ?_)⟩
  · obtain ⟨m1, m2⟩ := PS.more_iff.1 hm
    simp only [ptr_some]
    refine h2.ldStr (h2.ldAt ⟨⟨by omega, by omega⟩, ?_⟩)
    rw [sAt_nat]
    have hbyte : byteAt q.s q.at_ = q.byte := rfl
    rw [hbyte]
    unfold zqa2_38
    cases hc : ((q.byte : Int) == 94) with
    | true =>
      have hc : (q.byte : Int) = 94 := by simpa using hc
      refine sel_tt ?_
      simp only [ptr_some]
      refine h2.ldAt (h2.incS (by have := (h2.2.2.1 m1).2; omega) (fun _ => m2) fun H3 h3 hx3 => ?_)
      exact loop true q.inc H3 (by rw [hm]; simp; omega) (if_pos rfl) h3 hx3
    | false =>
      have hc : (q.byte : Int) ≠ 94 := by simpa using hc
      exact sel_ff (loop false q H2 (by simp; omega) (if_neg (by simp)) h2 (Exb.refl _ _))
  · unfold zqa2_38
    exact sel_ff (loop false q H2 (by rw [hm]; rfl) (if_neg (by simp)) h2 (Exb.refl _ _))
end Go.Proofs.Ytaffcoiomggpfaa
