import Derived.Test.YtombjgnlpdnclaaGWild
/- Contracts of package jobmuxlaw07: wild (2). -/
namespace Go.Proofs.Ytombjgnlpdnclaa
open Go.V
attribute [local irreducible] app
set_option linter.constructorNameAsVariable false
set_option linter.unusedVariables false

theorem Deck.keep {H H' H3 : Heap} {d k bj : Nat} {xs : List Int} (h : Deck H H' d xs k) (hbH : H bj = none) (hd : bj ≠ d) (hb : ∀ j, j ≠ bj → H3 j = H' j) : Deck H H3 d xs k := by
  obtain ⟨g1, g2, g3, p, n, c', t, g4, g5⟩ := h
  exact ⟨fun j o hj => by rw [hb j (fun e => by rw [e, hbH] at hj; cases hj)]; exact g1 j o hj, g2, g3, p, n, c', t, g4, by rw [hb d (Ne.symm hd)]; exact g5⟩
theorem JI.name {H H2 H' H3 : Heap} {d bj c : Nat} {xs : List Int} {nm nm' : ByteArray} {nds : List ByteArray} {q : OA} (h : JI H H2 H' d xs bj nm nds q c) (hc : H3 bj = some (.cells (jcells nm' q nds.length c).toArray 36 (0, 0))) (hb : ∀ j, j ≠ bj → H3 j = H' j) :
    JI H H2 H3 d xs bj nm' nds q c := by
  obtain ⟨k, h0, h1, h2, h3, h4, h5, h6, h7⟩ := h
  exact ⟨k, h0, fun j hj hn => by rw [hb j (fun e => hn (e ▸ h3))]; exact h1 j hj hn, h2.keep (h0.free h3) h4 hb, h3, h4, hc, h6.keep fun j hj _ => hb j (h7 j hj).2.1, h7⟩
theorem over_all {c : Array Value} {vs : List Value} (h : vs.length = c.size) : over c 0 vs = vs.toArray := by
  apply Array.ext_getElem?
  intro i
  have e : vs.toArray[i]? = vs[i]? := List.getElem?_toArray ..
  rw [over_get _ _ _ _ (by omega), e]
  split
  · rw [Nat.sub_zero]
  · rw [Array.getElem?_eq_none (by omega), List.getElem?_eq_none (by omega)]
theorem JI.start {H H2 H5 : Heap} {d k bj : Nat} {xs : List Int} {nm : ByteArray} (h0 : Ext H H2) (e25 : Ext H2 H5) (hdk : Deck H H2 d xs k) (hbj2 : H2 bj = none) (hbd : bj ≠ d) (hc5 : H5 bj = some (.cells (jcells nm none 0 0).toArray 36 (0, 0))) :
    JI H H2 H5 d xs bj nm [] none 0 := by
  refine ⟨k, h0, fun j hj hn => ?_, hdk.ext e25, hbj2, hbd, hc5, Vec.nil _ 1, fun j hj => (by obtain ⟨a, ha, _⟩ := hj; cases ha)⟩
  cases e : H2 j with
  | none => exact absurd e hn
  | some o => exact e25 j o e
set_option maxHeartbeats 1000000 in
theorem wild_c {H : Heap} {p : OA} {n c : Nat} {xs : List Int} {Q : QT} {E : ET} (h : Ints H p n xs)
    (hk : ∀ H' q c' J, Ext H H' → Jbs H' q J → J.length ≤ 6 → Two J → Q (.slice q J.length c') H') : Does Pr 7 #[.slice p n c] H Q E := by
  refine l07_wild_fn _ _ _ Q E H ?_
  unfold l07_wild l07_wild_43
  refine New_c h fun d H1 hd => ⟨_, rfl, ?_⟩
  unfold l07_wild_40 l07_wild_36 l07_wild_33
  refine ⟨fun x4 l4 c4 x5 H' => ∃ (R : List Jr) (i : Nat), x5 = (i : Nat) ∧ WI H H' d xs x4 l4 c4 i R, fun _ _ _ x _ => ((6 : Int) - x).toNat,
    ⟨[], 0, rfl, 0, H, rfl, by simp, by omega, Vec.nil _ 15, hd, Ext.refl _, hd.1, hd.2.1, fun j hj => (by obtain ⟨a, ha, _⟩ := hj; cases ha), by simp⟩, ?_⟩
  rintro x4 l4 c4 x5 H2 ⟨R, i, rfl, k, B, rfl, hRi, hi6, hv, hdk, heB, hB2, hBd, hf, hel⟩
  have fin : l07_wild_1 Q E x4 R.length c4 H2 := by
    unfold l07_wild_1
    have hJ : (R.map (·.1)).length = R.length := by simp
    have := hk H2 x4 c4 (R.map (·.1)) (heB.trans hB2) (fun j x hx => by
      rw [List.getElem?_map] at hx
      cases hr : R[j]? with
      | none => rw [hr] at hx; cases hx
      | some r =>
        rw [hr] at hx; cases hx
        have hmem : r ∈ R := List.mem_iff_getElem?.2 ⟨j, hr⟩
        have hjl := (List.getElem?_eq_some_iff.1 hr).1
        obtain ⟨v1, v2, v3⟩ := id hv
        cases x4 with
        | none => simp only [] at v3; omega
        | some a =>
          have hrd : H2.rd a 0 (jflat R) := hv.rdS
          have h2 := jflat_rd R 0 j r hrd hr
          exact ⟨a, r.2.1, r.2.2, rfl, rd_sh _ a (j * 15) 0 (by rw [Nat.zero_add] at h2; exact h2), rdS_ext hB2 (hel r hmem).1⟩) (by omega) (fun j => by
      rw [List.getD_eq_getElem?_getD, List.getElem?_map]
      cases hr : R[j]? with
      | none => simp; exact Nat.zero_le _
      | some r => exact (hel r (List.mem_iff_getElem?.2 ⟨j, hr⟩)).2)
    rw [hJ] at this
    exact this
  unfold l07_wild_29
  refine sel_dec (fun hlt => ?_) (fun hge => ?_)
  · refine Left_c hdk ⟨_, rfl, ?_⟩
    unfold l07_wild_27
    refine sel_mk (fun _ => ?_) (fun _ => fin)
    have hd2 : H2 d ≠ none := by obtain ⟨_, _, _, p', n', c', t, _, g5⟩ := hdk; rw [g5]; simp
    unfold l07_wild_22
    obtain ⟨b, hb⟩ := byte_of (IntKind.wrap .i64 (97 + (i : Int)))
    rw [hb]
    refine nw_ext fun b3 H3 hb3 he3 hc3 => ?_
    refine ⟨[b], rfl, rd_at hc3 _ 0 0 (fun j hj => by simp at hj; subst hj; rfl), ?_⟩
    refine nw_ext fun bj H4 hbj he4 hc4 => ?_
    refine wr_new hc4 (by simp) rfl (c' := (jcells ⟨[b].toArray⟩ none 0 0).toArray) (over_all rfl) fun H5 hc5 hb5 => ?_
    have hbj2 : H2 bj = none := he3.free hbj
    have hbd : bj ≠ d := fun e => hd2 (by rw [← e]; exact hbj2)
    have e25 : Ext H2 H5 := ext_but (he3.trans he4) hbj2 hb5
    have hJ5 : JI H H2 H5 d xs bj ⟨[b].toArray⟩ [] none 0 := JI.start (heB.trans hB2) e25 hdk hbj2 hbd hc5
    clear hc3 hc4 hb5 hc5
    have after : ∀ (nm : ByteArray) (H6 : Heap), JI H H2 H6 d xs bj nm [] none 0 → l07_wild_15 (fun x4' l4' c4' x5' H1 => (∃ (R : List Jr) (i : Nat), x5' = (i : Nat) ∧ WI H H1 d xs x4' l4' c4' i R) ∧ ((6 : Int) - x5').toNat < ((6 : Int) - (i : Nat)).toNat) Q E (some ⟨d, 0, none⟩) x4 R.length c4 i (some ⟨bj, 0, none⟩) H6 := by
      intro nm H6 hJ6
      unfold l07_wild_15
      refine hJ6.next (b := 3) (by decide) fun H7 k7 hJ7 _ => ⟨_, rfl, ?_⟩
      have hb7 := drawOf_bounds (xs := xs) (k := k7) (n := 3) (by omega) (by omega)
      have e3 : (3 : Int) = ((3 : Nat) : Int) := rfl
      rw [e3]
      generalize drawOf xs k7 ((3 : Nat) : Int) = r at hb7
      unfold l07_wild_12
      refine ⟨fun x7 H' => ∃ (nds : List ByteArray) (q : OA) (c : Nat) (m : Nat), x7 = (m : Nat) ∧ nds.length + m ≤ 2 ∧ JI H H2 H' d xs bj nm nds q c, fun x _ => x.toNat, ⟨[], none, 0, r.toNat, by omega, by simp; omega, hJ7⟩, ?_⟩
      rintro x7 H8 ⟨nds, q, c8, m, rfl, hm, hJ8⟩
      unfold l07_wild_9
      refine sel_dec (fun hpos => ?_) (fun hend => ?_)
      · unfold l07_wild_7
        refine ⟨fun z => z ≠ d, ?_⟩
        simp only [ptr_some, add_at]
        refine ⟨hbd, ?_⟩
        obtain ⟨k8, g0, g1, g2, g3, g4, g5, g6, g7⟩ := id hJ8
        refine ldSl_at g5 rfl ?_
        refine hJ8.next (b := 8) (by decide) fun H9 k9 hJ9 hf9 => ⟨_, rfl, fun z hz _ => hf9 z hz, fun _ _ _ => trivial, ?_⟩
        obtain ⟨b9, hb9⟩ := byte_of (IntKind.wrap .i64 (97 + drawOf xs k9 8))
        rw [hb9]
        refine nw_ext fun ba HA hba heA hcA => ?_
        refine ⟨[b9], rfl, rd_at hcA _ 0 0 (fun j hj => by simp at hj; subst hj; rfl), fun _ _ _ => trivial, ?_⟩
        refine nw_ext fun bb HB hbb heBB hcB => ?_
        have hJB := (hJ9.ext heA hd2).ext heBB hd2
        obtain ⟨kB, y0, y1, y2, y3, y4, y5, y6, y7⟩ := hJB
        refine app_one (sz := 1) (ws := [.string ⟨[b9].toArray⟩]) sl31 y6 hcB rfl rfl (by omega) (by omega) fun pC cC HC hvC hsC hbC => ?_
        have hyd : HB d ≠ none := by obtain ⟨_, _, _, p', n', c', t, _, g5⟩ := y2; rw [g5]; simp
        have hybj : HB bj ≠ none := by rw [y5]; simp
        have hcj : HC bj = some (.cells (jcells nm q nds.length c8).toArray 36 (0, 0)) := by rw [hsC bj (fun hb => (y7 bj hb).2.1 rfl) hybj]; exact y5
        refine wr_new hcj (by show 3 + 1 ≤ 15; omega) rfl (c' := (jcells nm pC (nds.length + 1) cC).toArray) rfl fun HD hcD hbD => ?_
        have hw : IntKind.wrap .i64 ((m : Int) - 1) = ((m - 1 : Nat) : Int) := by rw [IntWalk.i64_in _ (by omega)]; omega
        rw [hw]
        refine ⟨⟨nds ++ [⟨[b9].toArray⟩], pC, cC, m - 1, rfl, by simp; omega, kB, y0, fun j hj hn => ?_, ?_, y3, y4, by rw [List.length_append]; exact hcD, ?_, fun j hj => ?_⟩, by omega⟩
        · have hjb : j ≠ bj := fun e => hn (e ▸ y3)
          rw [hbD j hjb, hsC j (fun hb => hn (y7 j hb).1) (by rw [y1 j hj hn]; exact hn)]
          exact y1 j hj hn
        · have hHC : Deck H HC d xs kB := by
            obtain ⟨z1, z2, z3, p', n', c', t, z4, z5⟩ := y2
            refine ⟨fun j o hj => ?_, z2, z3, p', n', c', t, z4, by rw [hsC d (fun hb => (y7 d hb).2.2 rfl) hyd]; exact z5⟩
            have := z1 j o hj
            rw [hsC j (fun hb => by have := (y7 j hb).1; rw [y0 j o hj] at this; cases this) (by rw [this]; simp)]
            exact this
          exact hHC.keep (y0.free y3) y4 hbD
        · rw [List.length_append, List.length_singleton]
          have : Vec HD 1 pC (nds.length + 1) cC (nds.map Value.string ++ [.string ⟨[b9].toArray⟩]) := hvC.keep fun j hj _ => hbD j fun e => by
            rcases hbC j hj with hb | hb
            · exact (y7 j hb).2.1 e
            · rw [e] at hb; exact hybj hb
          simpa using this
        · rcases hbC j hj with hb | hb
          · exact y7 j hb
          · refine ⟨?_, fun e => by rw [e] at hb; exact hybj hb, fun e => by rw [e] at hb; exact hyd hb⟩
            cases e : H2 j with
            | none => rfl
            | some o =>
              exfalso
              have hjd : j ≠ d := fun e' => by rw [e'] at hb; exact hyd hb
              have := y1 j hjd (by rw [e]; simp)
              rw [hb, e] at this; cases this
      · obtain ⟨kB, y0, y1, y2, y3, y4, y5, y6, y7⟩ := hJ8
        unfold l07_wild_5
        simp only [ptr_some]
        refine ⟨nm, ⟨#[]⟩, none, 0, 0, q, nds.length, c8, false, ⟨#[]⟩, 0, 0, 0, 0, 0, 0, none, 0, 0, 0, 0, ?_, ?_⟩
        · exact rd_at y5 _ 0 0 (fun j hj => by rw [Nat.add_zero, Nat.zero_add, List.getElem?_toArray]; rfl)
        refine nw_ext fun b9 H9 hb9 he9 hc9 => ?_
        have hv8 : Vec H8 15 x4 R.length c4 (jflat R) := hv.keep fun j hj hn => y1 j (hf j hj).2 hn
        refine app_one (sz := 15) (ws := jcells nm q nds.length c8) sl24 (hv8.ext he9) hc9 rfl rfl (by omega) (by omega) fun pA cA HA hvA hsA hbA => ?_
        unfold l07_wild_3
        have hw : IntKind.wrap .i64 ((i : Int) + 1) = ((i + 1 : Nat) : Int) := wrap_succ (by omega)
        rw [hw]
        have hyd : H9 d ≠ none := fun e => by
          have := he9.free e
          obtain ⟨_, _, _, p', n', c', t, _, g5⟩ := y2
          rw [g5] at this; cases this
        have hxd : ∀ j, blk pA j → B j = none ∧ j ≠ d := fun j hj => by
          rcases hbA j hj with hb | hb
          · exact hf j hb
          · have hjd : j ≠ d := fun e => by rw [e] at hb; exact hyd hb
            refine ⟨?_, hjd⟩
            cases e : B j with
            | none => rfl
            | some o =>
              exfalso
              have h2 := hB2 j o e
              have := y1 j hjd (by rw [h2]; simp)
              rw [h2] at this
              have := he9 j o this
              rw [hb] at this; cases this
        have hDA : Deck H HA d xs kB := by
          have y2' := y2.ext he9
          obtain ⟨z1, z2, z3, p', n', c', t, z4, z5⟩ := y2'
          refine ⟨fun j o hj => ?_, z2, z3, p', n', c', t, z4, by rw [hsA d (fun hb => (hf d hb).2 rfl) hyd]; exact z5⟩
          have := z1 j o hj
          rw [hsA j (fun hb => by have := (hf j hb).1; rw [heB j o hj] at this; cases this) (by rw [this]; simp)]
          exact this
        have hBA : Ext B (butP HA fun j => j = d ∨ blk pA j) := fun j o hj => by
          have hjd : j ≠ d := fun e => by rw [e, hBd] at hj; cases hj
          rw [butP_out (fun h => h.elim hjd fun hb => by rw [(hxd j hb).1] at hj; cases hj)]
          have h2 := hB2 j o hj
          have h8 := y1 j hjd (by rw [h2]; simp)
          rw [h2] at h8
          have h9 := he9 j o h8
          rw [hsA j (fun hb => by rw [(hf j hb).1] at hj; cases hj) (by rw [h9]; simp)]
          exact h9
        refine ⟨⟨R ++ [((nm, nds), q, c8)], i + 1, rfl, kB, butP HA fun j => j = d ∨ blk pA j, by simp, by simp; omega, by omega, ?_, hDA, heB.trans hBA, butP_ext _ _, butP_in (.inl rfl), fun j hj => ⟨butP_in (.inr hj), (hxd j hj).2⟩, fun r hr => ?_⟩, by omega⟩
        · have e : jflat (R ++ [((nm, nds), q, c8)]) = jflat R ++ jcells nm q nds.length c8 := by simp [jflat, Jr.cells]
          rw [e, List.length_append]; exact hvA
        · rcases List.mem_append.1 hr with hr | hr
          · exact ⟨rdS_ext hBA (hel r hr).1, (hel r hr).2⟩
          · rw [List.mem_singleton] at hr
            subst hr
            refine ⟨?_, by show nds.length ≤ 2; omega⟩
            have hvq : Vec HA 1 q nds.length c8 (nds.map Value.string) := (y6.ext he9).keep fun j hj hn => hsA j (fun hb => by
              have h1 := (y7 j hj).1
              exact hv.known hb h1) hn
            have hvq2 : Vec (butP HA fun j => j = d ∨ blk pA j) 1 q nds.length c8 (nds.map Value.string) := hvq.keep fun j hj _ => butP_out fun h => h.elim (y7 j hj).2.2 fun hb => by
              rcases hbA j hb with hb | hb
              · exact hv.known hb (y7 j hj).1
              · exact y6.known hj (he9.free hb)
            exact hvq2.rdS
    unfold l07_wild_19
    refine hJ5.next (b := 8) (by decide) fun H6 k6 hJ6 _ => ⟨_, rfl, ?_⟩
    refine sel_beq (fun _ => ?_) (fun _ => after _ H6 hJ6)
    obtain ⟨k8, g0, g1, g2, g3, g4, g5, g6, g7⟩ := id hJ6
    simp only [ptr_some]
    refine wr_new g5 (by show 0 + 1 ≤ 15; omega) rfl (c' := (jcells ⟨[97].toArray⟩ none 0 0).toArray) rfl fun H7 hc7 hb7 => ?_
    exact after _ H7 (hJ6.name hc7 hb7)
  · unfold l07_wild_27
    exact sel_ff fin
end Go.Proofs.Ytombjgnlpdnclaa

/- Contracts of package jobmuxlaw07: sane. -/
namespace Go.Proofs.Ytombjgnlpdnclaa
open Go.V
attribute [local irreducible] app
set_option linter.constructorNameAsVariable false
set_option linter.unusedVariables false

def J1 : List Jb := [(⟨[97].toArray⟩, [⟨[98].toArray⟩]), (⟨[98].toArray⟩, [])]
def J2 : List Jb := [(⟨[97].toArray⟩, [⟨[98].toArray⟩]), (⟨[98].toArray⟩, [⟨[97].toArray⟩])]
theorem ns1 : Ns J1 = [[1], []] := by decide +kernel
theorem ns2 : Ns J2 = [[1], [0]] := by decide +kernel
theorem two1 : Two J1 := fun i => by
  match i with
  | 0 => exact Nat.le_succ 1
  | 1 => exact Nat.zero_le 2
  | i + 2 => exact Nat.zero_le 2
theorem two2 : Two J2 := fun i => by
  match i with
  | 0 => exact Nat.le_succ 1
  | 1 => exact Nat.le_succ 1
  | i + 2 => exact Nat.zero_le 2
theorem ord1 {o : List Nat} {T : List Bool} (h : Ord [[1], []] o T) : o = [1, 0] := by
  have hlt := fun i (hi : i ∈ o) => h.1.lt hi
  have hf := h.1.2.2.2
  have hend := h.2
  match o, hlt, hf, hend, h.1.len, h.1.2.2.1 with
  | [], _, _, hend, _, _ => exact absurd ⟨by simp, by simp⟩ (hend 1 (by simp))
  | [a], hlt, hf, hend, _, _ =>
    have ha : a < 2 := hlt a (by simp)
    have h0 := (hf 0 a rfl).2.1
    match a, ha with
    | 0, _ => exact absurd (h0 1 (by simp)) (by simp)
    | 1, _ => exact absurd ⟨by simp, by simp⟩ (hend 0 (by simp))
  | [a, b], hlt, hf, hend, _, hnd =>
    have ha : a < 2 := hlt a (by simp)
    have hb : b < 2 := hlt b (by simp)
    have h0 := (hf 0 a rfl).2.1
    match a, ha, b, hb with
    | 0, _, _, _ => exact absurd (h0 1 (by simp)) (by simp)
    | 1, _, 0, _ => rfl
    | 1, _, 1, _ => simp at hnd
  | _ :: _ :: _ :: _, _, _, _, hl, _ => simp at hl
theorem ord2 {o : List Nat} {T : List Bool} (h : Ord [[1], [0]] o T) : o = [] := by
  have hf := h.1.2.2.2
  match o, hf with
  | [], _ => rfl
  | a :: r, hf =>
    obtain ⟨h1, h0, _⟩ := hf 0 a rfl
    match a, h1 with
    | 0, _ => exact absurd (h0 1 (by simp)) (by simp)
    | 1, _ => exact absurd (h0 0 (by simp)) (by simp)
theorem cyc2 {w : List Nat} (h : CycP [[1], [0]] w) (hn : w ≠ []) : w.length = 2 := by
  match w, hn, h with
  | [a], _, h =>
    obtain ⟨h1, _, x, h3, h4⟩ := h 0 a rfl
    simp at h3; subst h3
    match a, h1 with
    | 0, _ => simp at h4
    | 1, _ => simp at h4
  | [a, b], _, _ => rfl
  | a :: b :: c :: r, _, h =>
    have a1 := (h 0 a rfl).1
    obtain ⟨b1, b2, _⟩ := h 1 b rfl
    obtain ⟨c1, c2, _⟩ := h 2 c rfl
    simp at a1 b1 c1 b2 c2
    omega
set_option maxHeartbeats 1000000 in
theorem sane7_c {H : Heap} {Q : QT} {E : ET} (hk : ∀ H', Ext H H' → Q (.bool true) H') : Does Pr 6 #[] H Q E := by
  refine l07_sane_fn Q E H ?_
  unfold l07_sane
  refine nw_ext fun b1 H1 hb1 he1 hc1 => ?_
  refine nw_ext fun b3 H3 hb3 he3 hc3 => ?_
  have hne : b1 ≠ b3 := fun e => by rw [e] at hc1; rw [hc1] at hb3; cases hb3
  have hJ1 : Jbs H3 (some ⟨b3, 0, none⟩) J1 := fun i x hx => by
    match i, hx with
    | 0, hx =>
      cases hx
      refine ⟨_, some ⟨b1, 0, none⟩, 1, rfl, rd_sh _ _ 0 0 (rd_at hc3 _ 0 0 fun j hj => ?_), ?_⟩
      · have hj : j < 15 := hj
        match j, hj with
        | 0, _ => rfl | 1, _ => rfl | 2, _ => rfl | 3, _ => rfl | 4, _ => rfl | 5, _ => rfl | 6, _ => rfl | 7, _ => rfl | 8, _ => rfl | 9, _ => rfl | 10, _ => rfl | 11, _ => rfl | 12, _ => rfl | 13, _ => rfl | 14, _ => rfl
      · exact rd_at (he3 _ _ hc1) _ 0 0 fun j hj => by simp at hj; subst hj; rfl
    | 1, hx =>
      cases hx
      refine ⟨_, none, 0, rfl, rd_sh _ _ 15 0 (rd_at hc3 _ 0 15 fun j hj => ?_), rfl⟩
      have hj : j < 15 := hj
      match j, hj with
      | 0, _ => rfl | 1, _ => rfl | 2, _ => rfl | 3, _ => rfl | 4, _ => rfl | 5, _ => rfl | 6, _ => rfl | 7, _ => rfl | 8, _ => rfl | 9, _ => rfl | 10, _ => rfl | 11, _ => rfl | 12, _ => rfl | 13, _ => rfl | 14, _ => rfl
    | i + 2, hx => simp [J1] at hx
  refine Order_c hJ1 rfl (by omega) two1 fun H4 q cc o T he4 hO hv hf => ⟨_, _, _, rfl, ?_⟩
  rw [ns1] at hO
  obtain rfl := ord1 hO
  refine nw_ext fun b5 H5 hb5 he5 hc5 => ⟨⟨by omega, by omega⟩, ?_⟩
  have h35 : Ext H3 H5 := he4.trans he5
  have hc35 := h35 _ _ hc3
  have hne5 : b5 ≠ b3 := fun e => by rw [e] at hb5; rw [he4 _ _ hc3] at hb5; cases hb5
  refine wr_new hc35 (by simp) rfl rfl fun H6 hc6 hb6 => ?_
  have hb3H : H b3 = none := he1.free hb3
  have hH6 : Ext H H6 := ext_but ((he1.trans he3).trans h35) hb3H hb6
  have hJ2 : Jbs H6 (some ⟨b3, 0, none⟩) J2 := fun i x hx => by
    match i, hx with
    | 0, hx =>
      cases hx
      refine ⟨_, some ⟨b1, 0, none⟩, 1, rfl, rd_sh _ _ 0 0 (rd_at hc6 _ 0 0 fun j hj => ?_), ?_⟩
      · have hj : j < 15 := hj
        rw [over_get _ _ _ _ (by simp), if_neg (by omega)]
        match j, hj with
        | 0, _ => rfl | 1, _ => rfl | 2, _ => rfl | 3, _ => rfl | 4, _ => rfl | 5, _ => rfl | 6, _ => rfl | 7, _ => rfl | 8, _ => rfl | 9, _ => rfl | 10, _ => rfl | 11, _ => rfl | 12, _ => rfl | 13, _ => rfl | 14, _ => rfl
      · exact rd_at (by rw [hb6 b1 hne]; exact h35 _ _ (he3 _ _ hc1)) _ 0 0 fun j hj => by simp at hj; subst hj; rfl
    | 1, hx =>
      cases hx
      refine ⟨_, some ⟨b5, 0, none⟩, 1, rfl, rd_sh _ _ 15 0 (rd_at hc6 _ 0 15 fun j hj => ?_), ?_⟩
      · have hj : j < 15 := hj
        rw [over_get _ _ _ _ (by simp)]
        match j, hj with
        | 0, _ => rfl | 1, _ => rfl | 2, _ => rfl | 3, _ => rfl | 4, _ => rfl | 5, _ => rfl | 6, _ => rfl | 7, _ => rfl | 8, _ => rfl | 9, _ => rfl | 10, _ => rfl | 11, _ => rfl | 12, _ => rfl | 13, _ => rfl | 14, _ => rfl
      · exact rd_at (by rw [hb6 b5 hne5]; exact hc5) _ 0 0 fun j hj => by simp at hj; subst hj; rfl
    | i + 2, hx => simp [J2] at hx
  have hv6 : NL H6 q 2 cc [1, 0] := Vec.nl ((hv.ext he5).keep fun j hj _ => hb6 j fun e => by
    have := hf j hj
    rw [e, hc3] at this; cases this)
  have g0 := hv6.get (i := 0) (m := 1) rfl (K := fun n14 => sel (n14 == 1)
    ((0 ≤ (1 : Int) ∧ (1 : Int) < ((2 : Nat) : Int)) ∧ ptr q fun q15 =>
     ldI .i64 (Addr.add q15 1) H6 fun n16 =>
     sel (n16 == 0)
     (Does Pr 8 #[(.slice (some ⟨b3, 0, none⟩) 2 2)] H6 (fun v17 H18 =>
     ∃ (p19 : OA) (l20 c21 : Nat), v17 = (.slice p19 l20 c21) ∧ sel (((l20 : Int) : Int) == 0)
     (Does Pr 9 #[(.slice (some ⟨b3, 0, none⟩) 2 2)] H18 (fun v22 H23 =>
     ∃ (p24 : OA) (l25 c26 : Nat), v22 = (.slice p24 l25 c26) ∧ Q (.bool (((l25 : Int) : Int) == 2)) H23) E)
     (Q (.bool false) H18)) E)
     (Q (.bool false) H6))
    (Q (.bool false) H6)) ?_
  · refine sel_tt ?_
    refine ⟨by simp, ?_⟩
    have hz := g0.2
    cases q with
    | none => exact hz
    | some a =>
      simp only [ptr_some] at hz ⊢
      have ea : a.add ((((0 : Nat) : Int)).toNat * 1) = a := by simp [Addr.add]
      rw [ea] at hz
      exact hz
  · refine sel_tt ?_
    refine ⟨⟨by omega, by omega⟩, ?_⟩
    have g1 := (hv6.get (i := 1) (m := 0) rfl (K := fun n16 => sel (n16 == 0)
     (Does Pr 8 #[(.slice (some ⟨b3, 0, none⟩) 2 2)] H6 (fun v17 H18 =>
     ∃ (p19 : OA) (l20 c21 : Nat), v17 = (.slice p19 l20 c21) ∧ sel (((l20 : Int) : Int) == 0)
     (Does Pr 9 #[(.slice (some ⟨b3, 0, none⟩) 2 2)] H18 (fun v22 H23 =>
     ∃ (p24 : OA) (l25 c26 : Nat), v22 = (.slice p24 l25 c26) ∧ Q (.bool (((l25 : Int) : Int) == 2)) H23) E)
     (Q (.bool false) H18)) E)
     (Q (.bool false) H6)) ?_).2
    · exact g1
    · refine sel_tt ?_
      refine Order_c hJ2 rfl (by omega) two2 fun H7 q7 c7 o7 T7 he7 hO7 hv7 hf7 => ⟨_, _, _, rfl, ?_⟩
      rw [ns2] at hO7
      obtain rfl := ord2 hO7
      refine sel_tt ?_
      refine Cycle_c (hJ2.ext he7) rfl (by omega) two2 fun H8 q8 m8 c8 w o8 T8 he8 hO8 hm hcy hn => ⟨_, _, _, rfl, ?_⟩
      rw [ns2] at hO8 hcy
      obtain rfl := ord2 hO8
      have hm0 : m8 ≠ 0 := fun e => by have := hm.1 e 0 (by omega); simp at this
      have hw := cyc2 hcy fun e => by have := hn.1; rw [e] at this; exact hm0 this.symm
      have : m8 = 2 := by rw [← hn.1, hw]
      subst this
      exact hk H8 ((hH6.trans he7).trans he8)
end Go.Proofs.Ytombjgnlpdnclaa

/- The statements GraphRight and GraphFirst: their contracts. -/
namespace Go.Proofs.Ytombjgnlpdnclaa
open Go.V
attribute [local irreducible] app
set_option linter.constructorNameAsVariable false
set_option linter.unusedVariables false

theorem NL.take {H : Heap} {p : OA} {n c k : Nat} {L : List Nat} (h : NL H p n c L) (hk : k ≤ n) : NL H (if c = 0 then p else Option.map (fun a => Addr.add a (0 * 1)) p) (k - 0) (c - 0) (L.take k) := by
  obtain ⟨h1, h2, h3⟩ := h
  have hp : (if c = 0 then p else Option.map (fun a => Addr.add a (0 * 1)) p) = p := by
    split
    · rfl
    · cases p with
      | none => rfl
      | some a => simp [Addr.add]
  rw [hp]
  have tk : ∀ (k : Nat) (a : Addr) (vs : List Value) (i : Nat), H.rd a i vs → H.rd a i (vs.take k) := fun k a => by
    induction k with
    | zero => intro vs i _; simp; trivial
    | succ k ih =>
      intro vs i h
      cases vs with
      | nil => trivial
      | cons v vs => exact ⟨h.1, ih vs (i + 1) h.2⟩
  refine ⟨by rw [List.length_take]; omega, by omega, ?_⟩
  rw [List.map_take]
  cases p with
  | none =>
    have : L.map natV = [] := h3
    rw [this]; simp; rfl
  | some a => exact tk k a _ 0 h3
def rdB (o : List Nat) (m : Nat) (L : List Nat) (t : Nat) : Bool := !(decide (m ∈ o)) && (L.take t).all fun x => decide (x ∈ o)
theorem rdB_zero (o : List Nat) (m : Nat) (L : List Nat) : rdB o m L 0 = !(decide (m ∈ o)) := by simp [rdB]
theorem rdB_succ {o : List Nat} {m t x : Nat} {L : List Nat} (h : L[t]? = some x) : rdB o m L (t + 1) = (rdB o m L t && decide (x ∈ o)) := by
  unfold rdB
  rw [List.take_add_one, h, List.all_append, Bool.and_assoc]
  simp
theorem rdB_all {N : List (List Nat)} {o : List Nat} {m : Nat} (h : ¬ Rdy N o m) : rdB o m (N.getD m []) (N.getD m []).length = false := by
  rw [← Bool.not_eq_true]
  intro ht
  refine h ?_
  unfold rdB at ht
  rw [List.take_length, Bool.and_eq_true, List.all_eq_true] at ht
  exact ⟨by simpa using ht.1, fun x hx => by simpa using ht.2 x hx⟩
section
variable {H : Heap} {p : OA} {n c : Nat} {xs : List Int} {Q : QT} {E : ET}
set_option maxHeartbeats 2000000 in
theorem GraphFirst_c (h : Ints H p n xs) (hk : ∀ H', Ext H H' → Q (.bool true) H') : Does Pr 4 #[.slice p n c] H Q E := by
  refine l07_GraphFirst_fn _ _ _ Q E H ?_
  unfold l07_GraphFirst l07_GraphFirst_108
  refine sane7_c fun H1 he1 => ⟨_, rfl, sel_ff ?_⟩
  unfold l07_GraphFirst_105
  refine wild_c (h.ext he1) fun H2 q2 c2 J he2 hJ hJ6 h2 => ⟨_, _, _, rfl, ?_⟩
  unfold l07_GraphFirst_102
  refine Order_c hJ rfl (by omega) h2 fun H3 qo co o T he3 hO hv hf => ⟨_, _, _, rfl, ?_⟩
  have hJ3 := hJ.ext he3
  have hno := Vec.nl hv
  have hH3 : Ext H H3 := (he1.trans he2).trans he3
  have hlN := Ns_len J
  have hol := hO.1.len
  have hn2 := fun i => needsOf_len h2 i
  have hco := hno.2.1
  unfold l07_GraphFirst_98 l07_GraphFirst_95
  refine ⟨fun x H' => ∃ k : Nat, x = (k : Nat) ∧ k ≤ o.length ∧ Ext H3 H', fun x _ => ((o.length : Int) - x).toNat, ⟨0, rfl, by omega, Ext.refl _⟩, ?_⟩
  rintro x H4 ⟨k, rfl, hkl, he4⟩
  unfold l07_GraphFirst_92 l07_GraphFirst_89
  refine sel_dec (fun hlt => ?_) (fun hge => ?_)
  · have hlt : k < o.length := by omega
    have hx : o[k]? = some o[k] := List.getElem?_eq_getElem hlt
    generalize o[k] = i at hx
    obtain ⟨hi1, _, hi3⟩ := hO.1.2.2.2 k i hx
    unfold l07_GraphFirst_84
    refine (hno.ex he4).get hx ?_
    unfold l07_GraphFirst_81 l07_GraphFirst_78
    refine ⟨fun x H' => ∃ m : Nat, x = (m : Nat) ∧ m ≤ i ∧ Ext H3 H', fun x _ => ((i : Int) - x).toNat, ⟨0, rfl, by omega, he4⟩, ?_⟩
    rintro x H5 ⟨m, rfl, hmi, he5⟩
    unfold l07_GraphFirst_75
    refine sel_dec (fun hlt2 => ?_) (fun hge2 => ?_)
    · have hm : m < J.length := by omega
      unfold l07_GraphFirst_70
      simp only [Int.toNat_natCast]
      refine ⟨⟨by omega, by omega⟩, Has_c ((hno.ex he5).take (k := k) (by omega)) (by omega) ⟨_, rfl, ?_⟩⟩
      unfold l07_GraphFirst_66
      refine Needs_c (hJ3.ext he5) rfl (by omega) hm (h2 m) fun H6 q6 c6 he6 hv6 hf6 => ⟨_, _, _, rfl, ?_⟩
      have hnm := Vec.nl hv6
      have hl2 := hn2 m
      have hbad := rdB_all (hi3 m (by omega))
      rw [Ns_getD hm] at hbad
      unfold l07_GraphFirst_63
      refine ⟨fun x8 x43 H' => ∃ t : Nat, x43 = (t : Nat) ∧ t ≤ (needsOf J m).length ∧ Ext H6 H' ∧ x8 = rdB (o.take k) m (needsOf J m) t, fun _ x _ => (((needsOf J m).length : Int) - x).toNat, ⟨0, rfl, by omega, Ext.refl _, by rw [rdB_zero]⟩, ?_⟩
      rintro x8 x43 H7 ⟨t, rfl, htl, he7, rfl⟩
      have he37 := (he5.trans he6).trans he7
      unfold l07_GraphFirst_60 l07_GraphFirst_57
      refine sel_dec (fun hlt3 => ?_) (fun hge3 => ?_)
      · have hlt3 : t < (needsOf J m).length := by omega
        have hy : (needsOf J m)[t]? = some (needsOf J m)[t] := List.getElem?_eq_getElem hlt3
        generalize (needsOf J m)[t] = y at hy
        unfold l07_GraphFirst_54
        refine (hnm.ex he7).get hy ?_
        refine sel_mk (fun ht => ?_) (fun hff => ?_)
        · simp only [Int.toNat_natCast]
          refine ⟨⟨by omega, by omega⟩, Has_c ((hno.ex he37).take (k := k) (by omega)) (by omega) ⟨_, rfl, ?_⟩⟩
          unfold l07_GraphFirst_52
          rw [wrap_succ (by omega)]
          exact ⟨⟨t + 1, rfl, by omega, he7, by rw [rdB_succ hy, ht, Bool.true_and]⟩, by first | omega | (dsimp only; omega)⟩
        · unfold l07_GraphFirst_52
          rw [wrap_succ (by omega)]
          exact ⟨⟨t + 1, rfl, by omega, he7, by rw [rdB_succ hy, hff, Bool.false_and]⟩, by first | omega | (dsimp only; omega)⟩
      · have htl : t = (needsOf J m).length := by omega
        rw [htl, hbad]
        unfold l07_GraphFirst_50
        refine sel_ff ?_
        unfold l07_GraphFirst_48
        rw [wrap_succ (by omega)]
        exact ⟨⟨m + 1, rfl, by omega, he37⟩, by first | omega | (dsimp only; omega)⟩
    · unfold l07_GraphFirst_46
      rw [wrap_succ (by omega)]
      exact ⟨⟨k + 1, rfl, by omega, he5⟩, by first | omega | (dsimp only; omega)⟩
  · unfold l07_GraphFirst_42 l07_GraphFirst_39
    refine ⟨fun x H' => ∃ m : Nat, x = (m : Nat) ∧ m ≤ J.length ∧ Ext H3 H', fun x _ => ((J.length : Int) - x).toNat, ⟨0, rfl, by omega, he4⟩, ?_⟩
    rintro x H5 ⟨m, rfl, hmi, he5⟩
    unfold l07_GraphFirst_36 l07_GraphFirst_33
    refine sel_dec (fun hlt2 => ?_) (fun hge2 => ?_)
    · have hm : m < J.length := by omega
      unfold l07_GraphFirst_28 l07_GraphFirst_25
      refine Has_c (hno.ex he5) (by omega) ⟨_, rfl, ?_⟩
      unfold l07_GraphFirst_21
      refine Needs_c (hJ3.ext he5) rfl (by omega) hm (h2 m) fun H6 q6 c6 he6 hv6 hf6 => ⟨_, _, _, rfl, ?_⟩
      have hnm := Vec.nl hv6
      have hl2 := hn2 m
      have hbad := rdB_all (hO.2 m (by omega))
      rw [Ns_getD hm] at hbad
      unfold l07_GraphFirst_18
      refine ⟨fun x8 x43 H' => ∃ t : Nat, x43 = (t : Nat) ∧ t ≤ (needsOf J m).length ∧ Ext H6 H' ∧ x8 = rdB o m (needsOf J m) t, fun _ x _ => (((needsOf J m).length : Int) - x).toNat, ⟨0, rfl, by omega, Ext.refl _, by rw [rdB_zero]⟩, ?_⟩
      rintro x8 x43 H7 ⟨t, rfl, htl, he7, rfl⟩
      have he37 := (he5.trans he6).trans he7
      unfold l07_GraphFirst_15 l07_GraphFirst_12
      refine sel_dec (fun hlt3 => ?_) (fun hge3 => ?_)
      · have hlt3 : t < (needsOf J m).length := by omega
        have hy : (needsOf J m)[t]? = some (needsOf J m)[t] := List.getElem?_eq_getElem hlt3
        generalize (needsOf J m)[t] = y at hy
        unfold l07_GraphFirst_9
        refine (hnm.ex he7).get hy ?_
        refine sel_mk (fun ht => ?_) (fun hff => ?_)
        · refine Has_c (hno.ex he37) (by omega) ⟨_, rfl, ?_⟩
          unfold l07_GraphFirst_7
          rw [wrap_succ (by omega)]
          exact ⟨⟨t + 1, rfl, by omega, he7, by rw [rdB_succ hy, ht, Bool.true_and]⟩, by first | omega | (dsimp only; omega)⟩
        · unfold l07_GraphFirst_7
          rw [wrap_succ (by omega)]
          exact ⟨⟨t + 1, rfl, by omega, he7, by rw [rdB_succ hy, hff, Bool.false_and]⟩, by first | omega | (dsimp only; omega)⟩
      · have htl : t = (needsOf J m).length := by omega
        rw [htl, hbad]
        unfold l07_GraphFirst_5
        refine sel_ff ?_
        unfold l07_GraphFirst_3
        rw [wrap_succ (by omega)]
        exact ⟨⟨m + 1, rfl, by omega, he37⟩, by first | omega | (dsimp only; omega)⟩
    · unfold l07_GraphFirst_1
      exact hk H5 (hH3.trans he5)
end
end Go.Proofs.Ytombjgnlpdnclaa
