import Derived.Test.YtombjgnlpdnclaaGWild
/- Contracts of package jobmuxlaw07: wild (2). -/
namespace Go.Proofs.Ytombjgnlpdnclaa
open Go.V
attribute [local irreducible] app
set_option linter.constructorNameAsVariable false
set_option linter.unusedVariables false

theorem Deck.keep {H H' H3 : Heap} {d k bj : Nat} {xs : List Int} (h : Deck H H' d xs k) (hbH : H bj = none) (hd : bj ≠ d) (hb : ∀ j, j ≠ bj → H3 j = H' j) : Deck H H3 d xs k := by
  obtain ⟨g1, g2, g3, p, n, c', t, g4, g5⟩ := h
  exact ⟨fun j o hj => by rw [hb j (fun e => by rw [e, hbH] at hj; cases hj)]; exact g1 j o hj, g2, g3, p, n, c', t, g4, by rw [hb d (Ne.symm hd)]; exact g5⟩
theorem JI.name {H H2 H' H3 : Heap} {d bj c : Nat} {xs : List Int} {nm nm' : ByteArray} {nds : List ByteArray} {q : OA} (h : JI H H2 H' d xs bj nm nds q c) (hc : H3 bj = some (.cells (jcells nm' q nds.length c).toArray 36 (0, 0))) (hb : ∀ j, j ≠ bj → H3 j = H' j) :
    JI H H2 H3 d xs bj nm' nds q c := by
  obtain ⟨k, h0, h1, h2, h3, h4, h5, h6, h7⟩ := h
  exact ⟨k, h0, fun j hj hn => by rw [hb j (fun e => hn (e ▸ h3))]; exact h1 j hj hn, h2.keep (h0.free h3) h4 hb, h3, h4, hc, h6.keep fun j hj _ => hb j (h7 j hj).2.1, h7⟩
theorem over_all {c : Array Value} {vs : List Value} (h : vs.length = c.size) : over c 0 vs = vs.toArray := by
  apply Array.ext_getElem?
  intro i
  have e : vs.toArray[i]? = vs[i]? := List.getElem?_toArray ..
  rw [over_get _ _ _ _ (by omega), e]
  split
  · rw [Nat.sub_zero]
  · rw [Array.getElem?_eq_none (by omega), List.getElem?_eq_none (by omega)]
theorem JI.start {H H2 H5 : Heap} {d k bj : Nat} {xs : List Int} {nm : ByteArray} (h0 : Ext H H2) (e25 : Ext H2 H5) (hdk : Deck H H2 d xs k) (hbj2 : H2 bj = none) (hbd : bj ≠ d) (hc5 : H5 bj = some (.cells (jcells nm none 0 0).toArray 36 (0, 0))) :
    JI H H2 H5 d xs bj nm [] none 0 := by
  refine ⟨k, h0, fun j hj hn => ?_, hdk.ext e25, hbj2, hbd, hc5, Vec.nil _ 1, fun j hj => (by obtain ⟨a, ha, _⟩ := hj; cases ha)⟩
  cases e : H2 j with
  | none => exact absurd e hn
  | some o => exact e25 j o e
set_option maxHeartbeats 1000000 in
theorem wild_c {H : Heap} {p : OA} {n c : Nat} {xs : List Int} {Q : QT} {E : ET} (h : Ints H p n xs)
    (hk : ∀ H' q c' J, Ext H H' → Jbs H' q J → J.length ≤ 6 → Two J → Q (.slice q J.length c') H') : Does Pr 7 #[.slice p n c] H Q E := by
  refine l07_wild_fn _ _ _ Q E H ?_
  unfold l07_wild l07_wild_43
  refine New_c h fun d H1 hd => ⟨_, rfl, ?_⟩
  unfold l07_wild_40 l07_wild_36 l07_wild_33
  refine ⟨fun x4 l4 c4 x5 H' => ∃ (R : List Jr) (i : Nat), x5 = (i : Nat) ∧ WI H H' d xs x4 l4 c4 i R, fun _ _ _ x _ => ((6 : Int) - x).toNat,
    ⟨[], 0, rfl, 0, H, rfl, by simp, by omega, Vec.nil _ 15, hd, Ext.refl _, hd.1, hd.2.1, fun j hj => (by obtain ⟨a, ha, _⟩ := hj; cases ha), by simp⟩, ?_⟩
  rintro x4 l4 c4 x5 H2 ⟨R, i, rfl, k, B, rfl, hRi, hi6, hv, hdk, heB, hB2, hBd, hf, hel⟩
  have fin : l07_wild_1 Q E x4 R.length c4 H2 := by
    unfold l07_wild_1
    have hJ : (R.map (·.1)).length = R.length := by simp
    have := hk H2 x4 c4 (R.map (·.1)) (heB.trans hB2) (fun j x hx => by
      rw [List.getElem?_map] at hx
      cases hr : R[j]? with
      | none => rw [hr] at hx; cases hx
      | some r =>
        rw [hr] at hx; cases hx
        have hmem : r ∈ R := List.mem_iff_getElem?.2 ⟨j, hr⟩
        have hjl := (List.getElem?_eq_some_iff.1 hr).1
        obtain ⟨v1, v2, v3⟩ := id hv
        cases x4 with
        | none => simp only [] at v3; omega
        | some a =>
          have hrd : H2.rd a 0 (jflat R) := hv.rdS
          have h2 := jflat_rd R 0 j r hrd hr
          exact ⟨a, r.2.1, r.2.2, rfl, rd_sh _ a (j * 15) 0 (by rw [Nat.zero_add] at h2; exact h2), rdS_ext hB2 (hel r hmem).1⟩) (by omega) (fun j => by
      rw [List.getD_eq_getElem?_getD, List.getElem?_map]
      cases hr : R[j]? with
      | none => simp; exact Nat.zero_le _
      | some r => exact (hel r (List.mem_iff_getElem?.2 ⟨j, hr⟩)).2)
    rw [hJ] at this
    exact this
  unfold l07_wild_29
  refine sel_dec (fun hlt => ?_) (fun hge => ?_)
  · refine Left_c hdk ⟨_, rfl, ?_⟩
    unfold l07_wild_27
    refine sel_mk (fun _ => ?_) (fun _ => fin)
    have hd2 : H2 d ≠ none := by obtain ⟨_, _, _, p', n', c', t, _, g5⟩ := hdk; rw [g5]; simp
    unfold l07_wild_22
    obtain ⟨b, hb⟩ := byte_of (IntKind.wrap .i64 (97 + (i : Int)))
    rw [hb]
    refine nw_ext fun b3 H3 hb3 he3 hc3 => ?_
    refine ⟨[b], rfl, rd_at hc3 _ 0 0 (fun j hj => by simp at hj; subst hj; rfl), ?_⟩
    refine nw_ext fun bj H4 hbj he4 hc4 => ?_
    refine wr_new hc4 (by simp) rfl (c' := (jcells ⟨[b].toArray⟩ none 0 0).toArray) (over_all rfl) fun H5 hc5 hb5 => ?_
    have hbj2 : H2 bj = none := he3.free hbj
    have hbd : bj ≠ d := fun e => hd2 (by rw [← e]; exact hbj2)
    have e25 : Ext H2 H5 := ext_but (he3.trans he4) hbj2 hb5
    have hJ5 : JI H H2 H5 d xs bj ⟨[b].toArray⟩ [] none 0 := JI.start (heB.trans hB2) e25 hdk hbj2 hbd hc5
    clear hc3 hc4 hb5 hc5
    have after : ∀ (nm : ByteArray) (H6 : Heap), JI H H2 H6 d xs bj nm [] none 0 → l07_wild_15 (fun x4' l4' c4' x5' H1 => (∃ (R : List Jr) (i : Nat), x5' = (i : Nat) ∧ WI H H1 d xs x4' l4' c4' i R) ∧ ((6 : Int) - x5').toNat < ((6 : Int) - (i : Nat)).toNat) Q E (some ⟨d, 0, none⟩) x4 R.length c4 i (some ⟨bj, 0, none⟩) H6 := by
      intro nm H6 hJ6
      unfold l07_wild_15
      refine hJ6.next (b := 3) (by decide) fun H7 k7 hJ7 _ => ⟨_, rfl, ?_⟩
      have hb7 := drawOf_bounds (xs := xs) (k := k7) (n := 3) (by omega) (by omega)
      have e3 : (3 : Int) = ((3 : Nat) : Int) := rfl
      rw [e3]
      generalize drawOf xs k7 ((3 : Nat) : Int) = r at hb7
      unfold l07_wild_12
      refine ⟨fun x7 H' => ∃ (nds : List ByteArray) (q : OA) (c : Nat) (m : Nat), x7 = (m : Nat) ∧ nds.length + m ≤ 2 ∧ JI H H2 H' d xs bj nm nds q c, fun x _ => x.toNat, ⟨[], none, 0, r.toNat, by omega, by simp; omega, hJ7⟩, ?_⟩
      rintro x7 H8 ⟨nds, q, c8, m, rfl, hm, hJ8⟩
      unfold l07_wild_9
      refine sel_dec (fun hpos => ?_) (fun hend => ?_)
      · unfold l07_wild_7
        refine ⟨fun z => z ≠ d, ?_⟩
        simp only [ptr_some, add_at]
        refine ⟨hbd, ?_⟩
        obtain ⟨k8, g0, g1, g2, g3, g4, g5, g6, g7⟩ := id hJ8
        refine ldSl_at g5 rfl ?_
        refine hJ8.next (b := 8) (by decide) fun H9 k9 hJ9 hf9 => ⟨_, rfl, fun z hz _ => hf9 z hz, fun _ _ _ => trivial, ?_⟩
        obtain ⟨b9, hb9⟩ := byte_of (IntKind.wrap .i64 (97 + drawOf xs k9 8))
        rw [hb9]
        refine nw_ext fun ba HA hba heA hcA => ?_
        refine ⟨[b9], rfl, rd_at hcA _ 0 0 (fun j hj => by simp at hj; subst hj; rfl), fun _ _ _ => trivial, ?_⟩
        refine nw_ext fun bb HB hbb heBB hcB => ?_
        have hJB := (hJ9.ext heA hd2).ext heBB hd2
        obtain ⟨kB, y0, y1, y2, y3, y4, y5, y6, y7⟩ := hJB
        refine app_one (sz := 1) (ws := [.string ⟨[b9].toArray⟩]) sl31 y6 hcB rfl rfl (by omega) (by omega) fun pC cC HC hvC hsC hbC => ?_
        have hyd : HB d ≠ none := by obtain ⟨_, _, _, p', n', c', t, _, g5⟩ := y2; rw [g5]; simp
        have hybj : HB bj ≠ none := by rw [y5]; simp
        have hcj : HC bj = some (.cells (jcells nm q nds.length c8).toArray 36 (0, 0)) := by rw [hsC bj (fun hb => (y7 bj hb).2.1 rfl) hybj]; exact y5
        refine wr_new hcj (by show 3 + 1 ≤ 15; omega) rfl (c' := (jcells nm pC (nds.length + 1) cC).toArray) rfl fun HD hcD hbD => ?_
        have hw : IntKind.wrap .i64 ((m : Int) - 1) = ((m - 1 : Nat) : Int) := by rw [IntWalk.i64_in _ (by omega)]; omega
        rw [hw]
        refine ⟨⟨nds ++ [⟨[b9].toArray⟩], pC, cC, m - 1, rfl, by simp; omega, kB, y0, fun j hj hn => ?_, ?_, y3, y4, by rw [List.length_append]; exact hcD, ?_, fun j hj => ?_⟩, by omega⟩
        · have hjb : j ≠ bj := fun e => hn (e ▸ y3)
          rw [hbD j hjb, hsC j (fun hb => hn (y7 j hb).1) (by rw [y1 j hj hn]; exact hn)]
          exact y1 j hj hn
        · have hHC : Deck H HC d xs kB := by
            obtain ⟨z1, z2, z3, p', n', c', t, z4, z5⟩ := y2
            refine ⟨fun j o hj => ?_, z2, z3, p', n', c', t, z4, by rw [hsC d (fun hb => (y7 d hb).2.2 rfl) hyd]; exact z5⟩
            have := z1 j o hj
            rw [hsC j (fun hb => by have := (y7 j hb).1; rw [y0 j o hj] at this; cases this) (by rw [this]; simp)]
            exact this
          exact hHC.keep (y0.free y3) y4 hbD
        · rw [List.length_append, List.length_singleton]
          have : Vec HD 1 pC (nds.length + 1) cC (nds.map Value.string ++ [.string ⟨[b9].toArray⟩]) := hvC.keep fun j hj _ => hbD j fun e => by
            rcases hbC j hj with hb | hb
            · exact (y7 j hb).2.1 e
            · rw [e] at hb; exact hybj hb
          simpa using this
        · rcases hbC j hj with hb | hb
          · exact y7 j hb
          · refine ⟨?_, fun e => by rw [e] at hb; exact hybj hb, fun e => by rw [e] at hb; exact hyd hb⟩
            cases e : H2 j with
            | none => rfl
            | some o =>
              exfalso
              have hjd : j ≠ d := fun e' => by rw [e'] at hb; exact hyd hb
              have := y1 j hjd (by rw [e]; simp)
              rw [hb, e] at this; cases this
      · obtain ⟨kB, y0, y1, y2, y3, y4, y5, y6, y7⟩ := hJ8
        unfold l07_wild_5
        simp only [ptr_some]
        refine ⟨nm, ⟨#[]⟩, none, 0, 0, q, nds.length, c8, false, ⟨#[]⟩, 0, 0, 0, 0, 0, 0, none, 0, 0, 0, 0, ?_, ?_⟩
        · exact rd_at y5 _ 0 0 (fun j hj => by rw [Nat.add_zero, Nat.zero_add, List.getElem?_toArray]; rfl)
        refine nw_ext fun b9 H9 hb9 he9 hc9 => ?_
        have hv8 : Vec H8 15 x4 R.length c4 (jflat R) := hv.keep fun j hj hn => y1 j (hf j hj).2 hn
        refine app_one (sz := 15) (ws := jcells nm q nds.length c8) sl24 (hv8.ext he9) hc9 rfl rfl (by omega) (by omega) fun pA cA HA hvA hsA hbA => ?_
        unfold l07_wild_3
        have hw : IntKind.wrap .i64 ((i : Int) + 1) = ((i + 1 : Nat) : Int) := wrap_succ (by omega)
        rw [hw]
        have hyd : H9 d ≠ none := fun e => by
          have := he9.free e
          obtain ⟨_, _, _, p', n', c', t, _, g5⟩ := y2
          rw [g5] at this; cases this
        have hxd : ∀ j, blk pA j → B j = none ∧ j ≠ d := fun j hj => by
          rcases hbA j hj with hb | hb
          · exact hf j hb
          · have hjd : j ≠ d := fun e => by rw [e] at hb; exact hyd hb
            refine ⟨?_, hjd⟩
            cases e : B j with
            | none => rfl
            | some o =>
              exfalso
              have h2 := hB2 j o e
              have := y1 j hjd (by rw [h2]; simp)
              rw [h2] at this
              have := he9 j o this
              rw [hb] at this; cases this
        have hDA : Deck H HA d xs kB := by
          have y2' := y2.ext he9
          obtain ⟨z1, z2, z3, p', n', c', t, z4, z5⟩ := y2'
          refine ⟨fun j o hj => ?_, z2, z3, p', n', c', t, z4, by rw [hsA d (fun hb => (hf d hb).2 rfl) hyd]; exact z5⟩
          have := z1 j o hj
          rw [hsA j (fun hb => by have := (hf j hb).1; rw [heB j o hj] at this; cases this) (by rw [this]; simp)]
          exact this
        have hBA : Ext B (butP HA fun j => j = d ∨ blk pA j) := fun j o hj => by
          have hjd : j ≠ d := fun e => by rw [e, hBd] at hj; cases hj
          rw [butP_out (fun h => h.elim hjd fun hb => by rw [(hxd j hb).1] at hj; cases hj)]
          have h2 := hB2 j o hj
          have h8 := y1 j hjd (by rw [h2]; simp)
          rw [h2] at h8
          have h9 := he9 j o h8
          rw [hsA j (fun hb => by rw [(hf j hb).1] at hj; cases hj) (by rw [h9]; simp)]
          exact h9
        refine ⟨⟨R ++ [((nm, nds), q, c8)], i + 1, rfl, kB, butP HA fun j => j = d ∨ blk pA j, by simp, by simp; omega, by omega, ?_, hDA, heB.trans hBA, butP_ext _ _, butP_in (.inl rfl), fun j hj => ⟨butP_in (.inr hj), (hxd j hj).2⟩, fun r hr => ?_⟩, by omega⟩
        · have e : jflat (R ++ [((nm, nds), q, c8)]) = jflat R ++ jcells nm q nds.length c8 := by simp [jflat, Jr.cells]
          rw [e, List.length_append]; exact hvA
        · rcases List.mem_append.1 hr with hr | hr
          · exact ⟨rdS_ext hBA (hel r hr).1, (hel r hr).2⟩
          · rw [List.mem_singleton] at hr
            subst hr
            refine ⟨?_, by show nds.length ≤ 2; omega⟩
            have hvq : Vec HA 1 q nds.length c8 (nds.map Value.string) := (y6.ext he9).keep fun j hj hn => hsA j (fun hb => by
              have h1 := (y7 j hj).1
              exact hv.known hb h1) hn
            have hvq2 : Vec (butP HA fun j => j = d ∨ blk pA j) 1 q nds.length c8 (nds.map Value.string) := hvq.keep fun j hj _ => butP_out fun h => h.elim (y7 j hj).2.2 fun hb => by
              rcases hbA j hb with hb | hb
              · exact hv.known hb (y7 j hj).1
              · exact y6.known hj (he9.free hb)
            exact hvq2.rdS
    unfold l07_wild_19
    refine hJ5.next (b := 8) (by decide) fun H6 k6 hJ6 _ => ⟨_, rfl, ?_⟩
    refine sel_beq (fun _ => ?_) (fun _ => after _ H6 hJ6)
    obtain ⟨k8, g0, g1, g2, g3, g4, g5, g6, g7⟩ := id hJ6
    simp only [ptr_some]
    refine wr_new g5 (by show 0 + 1 ≤ 15; omega) rfl (c' := (jcells ⟨[97].toArray⟩ none 0 0).toArray) rfl fun H7 hc7 hb7 => ?_
    exact after _ H7 (hJ6.name hc7 hb7)
  · unfold l07_wild_27
    exact sel_ff fin
end Go.Proofs.Ytombjgnlpdnclaa

/- Contracts of package jobmuxlaw07: sane. -/
namespace Go.Proofs.Ytombjgnlpdnclaa
open Go.V
attribute [local irreducible] app
set_option linter.constructorNameAsVariable false
set_option linter.unusedVariables false

def J1 : List Jb := [(⟨[97].toArray⟩, [⟨[98].toArray⟩]), (⟨[98].toArray⟩, [])]
def J2 : List Jb := [(⟨[97].toArray⟩, [⟨[98].toArray⟩]), (⟨[98].toArray⟩, [⟨[97].toArray⟩])]
theorem ns1 : Ns J1 = [[1], []] := by decide +kernel
theorem ns2 : Ns J2 = [[1], [0]] := by decide +kernel
theorem two1 : Two J1 := fun i => by
  match i with
  | 0 => exact Nat.le_succ 1
  | 1 => exact Nat.zero_le 2
  | i + 2 => exact Nat.zero_le 2
theorem two2 : Two J2 := fun i => by
  match i with
  | 0 => exact Nat.le_succ 1
  | 1 => exact Nat.le_succ 1
  | i + 2 => exact Nat.zero_le 2
theorem ord1 {o : List Nat} {T : List Bool} (h : Ord [[1], []] o T) : o = [1, 0] := by
  have hlt := fun i (hi : i ∈ o) => h.1.lt hi
  have hf := h.1.2.2.2
  have hend := h.2
  match o, hlt, hf, hend, h.1.len, h.1.2.2.1 with
  | [], _, _, hend, _, _ => exact absurd ⟨by simp, by simp⟩ (hend 1 (by simp))
  | [a], hlt, hf, hend, _, _ =>
    have ha : a < 2 := hlt a (by simp)
    have h0 := (hf 0 a rfl).2.1
    match a, ha with
    | 0, _ => exact absurd (h0 1 (by simp)) (by simp)
    | 1, _ => exact absurd ⟨by simp, by simp⟩ (hend 0 (by simp))
  | [a, b], hlt, hf, hend, _, hnd =>
    have ha : a < 2 := hlt a (by simp)
    have hb : b < 2 := hlt b (by simp)
    have h0 := (hf 0 a rfl).2.1
    match a, ha, b, hb with
    | 0, _, _, _ => exact absurd (h0 1 (by simp)) (by simp)
    | 1, _, 0, _ => rfl
    | 1, _, 1, _ => simp at hnd
  | _ :: _ :: _ :: _, _, _, _, hl, _ => simp at hl
theorem ord2 {o : List Nat} {T : List Bool} (h : Ord [[1], [0]] o T) : o = [] := by
  have hf := h.1.2.2.2
  match o, hf with
  | [], _ => rfl
  | a :: r, hf =>
    obtain ⟨h1, h0, _⟩ := hf 0 a rfl
    match a, h1 with
    | 0, _ => exact absurd (h0 1 (by simp)) (by simp)
    | 1, _ => exact absurd (h0 0 (by simp)) (by simp)
theorem cyc2 {w : List Nat} (h : CycP [[1], [0]] w) (hn : w ≠ []) : w.length = 2 := by
  match w, hn, h with
  | [a], _, h =>
    obtain ⟨h1, _, x, h3, h4⟩ := h 0 a rfl
    simp at h3; subst h3
    match a, h1 with
    | 0, _ => simp at h4
    | 1, _ => simp at h4
  | [a, b], _, _ => rfl
  | a :: b :: c :: r, _, h =>
    have a1 := (h 0 a rfl).1
    obtain ⟨b1, b2, _⟩ := h 1 b rfl
    obtain ⟨c1, c2, _⟩ := h 2 c rfl
    simp at a1 b1 c1 b2 c2
    omega
set_option maxHeartbeats 1000000 in
theorem sane7_c {H : Heap} {Q : QT} {E : ET} (hk : ∀ H', Ext H H' → Q (.bool true) H') : Does Pr 6 #[] H Q E := by
  refine l07_sane_fn Q E H ?_
  unfold l07_sane
  refine nw_ext fun b1 H1 hb1 he1 hc1 => ?_
  refine nw_ext fun b3 H3 hb3 he3 hc3 => ?_
  have hne : b1 ≠ b3 := fun e => by rw [e] at hc1; rw [hc1] at hb3; cases hb3
  have hJ1 : Jbs H3 (some ⟨b3, 0, none⟩) J1 := fun i x hx => by
    match i, hx with
    | 0, hx =>
      cases hx
      refine ⟨_, some ⟨b1, 0, none⟩, 1, rfl, rd_sh _ _ 0 0 (rd_at hc3 _ 0 0 fun j hj => ?_), ?_⟩
      · have hj : j < 15 := hj
        match j, hj with
        | 0, _ => rfl | 1, _ => rfl | 2, _ => rfl | 3, _ => rfl | 4, _ => rfl | 5, _ => rfl | 6, _ => rfl | 7, _ => rfl | 8, _ => rfl | 9, _ => rfl | 10, _ => rfl | 11, _ => rfl | 12, _ => rfl | 13, _ => rfl | 14, _ => rfl
      · exact rd_at (he3 _ _ hc1) _ 0 0 fun j hj => by simp at hj; subst hj; rfl
    | 1, hx =>
      cases hx
      refine ⟨_, none, 0, rfl, rd_sh _ _ 15 0 (rd_at hc3 _ 0 15 fun j hj => ?_), rfl⟩
      have hj : j < 15 := hj
      match j, hj with
      | 0, _ => rfl | 1, _ => rfl | 2, _ => rfl | 3, _ => rfl | 4, _ => rfl | 5, _ => rfl | 6, _ => rfl | 7, _ => rfl | 8, _ => rfl | 9, _ => rfl | 10, _ => rfl | 11, _ => rfl | 12, _ => rfl | 13, _ => rfl | 14, _ => rfl
    | i + 2, hx => simp [J1] at hx
  refine Order_c hJ1 rfl (by omega) two1 fun H4 q cc o T he4 hO hv hf => ⟨_, _, _, rfl, ?_⟩
  rw [ns1] at hO
  obtain rfl := ord1 hO
  refine nw_ext fun b5 H5 hb5 he5 hc5 => ⟨⟨by omega, by omega⟩, ?_⟩
  have h35 : Ext H3 H5 := he4.trans he5
  have hc35 := h35 _ _ hc3
  have hne5 : b5 ≠ b3 := fun e => by rw [e] at hb5; rw [he4 _ _ hc3] at hb5; cases hb5
  refine wr_new hc35 (by simp) rfl rfl fun H6 hc6 hb6 => ?_
  have hb3H : H b3 = none := he1.free hb3
  have hH6 : Ext H H6 := ext_but ((he1.trans he3).trans h35) hb3H hb6
  have hJ2 : Jbs H6 (some ⟨b3, 0, none⟩) J2 := fun i x hx => by
    match i, hx with
    | 0, hx =>
      cases hx
      refine ⟨_, some ⟨b1, 0, none⟩, 1, rfl, rd_sh _ _ 0 0 (rd_at hc6 _ 0 0 fun j hj => ?_), ?_⟩
      · have hj : j < 15 := hj
        rw [over_get _ _ _ _ (by simp), if_neg (by omega)]
        match j, hj with
        | 0, _ => rfl | 1, _ => rfl | 2, _ => rfl | 3, _ => rfl | 4, _ => rfl | 5, _ => rfl | 6, _ => rfl | 7, _ => rfl | 8, _ => rfl | 9, _ => rfl | 10, _ => rfl | 11, _ => rfl | 12, _ => rfl | 13, _ => rfl | 14, _ => rfl
      · exact rd_at (by rw [hb6 b1 hne]; exact h35 _ _ (he3 _ _ hc1)) _ 0 0 fun j hj => by simp at hj; subst hj; rfl
    | 1, hx =>
      cases hx
      refine ⟨_, some ⟨b5, 0, none⟩, 1, rfl, rd_sh _ _ 15 0 (rd_at hc6 _ 0 15 fun j hj => ?_), ?_⟩
      · have hj : j < 15 := hj
        rw [over_get _ _ _ _ (by simp)]
        match j, hj with
        | 0, _ => rfl | 1, _ => rfl | 2, _ => rfl | 3, _ => rfl | 4, _ => rfl | 5, _ => rfl | 6, _ => rfl | 7, _ => rfl | 8, _ => rfl | 9, _ => rfl | 10, _ => rfl | 11, _ => rfl | 12, _ => rfl | 13, _ => rfl | 14, _ => rfl
      · exact rd_at (by rw [hb6 b5 hne5]; exact hc5) _ 0 0 fun j hj => by simp at hj; subst hj; rfl
    | i + 2, hx => simp [J2] at hx
  have hv6 : NL H6 q 2 cc [1, 0] := Vec.nl ((hv.ext he5).keep fun j hj _ => hb6 j fun e => by
    have := hf j hj
    rw [e, hc3] at this; cases this)
  have g0 := hv6.get (i := 0) (m := 1) rfl (K := fun n14 => sel (n14 == 1)
    ((0 ≤ (1 : Int) ∧ (1 : Int) < ((2 : Nat) : Int)) ∧ ptr q fun q15 =>
     ldI .i64 (Addr.add q15 1) H6 fun n16 =>
     sel (n16 == 0)
     (Does Pr 8 #[(.slice (some ⟨b3, 0, none⟩) 2 2)] H6 (fun v17 H18 =>
     ∃ (p19 : OA) (l20 c21 : Nat), v17 = (.slice p19 l20 c21) ∧ sel (((l20 : Int) : Int) == 0)
     (Does Pr 9 #[(.slice (some ⟨b3, 0, none⟩) 2 2)] H18 (fun v22 H23 =>
     ∃ (p24 : OA) (l25 c26 : Nat), v22 = (.slice p24 l25 c26) ∧ Q (.bool (((l25 : Int) : Int) == 2)) H23) E)
     (Q (.bool false) H18)) E)
     (Q (.bool false) H6))
    (Q (.bool false) H6)) ?_
  · refine sel_tt ?_
    refine ⟨by simp, ?_⟩
    have hz := g0.2
    cases q with
    | none => exact hz
    | some a =>
      simp only [ptr_some] at hz ⊢
      have ea : a.add ((((0 : Nat) : Int)).toNat * 1) = a := by simp [Addr.add]
      rw [ea] at hz
      exact hz
  · refine sel_tt ?_
    refine ⟨⟨by omega, by omega⟩, ?_⟩
    have g1 := (hv6.get (i := 1) (m := 0) rfl (K := fun n16 => sel (n16 == 0)
     (Does Pr 8 #[(.slice (some ⟨b3, 0, none⟩) 2 2)] H6 (fun v17 H18 =>
     ∃ (p19 : OA) (l20 c21 : Nat), v17 = (.slice p19 l20 c21) ∧ sel (((l20 : Int) : Int) == 0)
     (Does Pr 9 #[(.slice (some ⟨b3, 0, none⟩) 2 2)] H18 (fun v22 H23 =>
     ∃ (p24 : OA) (l25 c26 : Nat), v22 = (.slice p24 l25 c26) ∧ Q (.bool (((l25 : Int) : Int) == 2)) H23) E)
     (Q (.bool false) H18)) E)
     (Q (.bool false) H6)) ?_).2
    · exact g1
    · refine sel_tt ?_
      refine Order_c hJ2 rfl (by omega) two2 fun H7 q7 c7 o7 T7 he7 hO7 hv7 hf7 => ⟨_, _, _, rfl, ?_⟩
      rw [ns2] at hO7
      obtain rfl := ord2 hO7
      refine sel_tt ?_
      refine Cycle_c (hJ2.ext he7) rfl (by omega) two2 fun H8 q8 m8 c8 w o8 T8 he8 hO8 hm hcy hn => ⟨_, _, _, rfl, ?_⟩
      rw [ns2] at hO8 hcy
      obtain rfl := ord2 hO8
      have hm0 : m8 ≠ 0 := fun e => by have := hm.1 e 0 (by omega); simp at this
      have hw := cyc2 hcy fun e => by have := hn.1; rw [e] at this; exact hm0 this.symm
      have : m8 = 2 := by rw [← hn.1, hw]
      subst this
      exact hk H8 ((hH6.trans he7).trans he8)
end Go.Proofs.Ytombjgnlpdnclaa

/- Contracts of package graph: Dependents: its queue, its plain law. -/
namespace Go.Proofs.Ytombjgnlpdnclaa
open Go.V
set_option linter.constructorNameAsVariable false
set_option linter.unusedVariables false

def QV (H : Heap) (p : OA) (l c : Nat) (L : List Nat) : Prop :=
  L.length = l ∧ l ≤ c ∧ ∃ b o cs t, p = some ⟨b, o, none⟩ ∧ H b = some (.cells cs t (0, 0)) ∧ o + c ≤ cs.size ∧ ∀ j, j < l → cs[o + j]? = (L.map natV)[j]?
theorem QV.keep {H H' : Heap} {p : OA} {l c : Nat} {L : List Nat} (h : QV H p l c L) (hk : ∀ i, blk p i → H' i = H i) : QV H' p l c L := by
  obtain ⟨h1, h2, b, o, cs, t, rfl, h3, h4, h5⟩ := h
  exact ⟨h1, h2, b, o, cs, t, rfl, by rw [hk b ⟨_, rfl, rfl⟩]; exact h3, h4, h5⟩
theorem QV.known {H : Heap} {p : OA} {l c : Nat} {L : List Nat} (h : QV H p l c L) {i : Nat} (hi : blk p i) : H i ≠ none := by
  obtain ⟨h1, h2, b, o, cs, t, rfl, h3, h4, h5⟩ := h
  obtain ⟨a, ha, rfl⟩ := hi
  cases ha
  rw [h3]; simp
theorem QV.ext {H H' : Heap} {p : OA} {l c : Nat} {L : List Nat} (h : QV H p l c L) (he : Ext H H') : QV H' p l c L := h.keep fun i hi => by
  cases e : H i with
  | none => exact absurd e (h.known hi)
  | some o => exact he i o e
theorem app_q {p : OA} {l c i m k : Nat} {L : List Nat} {t' : TypeId} {fr : Nat × Nat} {H : Heap} {K : OA → Nat → Nat → Heap → Prop}
    (hv : QV H p l c L) (hx : H i = some (.cells #[natV k] t' fr)) (hcap : l < 1048576)
    (hk : ∀ p' c' H', QV H' p' (l + 1) c' (L ++ [k]) → (∀ j, ¬ blk p j → H j ≠ none → H' j = H j) → (∀ j, blk p' j → blk p j ∨ H j = none) → K p' (l + 1) c' H') :
    app Pr 22 p l c (.slice (some ⟨i, 0, none⟩) 1 m) H K := by
  obtain ⟨e, z1, z, h1, h2, h3, h4, h5, h6, h7⟩ := (sl22).has
  have hx1 : ∀ K : Nat → List Value → Prop, K 1 [natV k] → srcOf 1 (.slice (some ⟨i, 0, none⟩) 1 m) H K := fun K hK => ⟨[natV k], by simp, rd_at hx _ 0 0 (fun j hj => by simp), hK⟩
  unfold app tyD
  rw [h1]
  simp only [tyI, tyZ, h2, h3]
  have hb : Nat.beq z.cells.size z1.size = true := by rw [h4]; exact Nat.beq_refl _
  rw [hb, h5]
  simp only []
  obtain ⟨v1, v2, b, o, cs, t, rfl, w1, w2, w3⟩ := hv
  have hvs : (L.map natV).length = l := by simpa using v1
  refine hx1 _ ⟨fun hle => ?_, fun hlt => ⟨?_, h6, L.map natV, by omega, rd_at w1 _ o 0 (fun j hj => by rw [Nat.add_zero]; exact w3 j (by omega)), fun c' hc' id hid => ?_⟩⟩
  · simp only [wrS, ptr_some, add_at, Nat.mul_one]
    refine wr_at w1 (by simp; omega) rfl ?_
    refine hk _ _ _ ⟨by simp [v1], hle, b, o, _, t, rfl, Heap.set_self _ _ _, by rw [over_size]; exact w2, fun j hj => ?_⟩ (fun j hj _ => Heap.set_ne _ _ fun e => hj ⟨_, rfl, e⟩) (fun j h => .inl h)
    rw [over_get _ _ _ _ (by simp; omega), List.map_append]
    by_cases hjl : j < l
    · rw [if_neg (by simp; omega), List.getElem?_append_left (by omega)]; exact w3 j hjl
    · have : j = l := by omega
      subst this
      rw [if_pos (by simp), List.getElem?_append_right (by omega), Nat.sub_self, hvs, Nat.sub_self]
      rfl
  · refine growslice_fits hlt ?_
    have := Nat.mul_le_mul (show l + 1 ≤ 1048576 by omega) h7
    omega
  · refine hk _ _ _ ⟨by simp [v1], hc', id, 0, _, e, rfl, Heap.set_self _ _ _, ?_, fun j hj => ?_⟩ (fun j _ hj => Heap.set_ne _ _ fun e => hj (e ▸ hid)) (fun j h => by obtain ⟨a, ha, rfl⟩ := h; cases ha; exact .inr hid)
    · have hl : ∀ (n : Nat) (zs : List Value), (rep n zs).length = n * zs.length := fun n zs => by
        induction n with
        | zero => simp [rep]
        | succ n ih => simp [rep, ih, Nat.add_mul]; omega
      simp only [List.size_toArray, List.length_append, hl, hvs, Array.length_toList, h4, h5, List.length_cons, List.length_nil]
      omega
    · rw [Nat.zero_add, List.getElem?_toArray, List.getElem?_append_left (by simp [v1]; omega), List.map_append]
      rfl
theorem QV.head {H : Heap} {p : OA} {l c x : Nat} {r : List Nat} {K : Int → Prop} (h : QV H p l c (x :: r)) (hK : K (x : Nat)) : (0 ≤ (0 : Int) ∧ (0 : Int) < ((l : Nat) : Int)) ∧ ptr p fun q => ldI .i64 q H K := by
  obtain ⟨h1, h2, b, o, cs, t, rfl, h3, h4, h5⟩ := h
  simp at h1
  refine ⟨⟨by omega, by omega⟩, ?_⟩
  simp only [ptr_some]
  have := h5 0 (by omega)
  rw [Nat.add_zero] at this
  exact ldI_at h3 this hK
theorem QV.tail {H : Heap} {p : OA} {l c x : Nat} {r : List Nat} (h : QV H p l c (x :: r)) : QV H (if c = 1 then p else Option.map (fun a => Addr.add a (1 * 1)) p) (l - 1) (c - 1) r ∧ ∀ j, blk (if c = 1 then p else Option.map (fun a => Addr.add a (1 * 1)) p) j → blk p j := by
  obtain ⟨h1, h2, b, o, cs, t, rfl, h3, h4, h5⟩ := h
  simp at h1
  split
  · refine ⟨⟨by omega, by omega, b, o, cs, t, rfl, h3, by omega, fun j hj => by omega⟩, fun j h => h⟩
  · refine ⟨⟨by omega, by omega, b, o + 1, cs, t, by simp [Addr.add], h3, by omega, fun j hj => ?_⟩, fun j h => ?_⟩
    · have := h5 (j + 1) (by omega)
      rw [show o + 1 + j = o + (j + 1) by omega, this]
      rfl
    · obtain ⟨a, ha, rfl⟩ := h
      simp at ha
      exact ⟨_, rfl, by rw [← ha]; simp [Addr.add]⟩
/-! ### How many are not found -/
def cf : List Bool → Nat
  | [] => 0
  | b :: l => (if b = true then 0 else 1) + cf l
theorem cf_set : ∀ (F : List Bool) (k : Nat), F[k]? = some false → cf (F.set k true) + 1 = cf F
  | [], k, h => by simp at h
  | b :: F, 0, h => by simp at h; subst h; simp [cf]; omega
  | b :: F, k + 1, h => by
    have := cf_set F k (by simpa using h)
    simp only [List.set_cons_succ, cf]
    omega
theorem cf_le : ∀ F : List Bool, cf F ≤ F.length
  | [] => Nat.le_refl _
  | b :: F => by have := cf_le F; simp only [cf, List.length_cons]; split <;> omega
def bOf : Option Value → Bool
  | some (.bool b) => b
  | _ => true
def offs (b n : Nat) (H : Heap) : Nat := match H b with
  | some (Obj.cells c _ _) => cf ((List.range n).map fun j => bOf c[j]?)
  | _ => 0
theorem offs_eq {H : Heap} {b n c : Nat} {F : List Bool} (h : Vec H 1 (some ⟨b, 0, none⟩) n c (F.map Value.bool)) : offs b n H = cf F := by
  obtain ⟨v1, _, b', cs, t, e, hb, _, hget⟩ := h
  cases e
  unfold offs
  simp only [hb]
  congr 1
  have hl : F.length = n := by simpa using v1
  apply List.ext_getElem?
  intro i
  rw [List.getElem?_map]
  by_cases hi : i < n
  · rw [List.getElem?_range hi]
    simp only [Option.map_some]
    rw [hget i (by omega), List.getElem?_map, List.getElem?_eq_getElem (by omega : i < F.length)]
    rfl
  · rw [List.getElem?_eq_none (by simp; omega), List.getElem?_eq_none (by omega)]; rfl
/-! ### The plain law -/
def Cls (N : List (List Nat)) (i : Nat) (S : Nat → Prop) : Prop := ∀ k m, m ∈ N.getD k [] → (m = i ∨ S m) → S k
def fd (F : List Bool) (x : Nat) : Prop := F.getD x false = true
def DI (N : List (List Nat)) (i : Nat) (F : List Bool) (q : List Nat) (P : Nat → Prop) : Prop :=
  F.length = N.length ∧ (∀ x, (P x ∨ x ∈ q) ↔ (x = i ∨ fd F x)) ∧ (∀ x, P x → ∀ k, k < N.length → x ∈ N.getD k [] → fd F k) ∧
  (∀ k, fd F k → k < N.length ∧ ∃ m ∈ N.getD k [], m = i ∨ fd F m) ∧ ∀ S, Cls N i S → ∀ k, fd F k → S k
theorem fd_set {F : List Bool} {k x : Nat} (hk : k < F.length) : fd (F.set k true) x ↔ fd F x ∨ x = k := by
  unfold fd
  rw [List.getD_eq_getElem?_getD, List.getElem?_set]
  by_cases e : k = x
  · subst e
    rw [if_pos rfl, if_pos hk]; simp
  · rw [if_neg e, ← List.getD_eq_getElem?_getD]
    exact ⟨.inl, fun h => h.elim id fun h => absurd h.symm e⟩
theorem DI.start (N : List (List Nat)) (i : Nat) : DI N i (List.replicate N.length false) [i] fun _ => False := by
  have hn : ∀ x, ¬ fd (List.replicate N.length false) x := fun x => by
    unfold fd
    rw [List.getD_eq_getElem?_getD, List.getElem?_replicate]
    split <;> simp
  exact ⟨by simp, fun x => by simp [hn], fun x h => h.elim, fun k h => absurd h (hn k), fun S _ k h => absurd h (hn k)⟩
theorem DI.add {N : List (List Nat)} {i k x : Nat} {F : List Bool} {q : List Nat} {P : Nat → Prop} (h : DI N i F q P) (hk : k < N.length) (hx : x ∈ q) (hm : x ∈ N.getD k []) : DI N i (F.set k true) (q ++ [k]) P := by
  obtain ⟨h1, h2, h3, h4, h5⟩ := h
  have hs := fun y => fd_set (F := F) (k := k) (x := y) (by omega)
  have hxi := (h2 x).1 (.inr hx)
  refine ⟨by rw [List.length_set]; exact h1, fun y => ?_, fun y hy j hj hn => (hs j).2 (.inl (h3 y hy j hj hn)), fun j hj => ?_, fun S hS j hj => ?_⟩
  · rw [hs, ← or_assoc, ← h2 y, List.mem_append, List.mem_singleton, or_assoc]
  · rcases (hs j).1 hj with hj | rfl
    · obtain ⟨g1, m, g2, g3⟩ := h4 j hj
      exact ⟨g1, m, g2, g3.imp id fun h => (hs m).2 (.inl h)⟩
    · exact ⟨hk, x, hm, hxi.imp id fun h => (hs x).2 (.inl h)⟩
  · rcases (hs j).1 hj with hj | rfl
    · exact h5 S hS j hj
    · exact hS _ x hm (hxi.imp id fun h => h5 S hS x h)
theorem DI.pop {N : List (List Nat)} {i x : Nat} {F : List Bool} {r : List Nat} {P : Nat → Prop} (h : DI N i F (x :: r) P) (hd : ∀ k, k < N.length → x ∈ N.getD k [] → fd F k) : DI N i F r fun y => P y ∨ y = x := by
  obtain ⟨h1, h2, h3, h4, h5⟩ := h
  refine ⟨h1, fun y => ?_, fun y hy k hk hn => ?_, h4, h5⟩
  · rw [← h2 y, List.mem_cons, or_assoc]
  · rcases hy with hy | rfl
    · exact h3 y hy k hk hn
    · exact hd k hk hn
def DepS (N : List (List Nat)) (i : Nat) (d : List Nat) : Prop :=
  (∀ k, k ∈ d ↔ k < N.length ∧ ∃ m ∈ N.getD k [], m = i ∨ m ∈ d) ∧ ∀ S, Cls N i S → ∀ k ∈ d, S k
theorem DI.done {N : List (List Nat)} {i : Nat} {F : List Bool} {P : Nat → Prop} (h : DI N i F [] P) : DepS N i ((List.range N.length).filter fun k => F.getD k false) := by
  obtain ⟨h1, h2, h3, h4, h5⟩ := h
  have hm : ∀ k, k ∈ (List.range N.length).filter (fun k => F.getD k false) ↔ fd F k := fun k => by
    rw [List.mem_filter, List.mem_range]
    exact ⟨fun h => h.2, fun h => ⟨(h4 k h).1, h⟩⟩
  refine ⟨fun k => ?_, fun S hS k hk => h5 S hS k ((hm k).1 hk)⟩
  rw [hm]
  constructor
  · intro h
    obtain ⟨g1, m, g2, g3⟩ := h4 k h
    exact ⟨g1, m, g2, g3.imp id (hm m).2⟩
  · rintro ⟨g1, m, g2, g3⟩
    exact h3 m ((h2 m).2 (g3.imp id (hm m).1) |>.resolve_right (by simp)) k g1 g2
theorem DepS.self {N : List (List Nat)} {i : Nat} {d o : List Nat} {T : List Bool} (h : DepS N i d) (hO : Ord N o T) (hall : ∀ j, j < N.length → j ∈ o) : i ∉ d := by
  intro hi
  have := h.2 (fun k => ∃ a b : Nat, a < b ∧ o[a]? = some i ∧ o[b]? = some k) (fun k m hm hor => ?_) i hi
  · obtain ⟨a, b, hab, ha, hb⟩ := this
    have := nodup_get hO.1.2.2.1 ha hb
    omega
  · by_cases hk : k < N.length
    · obtain ⟨b, hb, hb2⟩ := List.mem_iff_getElem.1 (hall k hk)
      have hbk : o[b]? = some k := by rw [List.getElem?_eq_getElem hb, hb2]
      obtain ⟨_, g2, _⟩ := hO.1.2.2.2 b k hbk
      obtain ⟨a, ha, ha2⟩ := List.mem_iff_getElem.1 (g2 m hm)
      rw [List.length_take] at ha
      rw [List.getElem_take] at ha2
      have ham : o[a]? = some m := by rw [List.getElem?_eq_getElem (by omega), ha2]
      rcases hor with rfl | ⟨a1, b1, h1, h2, h3⟩
      · exact ⟨a, b, by omega, ham, hbk⟩
      · have := nodup_get hO.1.2.2.1 h3 ham
        exact ⟨a1, b, by omega, h2, hbk⟩
    · rw [List.getD_eq_getElem?_getD, List.getElem?_eq_none (by omega)] at hm
      simp at hm
end Go.Proofs.Ytombjgnlpdnclaa

/- The statements GraphRight and GraphFirst: their contracts. -/
namespace Go.Proofs.Ytombjgnlpdnclaa
open Go.V
attribute [local irreducible] app
set_option linter.constructorNameAsVariable false
set_option linter.unusedVariables false

theorem NL.take {H : Heap} {p : OA} {n c k : Nat} {L : List Nat} (h : NL H p n c L) (hk : k ≤ n) : NL H (if c = 0 then p else Option.map (fun a => Addr.add a (0 * 1)) p) (k - 0) (c - 0) (L.take k) := by
  obtain ⟨h1, h2, h3⟩ := h
  have hp : (if c = 0 then p else Option.map (fun a => Addr.add a (0 * 1)) p) = p := by
    split
    · rfl
    · cases p with
      | none => rfl
      | some a => simp [Addr.add]
  rw [hp]
  have tk : ∀ (k : Nat) (a : Addr) (vs : List Value) (i : Nat), H.rd a i vs → H.rd a i (vs.take k) := fun k a => by
    induction k with
    | zero => intro vs i _; simp; trivial
    | succ k ih =>
      intro vs i h
      cases vs with
      | nil => trivial
      | cons v vs => exact ⟨h.1, ih vs (i + 1) h.2⟩
  refine ⟨by rw [List.length_take]; omega, by omega, ?_⟩
  rw [List.map_take]
  cases p with
  | none =>
    have : L.map natV = [] := h3
    rw [this]; simp; rfl
  | some a => exact tk k a _ 0 h3
section
variable {H : Heap} {p : OA} {n c : Nat} {xs : List Int} {Q : QT} {E : ET}
end
end Go.Proofs.Ytombjgnlpdnclaa

/- Contracts: Dependents; the statement GraphReaches. -/
namespace Go.Proofs.Ytombjgnlpdnclaa
open Go.V
attribute [local irreducible] app
set_option linter.constructorNameAsVariable false
set_option linter.unusedVariables false

def QS (H0 H' : Heap) (bF n : Nat) (F : List Bool) (x7 : OA) (l7 c7 : Nat) (q : List Nat) : Prop :=
  Ext H0 H' ∧ H0 bF = none ∧ Vec H' 1 (some ⟨bF, 0, none⟩) n n (F.map Value.bool) ∧ QV H' x7 l7 c7 q ∧ ∀ j, blk x7 j → H0 j = none ∧ j ≠ bF
section
variable {H : Heap} {p : OA} {n c : Nat} {J : List Jb} {Q : QT} {E : ET}
set_option maxHeartbeats 2000000 in
theorem Dependents_c {i : Nat} (h : Jbs H p J) (hl : J.length = n) (hn : n ≤ 1000) (h2 : Two J) (hi : i < n)
    (hk : ∀ H' q cc d, Ext H H' → DepS (Ns J) i d → d.length ≤ n → Vec H' 1 q d.length cc (d.map natV) → Q (.slice q d.length cc) H') : Does Pr 13 #[.slice p n c, .int .i64 (i : Nat)] H Q E := by
  refine graph_Dependents_fn _ _ _ _ Q E H ?_
  unfold graph_Dependents graph_Dependents_65
  refine all_c h hl (by omega) h2 fun H1 q1 he1 hN => ⟨_, _, _, rfl, ?_⟩
  have hw := Ns_wf J
  have h2N := Ns_two h2
  have hlN : (Ns J).length = n := by rw [Ns_len]; exact hl
  revert hk
  generalize Ns J = N at *
  intro hk
  unfold graph_Dependents_62
  refine ⟨⟨by omega, by omega, by omega, by omega⟩, ?_⟩
  refine nw_ext fun bF H2 hbF he2 hc2 => ?_
  rw [Int.toNat_natCast, rep1_toList] at hc2
  rw [Int.toNat_natCast]
  have hF2 : Vec H2 1 (some ⟨bF, 0, none⟩) n n ((List.replicate n false).map Value.bool) := by
    refine ⟨by simp, Nat.le_refl _, bF, _, _, rfl, hc2, by simp, fun j hj => ?_⟩
    rw [List.map_replicate]; exact List.getElem?_toArray ..
  unfold graph_Dependents_58
  refine nw_ext fun bq H3 hbq he3 hc3 => ?_
  have hFq : bq ≠ bF := fun e => by rw [e, hc2] at hbq; cases hbq
  have hcf0 : cf (List.replicate n false) ≤ n := by have := cf_le (List.replicate n false); simpa using this
  have hQ3 : QV H3 (some ⟨bq, 0, none⟩) 1 1 [i] := ⟨rfl, Nat.le_refl _, bq, 0, _, _, rfl, hc3, by simp, fun j hj => by
    have : j = 0 := by omega
    subst this; rfl⟩
  unfold graph_Dependents_55
  refine ⟨fun x7 l7 c7 H' => ∃ F q P, QS H1 H' bF n F x7 l7 c7 q ∧ DI N i F q P ∧ 2 * cf F + q.length ≤ 2 * n + 1, fun _ l7 _ H' => 2 * offs bF n H' + l7,
    ⟨List.replicate n false, [i], fun _ => False, ⟨he2.trans he3, hbF, hF2.ext he3, hQ3, fun j hj => (by obtain ⟨a, ha, rfl⟩ := hj; cases ha; exact ⟨he2.free hbq, hFq⟩)⟩, by have := DI.start N i; rwa [hlN] at this, by simp; omega⟩, ?_⟩
  rintro x7 l7 c7 H4 ⟨F, q, P, hqs, hdi, hcf⟩
  have hlq : q.length = l7 := hqs.2.2.2.1.1
  have hoff := offs_eq hqs.2.2.1
  unfold graph_Dependents_52
  refine sel_dec (fun hpos => ?_) (fun hend => ?_)
  · obtain ⟨x, r, rfl⟩ : ∃ x r, q = x :: r := by
      cases q with
      | nil => simp at hlq; omega
      | cons x r => exact ⟨x, r, rfl⟩
    unfold graph_Dependents_47 graph_Dependents_44
    refine ⟨fun x7' l7' c7' x27 H' => ∃ F' r' k, x27 = (k : Nat) ∧ k ≤ n ∧ QS H1 H' bF n F' x7' l7' c7' (x :: r') ∧ DI N i F' (x :: r') P ∧ (∀ k', k' < k → x ∈ N.getD k' [] → fd F' k') ∧ 2 * cf F' + (x :: r').length ≤ 2 * cf F + l7,
      fun _ _ _ x _ => ((n : Int) - x).toNat, ⟨F, r, 0, rfl, by omega, hqs, hdi, fun k' hk' => by omega, by omega⟩, ?_⟩
    rintro x7' l7' c7' x27 H5 ⟨F', r', k, rfl, hkn, ⟨s1, s2, s3, s4, s5⟩, hdi', hdone, hcf'⟩
    have hN5 := hN.ext s1
    have hl7 := s4.1
    have hlF : F'.length = n := by rw [hdi'.1]; exact hlN
    have hll : (x :: r').length = r'.length + 1 := rfl
    have hxn : x < n := by
      rcases (hdi'.2.1 x).1 (.inr (by simp)) with rfl | hfx
      · exact hi
      · have := (hdi'.2.2.2.1 x hfx).1; omega
    unfold graph_Dependents_41 graph_Dependents_38
    refine sel_dec (fun hlt => ?_) (fun hge => ?_)
    · have hlt : k < n := by omega
      unfold graph_Dependents_33
      refine hN5.get hlt fun qn cn hqn => ?_
      have next : ∀ (b : Bool), b = false → (x ∈ N.getD k [] → fd F' k) → graph_Dependents_28 (fun x7' l7' c7' H1' => (∃ F q P, QS H1 H1' bF n F x7' l7' c7' q ∧ DI N i F q P ∧ 2 * cf F + q.length ≤ 2 * n + 1) ∧ 2 * offs bF n H1' + l7' < 2 * offs bF n H4 + l7)
          (fun x7'' l7'' c7'' x27' H' => (∃ F' r' k, x27' = (k : Nat) ∧ k ≤ n ∧ QS H1 H' bF n F' x7'' l7'' c7'' (x :: r') ∧ DI N i F' (x :: r') P ∧ (∀ k', k' < k → x ∈ N.getD k' [] → fd F' k') ∧ 2 * cf F' + (x :: r').length ≤ 2 * cf F + l7) ∧ ((n : Int) - x27').toNat < ((n : Int) - (k : Nat)).toNat)
          Q E q1 n n (some ⟨bF, 0, none⟩) n n x7' l7' c7' k q1 n n n k b H5 := by
        intro b hb hh
        subst hb
        unfold graph_Dependents_28
        refine sel_ff ?_
        unfold graph_Dependents_26
        rw [wrap_succ (by omega)]
        refine ⟨⟨F', r', k + 1, rfl, by omega, ⟨s1, s2, s3, s4, s5⟩, hdi', fun k' hk' hx' => ?_, hcf'⟩, by omega⟩
        by_cases e : k' = k
        · subst e; exact hh hx'
        · exact hdone k' (by omega) hx'
      unfold graph_Dependents_30
      have hg := T_get (m := k) s3 hlt (K := fun b112 => sel (!b112)
        ((0 ≤ (0 : Int) ∧ (0 : Int) < (l7' : Int)) ∧ ptr x7' fun q113 =>
         ldI .i64 q113 H5 fun n114 =>
         Does Pr 20 #[(.slice qn (N.getD k []).length cn), (.int .i64 n114)] H5 (fun v115 H116 =>
         ∃ b117 : Bool, v115 = (.bool b117) ∧ graph_Dependents_28 (fun x7' l7' c7' H1' => (∃ F q P, QS H1 H1' bF n F x7' l7' c7' q ∧ DI N i F q P ∧ 2 * cf F + q.length ≤ 2 * n + 1) ∧ 2 * offs bF n H1' + l7' < 2 * offs bF n H4 + l7)
          (fun x7'' l7'' c7'' x27' H' => (∃ F' r' k, x27' = (k : Nat) ∧ k ≤ n ∧ QS H1 H' bF n F' x7'' l7'' c7'' (x :: r') ∧ DI N i F' (x :: r') P ∧ (∀ k', k' < k → x ∈ N.getD k' [] → fd F' k') ∧ 2 * cf F' + (x :: r').length ≤ 2 * cf F + l7) ∧ ((n : Int) - x27').toNat < ((n : Int) - (k : Nat)).toNat)
          Q E q1 n n (some ⟨bF, 0, none⟩) n n x7' l7' c7' k q1 n n n k b117 H116) E)
        (graph_Dependents_28 (fun x7' l7' c7' H1' => (∃ F q P, QS H1 H1' bF n F x7' l7' c7' q ∧ DI N i F q P ∧ 2 * cf F + q.length ≤ 2 * n + 1) ∧ 2 * offs bF n H1' + l7' < 2 * offs bF n H4 + l7)
          (fun x7'' l7'' c7'' x27' H' => (∃ F' r' k, x27' = (k : Nat) ∧ k ≤ n ∧ QS H1 H' bF n F' x7'' l7'' c7'' (x :: r') ∧ DI N i F' (x :: r') P ∧ (∀ k', k' < k → x ∈ N.getD k' [] → fd F' k') ∧ 2 * cf F' + (x :: r').length ≤ 2 * cf F + l7) ∧ ((n : Int) - x27').toNat < ((n : Int) - (k : Nat)).toNat)
          Q E q1 n n (some ⟨bF, 0, none⟩) n n x7' l7' c7' k q1 n n n k false H5)) ?_
      · exact hg
      · refine sel_not (fun hf => ?_) (fun ht => next false rfl fun _ => ht)
        refine s4.head ?_
        have h2k := h2N k
        refine Cont_c hqn (by omega) ⟨_, rfl, ?_⟩
        by_cases hin : x ∈ N.getD k []
        · rw [decide_eq_true hin]
          unfold graph_Dependents_28
          refine sel_tt ?_
          refine Vec.put s3 (i := k) (v := .bool true) hlt rfl fun H6 hv6 hf6 => ?_
          have fr6 : ∀ j, j ≠ bF → H6 j = H5 j := fun j hj => hf6 j fun hb => by obtain ⟨a, ha, e⟩ := hb; cases ha; exact hj e
          have hF6 : Vec H6 1 (some ⟨bF, 0, none⟩) n n ((F'.set k true).map Value.bool) := by rw [List.map_set]; exact hv6
          have s4' : QV H6 x7' l7' c7' (x :: r') := s4.keep fun j hj => fr6 j (s5 j hj).2
          refine nw_ext fun b7 H7 hb7 he7 hc7 => ?_
          refine app_q (k := k) (s4'.ext he7) hc7 (by omega) fun p8 c8 H8 hv8 hs8 hb8 => ?_
          have hkF : F'[k]? = some false := by
            have hx : F'[k]? = some (F'[k]'(by omega)) := List.getElem?_eq_getElem (by omega)
            rw [List.getD_eq_getElem?_getD, hx] at hf
            rw [hx]; exact congrArg some hf
          have hcs := cf_set F' k hkF
          have e06 : Ext H1 H6 := fun j o' hj => by rw [fr6 j fun e => by rw [e, s2] at hj; cases hj]; exact s1 j o' hj
          have kF : H6 bF ≠ none := hF6.known ⟨_, rfl, rfl⟩
          have e7F : H8 bF = H7 bF := hs8 bF (fun hb => (s5 bF hb).2 rfl) (fun e => kF (he7.free e))
          have hadd := hdi'.add (k := k) (by omega) (by simp) hin
          unfold graph_Dependents_26
          rw [wrap_succ (by omega)]
          refine ⟨⟨F'.set k true, r' ++ [k], k + 1, rfl, by omega, ⟨ext_app (e06.trans he7) (fun j hj => (s5 j hj).1) hs8, s2, ?_, hv8, fun j hj => ?_⟩, hadd, fun k' hk' hx' => ?_, ?_⟩, by omega⟩
          · exact (hF6.ext he7).keep fun j hj _ => by obtain ⟨a, ha, e⟩ := hj; cases ha; rw [e]; exact e7F
          · rcases hb8 j hj with h | h
            · exact s5 j h
            · exact ⟨(e06.trans he7).free h, fun e => by rw [e] at h; exact kF (he7.free h)⟩
          · rw [fd_set (by omega)]
            by_cases e : k' = k
            · exact .inr e
            · exact .inl (hdone k' (by omega) hx')
          · simp only [List.length_cons, List.length_append, List.length_nil] at hcf' ⊢
            omega
        · rw [decide_eq_false hin]
          exact next false rfl fun h => absurd h hin
    · have hkn' : k = n := by omega
      unfold graph_Dependents_24
      have e1 : (1 : Int).toNat = 1 := rfl
      rw [e1]
      obtain ⟨t1, t2⟩ := s4.tail
      have hoff5 := offs_eq s3
      refine ⟨⟨by omega, by omega⟩, ⟨F', r', _, ⟨s1, s2, s3, t1, fun j hj => s5 j (t2 j hj)⟩, hdi'.pop fun k' hk' hx' => hdone k' (by omega) hx', ?_⟩, ?_⟩
      · simp only [List.length_cons] at hcf' hcf hlq; omega
      · dsimp only
        rw [hoff5, hoff]
        simp only [List.length_cons] at hcf' hlq
        omega
  · have hq0 : q = [] := List.eq_nil_of_length_eq_zero (by omega)
    subst hq0
    obtain ⟨s1, s2, s3, s4, s5⟩ := hqs
    have hD := hdi.done
    rw [hlN] at hD
    have hlF : F.length = n := by rw [hdi.1]; exact hlN
    unfold graph_Dependents_21 graph_Dependents_17 graph_Dependents_14
    have hH4 : Ext H H4 := he1.trans s1
    refine ⟨fun x10 l10 c10 x54 H' => ∃ k : Nat, x54 = (k : Nat) ∧ k ≤ n ∧ l10 = ((List.range k).filter fun j => F.getD j false).length ∧ Vec H' 1 x10 l10 c10 (((List.range k).filter fun j => F.getD j false).map natV) ∧ Ext H4 H' ∧ ∀ j, blk x10 j → H4 j = none,
      fun _ _ _ x _ => ((n : Int) - x).toNat, ⟨0, rfl, by omega, rfl, Vec.nil _ 1, Ext.refl _, fun j hj => (by obtain ⟨a, ha, _⟩ := hj; cases ha)⟩, ?_⟩
    rintro x10 l10 c10 x54 H5 ⟨k, rfl, hkn, rfl, hv, he5, hf5⟩
    unfold graph_Dependents_11 graph_Dependents_8
    refine sel_dec (fun hlt => ?_) (fun hge => ?_)
    · have hlt : k < n := by omega
      have hfl : ((List.range k).filter fun j => F.getD j false).length ≤ k := by
        have := List.length_filter_le (fun j => F.getD j false) (List.range k)
        simpa using this
      unfold graph_Dependents_5
      refine T_get (m := k) (s3.ext he5) hlt ?_
      refine sel_mk (fun ht => ?_) (fun hf => ?_)
      · have hsucc : (List.range (k + 1)).filter (fun j => F.getD j false) = (List.range k).filter (fun j => F.getD j false) ++ [k] := by
          rw [List.range_succ, List.filter_append, List.filter_cons_of_pos (by exact ht)]; rfl
        refine nw_ext fun b6 H6 hb6 he6 hc6 => ?_
        refine app_one (sz := 1) (ws := [natV k]) sl22 (hv.ext he6) hc6 rfl rfl (by omega) (by omega) fun p7 c7' H7 hv7 hs7 hb7 => ?_
        unfold graph_Dependents_3
        rw [wrap_succ (by omega)]
        refine ⟨⟨k + 1, rfl, by omega, by rw [hsucc]; simp, ?_, ext_app (he5.trans he6) hf5 hs7, fresh_app (he5.trans he6) hf5 hb7⟩, by first | omega | (dsimp only; omega)⟩
        rw [hsucc]
        simpa using hv7
      · have hsucc : (List.range (k + 1)).filter (fun j => F.getD j false) = (List.range k).filter (fun j => F.getD j false) := by
          rw [List.range_succ, List.filter_append, List.filter_cons_of_neg (by rw [hf]; simp)]; simp
        unfold graph_Dependents_3
        rw [wrap_succ (by omega)]
        exact ⟨⟨k + 1, rfl, by omega, by rw [hsucc], by rw [hsucc]; exact hv, he5, hf5⟩, by first | omega | (dsimp only; omega)⟩
    · have hkn' : k = n := by omega
      subst hkn'
      unfold graph_Dependents_1
      refine hk H5 x10 c10 _ (hH4.trans he5) hD ?_ hv
      have := List.length_filter_le (fun j => F.getD j false) (List.range k)
      simpa using this
end
end Go.Proofs.Ytombjgnlpdnclaa

/- The statement GraphReaches: its contract. -/
namespace Go.Proofs.Ytombjgnlpdnclaa
open Go.V
attribute [local irreducible] app
set_option linter.constructorNameAsVariable false
set_option linter.unusedVariables false

def inB (d : List Nat) (i : Nat) (L : List Nat) (t : Nat) : Bool := (L.take t).any fun m => decide (m = i) || decide (m ∈ d)
theorem inB_succ {d : List Nat} {i t x : Nat} {L : List Nat} (h : L[t]? = some x) : inB d i L (t + 1) = (inB d i L t || (decide (x = i) || decide (x ∈ d))) := by
  unfold inB
  rw [List.take_add_one, h, List.any_append]
  simp
theorem inB_all {N : List (List Nat)} {d : List Nat} {i k : Nat} (h : DepS N i d) (hk : k < N.length) : inB d i (N.getD k []) (N.getD k []).length = decide (k ∈ d) := by
  rw [Bool.eq_iff_iff, decide_eq_true_eq, h.1 k]
  unfold inB
  rw [List.take_length, List.any_eq_true]
  constructor
  · rintro ⟨m, hm, hor⟩
    exact ⟨hk, m, hm, by simpa using hor⟩
  · rintro ⟨_, m, hm, hor⟩
    exact ⟨m, hm, by simpa using hor⟩
section
variable {H : Heap} {p : OA} {n c : Nat} {xs : List Int} {a1 : Int} {Q : QT} {E : ET}
set_option maxHeartbeats 1000000 in
theorem GraphReaches_c (h : Ints H p n xs) (hk : ∀ H', Ext H H' → Q (.bool true) H') : Does Pr 5 #[.slice p n c, .int .i64 a1] H Q E := by
  refine l07_GraphReaches_fn _ _ _ _ Q E H ?_
  unfold l07_GraphReaches l07_GraphReaches_58
  refine sane7_c fun H1 he1 => ⟨_, rfl, sel_ff ?_⟩
  unfold l07_GraphReaches_55
  refine wild_c (h.ext he1) fun H2 q2 c2 J he2 hJ hJ6 h2 => ⟨_, _, _, rfl, ?_⟩
  have he12 := he1.trans he2
  have hlN := Ns_len J
  unfold l07_GraphReaches_52
  refine sel_beq (fun h0 => ?_) (fun hpos => ?_)
  · refine Order_c hJ rfl (by omega) h2 fun H3 qo co o T he3 hO hv hf => ⟨_, _, _, rfl, ?_⟩
    have hol := hO.1.len
    have h00 : o.length = 0 := by omega
    rw [h00]
    exact hk H3 (he12.trans he3)
  · unfold l07_GraphReaches_49
    refine Mod_c (by omega) ⟨_, rfl, ?_⟩
    have hp0 : 0 < J.length := by omega
    have hb := modOf_bounds (a := a1) hp0 (by omega)
    generalize modOf a1 ((J.length : Nat) : Int) = z at hb ⊢
    obtain ⟨i, ei⟩ : ∃ i : Nat, z = (i : Nat) := ⟨z.toNat, by omega⟩
    subst ei
    have hi : i < J.length := by have := hb.2; omega
    unfold l07_GraphReaches_46
    refine Dependents_c hJ rfl (by omega) h2 hi fun H3 qd cd d he3 hD hdl hvd => ⟨_, _, _, rfl, ?_⟩
    have hnd := Vec.nl hvd
    have hJ3 := hJ.ext he3
    have hn2 := fun i => needsOf_len h2 i
    unfold l07_GraphReaches_42 l07_GraphReaches_39
    refine ⟨fun x H' => ∃ k : Nat, x = (k : Nat) ∧ k ≤ J.length ∧ Ext H3 H', fun x _ => ((J.length : Int) - x).toNat, ⟨0, rfl, by omega, Ext.refl _⟩, ?_⟩
    rintro x H4 ⟨k, rfl, hkl, he4⟩
    unfold l07_GraphReaches_36 l07_GraphReaches_33
    refine sel_dec (fun hlt => ?_) (fun hge => ?_)
    · have hkJ : k < J.length := by omega
      unfold l07_GraphReaches_28 l07_GraphReaches_25 l07_GraphReaches_21
      refine Needs_c (hJ3.ext he4) rfl (by omega) hkJ (h2 k) fun H6 q6 c6 he6 hv6 hf6 => ⟨_, _, _, rfl, ?_⟩
      have hnm := Vec.nl hv6
      have hl2 := hn2 k
      have hall := inB_all hD (k := k) (by omega)
      rw [Ns_getD hkJ] at hall
      unfold l07_GraphReaches_18
      refine ⟨fun x8 x38 H' => ∃ t : Nat, x38 = (t : Nat) ∧ t ≤ (needsOf J k).length ∧ Ext H6 H' ∧ x8 = inB d i (needsOf J k) t, fun _ x _ => (((needsOf J k).length : Int) - x).toNat, ⟨0, rfl, by omega, Ext.refl _, rfl⟩, ?_⟩
      rintro x8 x38 H7 ⟨t, rfl, htl, he7, rfl⟩
      have he37 := (he4.trans he6).trans he7
      unfold l07_GraphReaches_15 l07_GraphReaches_12
      refine sel_dec (fun hlt3 => ?_) (fun hge3 => ?_)
      · have hlt3 : t < (needsOf J k).length := by omega
        have hy : (needsOf J k)[t]? = some (needsOf J k)[t] := List.getElem?_eq_getElem hlt3
        generalize (needsOf J k)[t] = y at hy
        have hsu := inB_succ (d := d) (i := i) hy
        unfold l07_GraphReaches_9
        refine (hnm.ex he7).get hy ?_
        have next : ∀ b : Bool, b = inB d i (needsOf J k) (t + 1) → l07_GraphReaches_7 (fun x' H' => (∃ k : Nat, x' = (k : Nat) ∧ k ≤ J.length ∧ Ext H3 H') ∧ ((J.length : Int) - x').toNat < ((J.length : Int) - (k : Nat)).toNat)
            (fun x8' x38' H' => (∃ t : Nat, x38' = (t : Nat) ∧ t ≤ (needsOf J k).length ∧ Ext H6 H' ∧ x8' = inB d i (needsOf J k) t) ∧ (((needsOf J k).length : Int) - x38').toNat < (((needsOf J k).length : Int) - (t : Nat)).toNat) Q E i q2 J.length c2 qd d.length cd k b (J.length : Nat) k q6 (needsOf J k).length c6 (needsOf J k).length t H7 := by
          intro b hb
          unfold l07_GraphReaches_7
          rw [wrap_succ (by omega)]
          exact ⟨⟨t + 1, rfl, by omega, he7, hb⟩, by omega⟩
        refine sel_mk (fun ht => next true (by rw [hsu, ht]; rfl)) (fun hff => ?_)
        refine sel_beq (fun heq => next true (by
          have : y = i := by omega
          rw [hsu, hff, decide_eq_true this]; rfl)) (fun hne => ?_)
        refine Has_c (hnd.ex he37) (by omega) ⟨_, rfl, next _ ?_⟩
        have : ¬ y = i := fun e => hne (by rw [e])
        rw [hsu, hff, decide_eq_false this]; rfl
      · have htl : t = (needsOf J k).length := by omega
        rw [htl, hall]
        unfold l07_GraphReaches_5
        refine Has_c (hnd.ex he37) (by omega) ⟨_, rfl, ?_⟩
        have : (!(decide (k ∈ d) == decide (k ∈ d))) = false := by simp
        rw [this]
        refine sel_ff ?_
        unfold l07_GraphReaches_3
        rw [wrap_succ (by omega)]
        exact ⟨⟨k + 1, rfl, by omega, he37⟩, by first | omega | (dsimp only; omega)⟩
    · unfold l07_GraphReaches_1
      refine Order_c (hJ3.ext he4) rfl (by omega) h2 fun H5 qo co o T he5 hO hv hf => ⟨_, _, _, rfl, ?_⟩
      have hH5 : Ext H H5 := ((he12.trans he3).trans he4).trans he5
      refine sel_dec (fun _ => hk H5 hH5) (fun hfull => ?_)
      refine Has_c (hnd.ex (he4.trans he5)) (by omega) ⟨_, rfl, ?_⟩
      have hol := hO.1.len
      have hfl := (full_len hO.1.2.2.1 fun j hj => hO.1.lt hj).1 (by omega)
      have := hD.self hO hfl
      rw [decide_eq_false this]
      exact hk H5 hH5
end
end Go.Proofs.Ytombjgnlpdnclaa
