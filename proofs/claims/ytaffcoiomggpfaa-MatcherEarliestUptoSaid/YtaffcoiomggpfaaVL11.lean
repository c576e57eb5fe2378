/- Contracts of package jobmuxlaw11: Output, pieces, sane. -/
import Derived.Test.YtaffcoiomggpfaaVMatch
import Derived.Test.YtaffcoiomggpfaaVPats
import Derived.Test.YtaffcoiomggpfaaFl11
namespace Go.Proofs.Ytaffcoiomggpfaa
open Go.V
attribute [local irreducible] app
set_option linter.constructorNameAsVariable false
set_option linter.unusedVariables false

theorem sl64 : SlT Pr 64 1 := .of (by kernel_rfl)
def outs : List ByteArray := [⟨[111, 107].toArray⟩, ⟨[111].toArray⟩, ⟨[107].toArray⟩, ⟨[114, 101, 97, 100, 121, 10].toArray⟩, ⟨[117, 112].toArray⟩, ⟨[10, 103, 111, 111].toArray⟩, ⟨[49, 50, 120].toArray⟩, ⟨[97, 98, 97, 98, 99].toArray⟩, ⟨[99].toArray⟩, ⟨[10].toArray⟩, ⟨[122, 122].toArray⟩, ⟨[27, 91, 49, 109, 104, 105, 13, 10].toArray⟩]
theorem outs_get {n : Nat} (h : n < 12) : (#[(.string ⟨[111, 107].toArray⟩), (.string ⟨[111].toArray⟩), (.string ⟨[107].toArray⟩), (.string ⟨[114, 101, 97, 100, 121, 10].toArray⟩), (.string ⟨[117, 112].toArray⟩), (.string ⟨[10, 103, 111, 111].toArray⟩), (.string ⟨[49, 50, 120].toArray⟩), (.string ⟨[97, 98, 97, 98, 99].toArray⟩), (.string ⟨[99].toArray⟩), (.string ⟨[10].toArray⟩), (.string ⟨[122, 122].toArray⟩), (.string ⟨[27, 91, 49, 109, 104, 105, 13, 10].toArray⟩)] : Array Value)[n]? = some (.string (outs.getD n default)) ∧ (outs.getD n default).size ≤ 8 := by
  match n, h with
  | 0, _ => exact ⟨rfl, by decide⟩
  | 1, _ => exact ⟨rfl, by decide⟩
  | 2, _ => exact ⟨rfl, by decide⟩
  | 3, _ => exact ⟨rfl, by decide⟩
  | 4, _ => exact ⟨rfl, by decide⟩
  | 5, _ => exact ⟨rfl, by decide⟩
  | 6, _ => exact ⟨rfl, by decide⟩
  | 7, _ => exact ⟨rfl, by decide⟩
  | 8, _ => exact ⟨rfl, by decide⟩
  | 9, _ => exact ⟨rfl, by decide⟩
  | 10, _ => exact ⟨rfl, by decide⟩
  | 11, _ => exact ⟨rfl, by decide⟩
theorem Output_c {H0 H : Heap} {d k : Nat} {xs : List Int} {Q : Value → Heap → Prop} {E : Chain → Heap → Prop} (h : Deck H0 H d xs k)
    (hk : ∀ (H' : Heap) (i c : Nat) (bs : List UInt8) (cs : Array Value) (t : TypeId) (fr : Nat × Nat) (k' : Nat), Deck H0 H' d xs k' → (∀ j o, j ≠ d → H j = some o → H' j = some o) → H i = none → i ≠ d → H' i = some (.cells cs t fr) → (∀ j, j < bs.length → cs[j]? = (bs.map byteV)[j]?) → bs.length ≤ 8 → bs.length ≤ c → Q (.slice (some ⟨i, 0, none⟩) bs.length c) H') :
    Does Pr 76 #[.pointer (some ⟨d, 0, none⟩)] H Q E := by
  refine us1_fn _ Q E H ?_
  unfold us1
  refine nw_ext fun i H1 hi he1 hc1 => ?_
  refine Next_c (h.ext he1) (b := 12) (by decide) fun H2 hd2 hf2 => ⟨_, rfl, ?_⟩
  have hb := drawOf_bounds (xs := xs) (k := k) (n := 12) (by omega) (by omega)
  have e12 : (12 : Int) = ((12 : Nat) : Int) := rfl
  rw [e12]
  generalize drawOf xs k ((12 : Nat) : Int) = r at hb
  have hid : i ≠ d := fun e => by
    obtain ⟨_, _, _, p, n, c, t, _, h5⟩ := h
    rw [e, h5] at hi; cases hi
  obtain ⟨g1, g2⟩ := outs_get (n := 0 + r.toNat * 1) (by omega)
  refine ⟨⟨hb.1, hb.2⟩, ?_⟩
  rw [add_at]
  refine ldS_at ((hf2 i hid).trans hc1) g1 ?_
  generalize outs.getD (0 + r.toNat * 1) default = s at g2
  intro c hc
  refine nw_ext fun q H3 hq he3 hc3 => ?_
  have hqd : q ≠ d := fun e => by
    obtain ⟨_, _, _, p, n, c, t, _, h5⟩ := hd2
    rw [e, h5] at hq; cases hq
  have hl : s.data.toList.length = s.size := by rw [Array.length_toList]; rfl
  have old : ∀ j o, j ≠ d → H j = some o → H2 j = some o := fun j o hj ho => by rw [hf2 j hj]; exact he1 j o ho
  have := hk H3 q c s.data.toList _ 5 _ _ (hd2.ext he3) (fun j o hj ho => he3 j o (old j o hj ho)) (by
    cases hh : H q with
    | none => rfl
    | some o => rw [old q o hqd hh] at hq; cases hq) hqd hc3 (fun j hj => by
      rw [List.getElem?_toArray, List.getElem?_append_left (by simp [bytesV]; omega)]; rfl) (by rw [hl]; exact g2) (by rw [hl]; exact hc)
  rw [hl] at this
  exact this
theorem byt_of {H : Heap} {i c : Nat} {cs : Array Value} {t : TypeId} {fr : Nat × Nat} {bs : List UInt8} (h : H i = some (.cells cs t fr)) (hc : ∀ j, j < bs.length → cs[j]? = (bs.map byteV)[j]?) (hl : bs.length ≤ c) : Byt H (some ⟨i, 0, none⟩) bs.length c bs :=
  ⟨rfl, hl, rd_at h _ 0 0 fun j hj => by rw [Nat.add_zero, Nat.zero_add]; exact hc j (by simpa using hj)⟩
set_option maxHeartbeats 1000000 in
theorem pieces_c {H : Heap} {p : Option Addr} {n c : Nat} {xs : List Int} {Q : Value → Heap → Prop} {E : Chain → Heap → Prop} (h : Ints H p n xs)
    (hk : ∀ (H' : Heap) (p : Option Addr) (n c : Nat) (L : List (List UInt8)), Ext H H' → Pcs H' p n c L → n ≤ 5 → (∀ b ∈ L, b.length ≤ 8) → Q (.slice p n c) H') : Does Pr 44 #[.slice p n c] H Q E := by
  refine uo2_fn _ _ _ Q E H ?_
  unfold uo2 uo2_18
  refine New_c h fun d H1 hd => ⟨_, rfl, ?_⟩
  unfold uo2_15 uo2_11
  refine Next_c hd (b := 6) (by decide) fun H2 hd2 hf2 => ⟨_, rfl, ?_⟩
  have hb := drawOf_bounds (xs := xs) (k := 0) (n := 6) (by omega) (by omega)
  have e6 : (6 : Int) = ((6 : Nat) : Int) := rfl
  rw [e6]
  generalize drawOf xs 0 ((6 : Nat) : Int) = r at hb
  unfold uo2_8
  refine ⟨fun p4 l4 c4 x5 H' => ∃ (L : List (List UInt8)) (vs : List Value) (j : Nat) (HB : Heap), l4 = L.length ∧ vs.length = L.length ∧ 0 ≤ x5 ∧ (L.length : Int) + x5 ≤ 5 ∧ Vec H' 1 p4 L.length c4 vs ∧ Deck H H' d xs j ∧
      Ext H HB ∧ Ext HB H' ∧ HB d = none ∧ (∀ i, blk p4 i → HB i = none ∧ i ≠ d) ∧ (∀ b ∈ L, b.length ≤ 8) ∧ ∀ (i : Nat) (bs : List UInt8), L[i]? = some bs → ∃ (q : Option Addr) (m cc : Nat), vs[i]? = some (Value.slice q m cc) ∧ Byt HB q m cc bs,
    fun _ _ _ x5 _ => x5.toNat, ⟨[], [], _, H, rfl, rfl, by omega, by show (0 : Int) + _ ≤ _; omega, Vec.nil _ 1, hd2, Ext.refl _, hd2.1, hd2.2.1, fun i hi => (by obtain ⟨a, ha, _⟩ := hi; cases ha), by simp, by simp⟩, ?_⟩
  rintro p4 l4 c4 x5 H3 ⟨L, vs, j, HB, rfl, hvl, hx0, hx5, hv, hdk, heB, hBH, hBd, hf, hb8, hel⟩
  unfold uo2_5
  refine sel_dec (fun hpos => ?_) (fun hend => ?_)
  · unfold uo2_3
    refine Output_c hdk fun H4 i ci bs cs t fr k' hd4 hold hi hid hci hcs hbl hbc => ⟨_, _, _, rfl, ?_⟩
    have hv4 : Vec H4 1 p4 L.length c4 vs := by
      refine hv.keep fun q hq hn => ?_
      cases hh : H3 q with
      | none => exact absurd hh hn
      | some o => exact hold q o (hf q hq).2 hh
    have hB4d : H3 d ≠ none := by
      obtain ⟨_, _, _, p, n, c, t, _, h5⟩ := hdk
      rw [h5]; simp
    have base1 : Ext HB (beside HB H3 H4) := fun q o hq => by
      rw [beside_some (by rw [hq]; simp)]
      exact hold q o (fun e => by rw [e, hBd] at hq; cases hq) (hBH q o hq)
    have base2 : Ext (beside HB H3 H4) H4 := beside_ext _ _ _
    have hnew : (beside HB H3 H4) i = some (.cells cs t fr) := by rw [beside_free hi]; exact hci
    refine nw_ext fun q H5 hq he5 hc5 => ?_
    refine app_one (sz := 1) (ws := [.slice (some ⟨i, 0, none⟩) bs.length ci]) sl64 (hv4.ext he5) hc5 rfl rfl (by omega) (by omega) fun p' c' H6 hv6 hs6 hb6 => ?_
    have hw : IntKind.wrap .i64 (x5 - 1) = x5 - 1 := by rw [IntWalk.i64_in _ (by omega)]
    rw [hw]
    have hfb : ∀ j, blk p4 j → (beside HB H3 H4) j = none := fun j hj => beside_priv (hf j hj).1 (hv.known hj)
    have base3 : Ext (beside HB H3 H4) H6 := ext_app (base2.trans he5) hfb hs6
    have hd5 := hd4.ext he5
    have hd6 : Deck H H6 d xs k' := by
      obtain ⟨g1, g2, g3, p2, n2, c2, t2, g4, g5⟩ := hd5
      refine ⟨fun k o hk => ?_, g2, g3, p2, n2, c2, t2, g4, ?_⟩
      · rw [hs6 k (fun hq => by have := (hf k hq).1; rw [heB k o hk] at this; cases this) (by simp [g1 k o hk])]; exact g1 k o hk
      · rw [hs6 d (fun hq => (hf d hq).2 rfl) (by simp [g5])]; exact g5
    refine ⟨⟨L ++ [bs], vs ++ [.slice (some ⟨i, 0, none⟩) bs.length ci], _, beside HB H3 H4, by simp, by simp [hvl], by omega, by rw [List.length_append]; push_cast; simp; omega, by simpa using hv6, hd6, heB.trans base1, base3, beside_priv hBd hB4d, fun k hk => ?_, ?_, ?_⟩, by show (x5 - 1).toNat < x5.toNat; omega⟩
    · rcases hb6 k hk with h | h
      · exact ⟨hfb k h, (hf k h).2⟩
      · refine ⟨(base2.trans he5).free h, fun e => ?_⟩
        obtain ⟨g1, g2, g3, p2, n2, c2, t2, g4, g5⟩ := hd5
        rw [e, g5] at h; cases h
    · intro b hb
      rcases List.mem_append.1 hb with h | h
      · exact hb8 b h
      · simp at h; subst h; exact hbl
    · intro k b hkb
      by_cases hkl : k < L.length
      · rw [List.getElem?_append_left hkl] at hkb
        obtain ⟨q, m, cc, e1, e2⟩ := hel k b hkb
        exact ⟨q, m, cc, by rw [List.getElem?_append_left (by omega)]; exact e1, e2.ext base1⟩
      · have hk1 : k = L.length := by
          have := (List.getElem?_eq_some_iff.1 hkb).1
          simp at this; omega
        subst hk1
        simp at hkb; subst hkb
        exact ⟨some ⟨i, 0, none⟩, bs.length, ci, by rw [List.getElem?_append_right (by omega), hvl]; simp, byt_of hnew hcs hbc⟩
  · unfold uo2_1
    refine hk H3 p4 L.length c4 L (heB.trans hBH) ⟨rfl, hv.2.1, vs, hvl, hv.rdS, fun i bs hi => ?_⟩ (by omega) hb8
    obtain ⟨q, m, cc, e1, e2⟩ := hel i bs hi
    exact ⟨q, m, cc, e1, e2.ext hBH⟩
theorem sane11_1 : playOf ⟨[98, 36].toArray⟩ [[97, 98], [98], [10, 120]] = (2, 4, 0) := by decide +kernel
theorem sane11_2 : playOf ⟨#[]⟩ [] = (-1, 0, 0) := by decide +kernel
theorem sane11_c {H : Heap} {Q : Value → Heap → Prop} {E : Chain → Heap → Prop} (hk : ∀ H', Ext H H' → Q (.bool true) H') : Does Pr 43 #[] H Q E := by
  refine un2_fn Q E H ?_
  unfold un2
  have fz : ∀ {H1 H2 : Heap} {i : Nat} {o : Obj}, Ext H1 H2 → H1 i = none → Ext H1 (H2.set i o) := fun he hi => he.set hi _
  refine nw_ext fun i1 H1 hi1 he1 hc1 => ⟨_, _, hc1, ?_⟩
  have x1 : Ext H (H1.set i1 (.cells #[.int .u8 97, .int .u8 98] 5 (2, 2 + 1))) := he1.set hi1 _
  have y1 := Heap.set_self H1 i1 (.cells #[.int .u8 97, .int .u8 98] 5 (2, 2 + 1))
  change (fun H => nw _ H _) (H1.set i1 (.cells #[.int .u8 97, .int .u8 98] 5 (2, 2 + 1)))
  revert x1 y1
  generalize H1.set i1 (.cells #[.int .u8 97, .int .u8 98] 5 (2, 2 + 1)) = G1
  intro x1 y1
  refine nw_ext fun i2 H2 hi2 he2 hc2 => ⟨_, _, hc2, ?_⟩
  have x2 : Ext G1 (H2.set i2 (.cells #[.int .u8 98] 5 (1, 1 + 1))) := he2.set hi2 _
  have y2 := Heap.set_self H2 i2 (.cells #[.int .u8 98] 5 (1, 1 + 1))
  change (fun H => nw _ H _) (H2.set i2 (.cells #[.int .u8 98] 5 (1, 1 + 1)))
  revert x2 y2
  generalize H2.set i2 (.cells #[.int .u8 98] 5 (1, 1 + 1)) = G2
  intro x2 y2
  refine nw_ext fun i3 H3 hi3 he3 hc3 => ⟨_, _, hc3, ?_⟩
  have x3 : Ext G2 (H3.set i3 (.cells #[.int .u8 10, .int .u8 120] 5 (2, 2 + 1))) := he3.set hi3 _
  have y3 := Heap.set_self H3 i3 (.cells #[.int .u8 10, .int .u8 120] 5 (2, 2 + 1))
  change (fun H => nw _ H _) (H3.set i3 (.cells #[.int .u8 10, .int .u8 120] 5 (2, 2 + 1)))
  revert x3 y3
  generalize H3.set i3 (.cells #[.int .u8 10, .int .u8 120] 5 (2, 2 + 1)) = G3
  intro x3 y3
  refine nw_ext fun i4 H4 hi4 he4 hc4 => ?_
  have hp : Pcs H4 (some ⟨i4, 0, none⟩) 3 3 [[97, 98], [98], [10, 120]] := by
    refine ⟨rfl, Nat.le_refl _, [.slice (some ⟨i1, 0, none⟩) 2 2, .slice (some ⟨i2, 0, none⟩) 1 1, .slice (some ⟨i3, 0, none⟩) 2 2], rfl, rd_at hc4 _ 0 0 (fun j hj => by simp), fun i bs hb => ?_⟩
    match i, hb with
    | 0, hb => cases hb; exact ⟨_, _, _, rfl, byt_of (he4 _ _ (x3 _ _ (x2 _ _ y1))) (fun j hj => by simp; rfl) (Nat.le_refl _)⟩
    | 1, hb => cases hb; exact ⟨_, _, _, rfl, byt_of (he4 _ _ (x3 _ _ y2)) (fun j hj => by simp; rfl) (Nat.le_refl _)⟩
    | 2, hb => cases hb; exact ⟨_, _, _, rfl, byt_of (he4 _ _ y3) (fun j hj => by simp; rfl) (Nat.le_refl _)⟩
    | i + 3, hb => simp at hb
  refine Play_c hp (by omega) (by decide) fun H5 he5 => ⟨_, _, _, rfl, ?_⟩
  rw [sane11_1]
  refine Play_c (L := []) (p := none) (n := 0) (c := 0) ⟨rfl, Nat.le_refl _, [], rfl, rfl, by simp⟩ (by omega) (by decide) fun H6 he6 => ⟨_, _, _, rfl, ?_⟩
  rw [sane11_2]
  exact sel_tt (sel_tt (sel_tt (sel_tt (hk H6 (((((x1.trans x2).trans x3).trans he4).trans he5).trans he6)))))
theorem flatten_le : ∀ (L : List (List UInt8)), (∀ b ∈ L, b.length ≤ 8) → L.flatten.length ≤ 8 * L.length
  | [], _ => by simp
  | b :: L, h => by
    have h1 := h b (by simp)
    have h2 := flatten_le L fun x hx => h x (by simp [hx])
    simp only [List.flatten_cons, List.length_append, List.length_cons]
    omega
theorem sum_flatten (L : List (List UInt8)) : (L.map List.length).sum = L.flatten.length := by rw [List.length_flatten]
theorem pats_ok : ∀ i, i < 7 → (rxParse (pats.getD i default)).2 = 0 := by decide +kernel
theorem playOf_pats {i : Nat} (hi : i < 7) : ∃ st : List Nd, InR st ∧ 0 < st.length ∧ ∀ L, playOf (pats.getD i default) L = playSt st L := by
  have h0 := pats_ok i hi
  obtain ⟨N, e, hp⟩ : ∃ N e, rxParse (pats.getD i default) = (N, e) := ⟨_, _, rfl⟩
  rw [hp] at h0
  dsimp only at h0
  subst h0
  obtain ⟨_, r2⟩ := rxParse_small hp
  obtain ⟨_, _, r3, _⟩ := r2 rfl
  obtain ⟨b1, b2, b3, b4⟩ := build_facts r3
  refine ⟨buildOf N, b1, by omega, fun L => ?_⟩
  unfold playOf
  rw [hp]
  exact if_neg (by simp)
end Go.Proofs.Ytaffcoiomggpfaa
