/- Contracts of package jobmuxlaw09: sane, same, pattern. -/
import Derived.Test.YtaffcoiomggpfaaVLang
import Derived.Test.YtaffcoiomggpfaaVR08f
import Derived.Test.YtaffcoiomggpfaaVPats
import Derived.Test.YtaffcoiomggpfaaFl09
namespace Go.Proofs.Ytaffcoiomggpfaa
open Go.V
attribute [local irreducible] app
set_option linter.constructorNameAsVariable false
set_option linter.unusedVariables false

theorem byte_cell (s : ByteArray) (n : Int) : Value.int .u8 (sAt s n) = byteV (s.data.getD n.toNat 0) := rfl
set_option maxHeartbeats 1000000 in
theorem pattern09_c {H : Heap} {p : Option Addr} {n c : Nat} {xs : List Int} {Q : Value → Heap → Prop} {E : Chain → Heap → Prop} (h : Ints H p n xs)
    (hk : ∀ (H' : Heap) (pn : Option Addr) (cn : Nat) (L : List Nd) (pt : Option Addr) (ct : Nat) (t : List UInt8), Ext H H' → Vec H' 7 pn L.length cn (flat L) → L.length ≤ 256 → Vec H' 1 pt t.length ct (t.map byteV) → t.length ≤ 9 → Q (.tuple #[.slice pn L.length cn, .slice pt t.length ct]) H') :
    Does Pr 18 #[.slice p n c] H Q E := by
  refine zql1_fn _ _ _ Q E H ?_
  unfold zql1 zql1_36
  refine New_c h fun d H1 hd => ⟨_, rfl, ?_⟩
  unfold zql1_33 zql1_29
  refine Range_c' (lo := 1) (hi := 14) hd (by omega) (by omega) fun H2 hd2 hf2 => ⟨_, rfl, ?_⟩
  have hb0 := drawOf_bounds (xs := xs) (k := 0) (n := 14) (by omega) (by omega)
  have e14 : ((14 - 1 + 1 : Nat) : Int) = ((14 : Nat) : Int) := rfl
  rw [e14]
  generalize drawOf xs 0 ((14 : Nat) : Int) = r0 at hb0
  unfold zql1_26
  refine ⟨fun p5 l5 c5 x7 H' => ∃ (bs : List UInt8) (j : Nat), l5 = bs.length ∧ x7 ≤ 14 ∧ (0 ≤ x7) ∧ (l5 : Int) + x7 ≤ 14 ∧ Vec H' 1 p5 bs.length c5 (bs.map byteV) ∧ Deck H H' d xs j ∧ ∀ i, blk p5 i → H i = none ∧ i ≠ d,
    fun _ _ _ x7 _ => x7.toNat, ⟨[], _, rfl, by omega, by omega, by show (0 : Int) + _ ≤ _; omega, Vec.nil _ 1, hd2, fun i hi => by obtain ⟨a, ha, _⟩ := hi; cases ha⟩, ?_⟩
  rintro p5 l5 c5 x7 H3 ⟨bs, j, rfl, hx1, hx2, hx3, hv5, hd3, hq5⟩
  unfold zql1_23
  refine sel_dec (fun hpos => ?_) (fun hend => ?_)
  · unfold zql1_21
    refine Next_c hd3 (b := 14) (by decide) fun H4 hd4 hf4 => ⟨_, rfl, ?_⟩
    have hb := drawOf_bounds (xs := xs) (k := j) (n := 14) (by omega) (by omega)
    refine ⟨⟨hb.1, hb.2⟩, ?_⟩
    rw [byte_cell]
    have hv4 : Vec H4 1 p5 bs.length c5 (bs.map byteV) := hv5.keep fun i hi _ => hf4 i (hq5 i hi).2
    refine nw_ext fun i H5 hi he5 hi5 => ?_
    refine app_one (sz := 1) (ws := [byteV _]) sl24 (hv4.ext he5) hi5 rfl rfl (by omega) (by omega) fun p' c' H6 hv6 hs6 hb6 => ?_
    have hd5 := hd4.ext he5
    have hw : IntKind.wrap .i64 (x7 - 1) = x7 - 1 := by rw [IntWalk.i64_in _ (by omega)]
    rw [hw]
    have hd6 : Deck H H6 d xs (min (j + 1) xs.length) := by
      obtain ⟨g1, g2, g3, p2, n2, c2, t2, g4, g5⟩ := hd5
      refine ⟨fun k o hk => ?_, g2, g3, p2, n2, c2, t2, g4, ?_⟩
      · rw [hs6 k (fun hq => by rw [(hq5 k hq).1] at hk; cases hk) (by simp [g1 k o hk])]; exact g1 k o hk
      · rw [hs6 d (fun hq => (hq5 d hq).2 rfl) (by simp [g5])]; exact g5
    refine ⟨⟨bs ++ [_], _, by simp, by omega, by omega, by push_cast; omega, by simpa using hv6, hd6, fun k hk => ?_⟩, by show (x7 - 1).toNat < x7.toNat; omega⟩
    rcases hb6 k hk with h | h
    · exact hq5 k h
    · refine ⟨hd5.1.free h, fun e => ?_⟩
      obtain ⟨g1, g2, g3, p2, n2, c2, t2, g4, g5⟩ := hd5
      rw [e, g5] at h; cases h
  · unfold zql1_17
    refine Next_c hd3 (b := 10) (by decide) fun H4 hd4 hf4 => ⟨_, rfl, ?_⟩
    have hb := drawOf_bounds (xs := xs) (k := j) (n := 10) (by omega) (by omega)
    have hv4 : Vec H4 1 p5 bs.length c5 (bs.map byteV) := hv5.keep fun i hi _ => hf4 i (hq5 i hi).2
    have e10 : (10 : Int) = ((10 : Nat) : Int) := rfl
    rw [e10]
    generalize drawOf xs j ((10 : Nat) : Int) = r1 at hb
    unfold zql1_14
    refine ⟨fun p6 l6 c6 x8 H' => ∃ (t : List UInt8) (j : Nat), l6 = t.length ∧ x8 ≤ 9 ∧ 0 ≤ x8 ∧ (l6 : Int) + x8 ≤ 9 ∧ Vec H' 1 p6 t.length c6 (t.map byteV) ∧ Vec H' 1 p5 bs.length c5 (bs.map byteV) ∧ Deck H H' d xs j ∧ ∀ i, blk p6 i → H i = none ∧ i ≠ d ∧ ¬ blk p5 i,
      fun _ _ _ x8 _ => x8.toNat, ⟨[], _, rfl, by omega, by omega, by show (0 : Int) + _ ≤ _; omega, Vec.nil _ 1, hv4, hd4, fun i hi => by obtain ⟨a, ha, _⟩ := hi; cases ha⟩, ?_⟩
    rintro p6 l6 c6 x8 H5 ⟨t, j2, rfl, hy1, hy2, hy3, hv6, hv5', hd5, hq6⟩
    unfold zql1_11
    refine sel_dec (fun hpos => ?_) (fun hend2 => ?_)
    · unfold zql1_9
      refine Next_c hd5 (b := 6) (by decide) fun H6 hd6 hf6 => ⟨_, rfl, ?_⟩
      have hb := drawOf_bounds (xs := xs) (k := j2) (n := 6) (by omega) (by omega)
      refine ⟨⟨hb.1, hb.2⟩, ?_⟩
      rw [byte_cell]
      have hv6' : Vec H6 1 p6 t.length c6 (t.map byteV) := hv6.keep fun i hi _ => hf6 i (hq6 i hi).2.1
      have hv5'' : Vec H6 1 p5 bs.length c5 (bs.map byteV) := hv5'.keep fun i hi _ => hf6 i (hq5 i hi).2
      refine nw_ext fun i H7 hi he7 hi7 => ?_
      refine app_one (sz := 1) (ws := [byteV _]) sl24 (hv6'.ext he7) hi7 rfl rfl (by omega) (by omega) fun p' c' H8 hv8 hs8 hb8 => ?_
      have hd7 := hd6.ext he7
      have hv57 := hv5''.ext he7
      have hw : IntKind.wrap .i64 (x8 - 1) = x8 - 1 := by rw [IntWalk.i64_in _ (by omega)]
      rw [hw]
      have hd8 : Deck H H8 d xs (min (j2 + 1) xs.length) := by
        obtain ⟨g1, g2, g3, p2, n2, c2, t2, g4, g5⟩ := hd7
        refine ⟨fun k o hk => ?_, g2, g3, p2, n2, c2, t2, g4, ?_⟩
        · rw [hs8 k (fun hq => by rw [(hq6 k hq).1] at hk; cases hk) (by simp [g1 k o hk])]; exact g1 k o hk
        · rw [hs8 d (fun hq => (hq6 d hq).2.1 rfl) (by simp [g5])]; exact g5
      refine ⟨⟨t ++ [_], _, by simp, by omega, by omega, by push_cast; omega, by simpa using hv8, hv57.keep fun k hk hn => hs8 k (fun hq => (hq6 k hq).2.2 hk) hn, hd8, fun k hk => ?_⟩, by show (x8 - 1).toNat < x8.toNat; omega⟩
      rcases hb8 k hk with h | h
      · exact hq6 k h
      · refine ⟨hd7.1.free h, fun e => ?_, fun hb => hv57.known hb h⟩
        obtain ⟨g1, g2, g3, p2, n2, c2, t2, g4, g5⟩ := hd7
        rw [e, g5] at h; cases h
    · unfold zql1_6
      refine ⟨bs, rfl, hv5'.rdS, ?_⟩
      refine rParse_c fun H6 p7 c7 L e hp hl he6 hv7 => ⟨_, _, _, _, rfl, ?_⟩
      have fin : ∀ (H7 : Heap) p9 c9 (L9 : List Nd), Ext H H7 → Vec H7 7 p9 L9.length c9 (flat L9) → L9.length ≤ 256 → Vec H7 1 p6 t.length c6 (t.map byteV) → zql1_1 Q E p6 t.length c6 p9 L9.length c9 H7 := by
        intro H7 p9 c9 L9 he9 hv9 hl9 hvt
        unfold zql1_1
        exact hk H7 p9 c9 L9 p6 c6 t he9 hv9 hl9 hvt (by omega)
      unfold zql1_3
      refine sel_bne (fun hne => ?_) (fun heq => ?_)
      · refine Patterns_c fun H7 i he7 hi hc7 => ⟨_, _, _, rfl, ?_⟩
        have hd7 := (hd5.ext he6).ext he7
        refine Next_c hd7 (b := 7) (by decide) fun H8 hd8 hf8 => ⟨_, rfl, ?_⟩
        have hb := drawOf_bounds (xs := xs) (k := j2) (n := 7) (by omega) (by omega)
        have e7 : (7 : Int) = ((7 : Nat) : Int) := rfl
        rw [e7]
        generalize drawOf xs j2 ((7 : Nat) : Int) = r2 at hb
        have er : r2 = ((r2.toNat : Nat) : Int) := by omega
        have hid : i ≠ d := fun e => by
          obtain ⟨g1, g2, g3, p2, n2, c2, t2, g4, g5⟩ := hd5.ext he6
          rw [e, g5] at hi; cases hi
        have hc8 : H8 i = some _ := (hf8 i hid).trans hc7
        simp only [ptr_some, add_at]
        refine ⟨⟨by omega, by omega⟩, ldS_at hc8 (pats_get (n := 0 + r2.toNat * 1) (by omega)) ?_⟩
        refine rParse_c fun H9 p9 c9 L9 e9 hp9 hl9 he9 hv9 => ⟨_, _, _, _, rfl, ?_⟩
        have hvt : Vec H8 1 p6 t.length c6 (t.map byteV) := ((hv6.ext he6).ext he7).keep fun k hk _ => hf8 k (hq6 k hk).2.1
        exact fin H9 p9 c9 L9 (hd8.1.trans he9) hv9 hl9 (hvt.ext he9)
      · exact fin H6 p7 c7 L (hd5.1.trans he6) hv7 hl (hv6.ext he6)
theorem byt_cells {H : Heap} {i : Nat} {t : TypeId} {fr : Nat × Nat} (bs : List UInt8) (h : H i = some (.cells (bs.map byteV).toArray t fr)) : Byt H (some ⟨i, 0, none⟩) bs.length bs.length bs :=
  ⟨rfl, Nat.le_refl _, rd_at h _ 0 0 fun j hj => by simp⟩
theorem same_c {H : Heap} {p1 p2 : Option Addr} {c1 c2 n1 n2 : Nat} {A B : List Int} {Q : Value → Heap → Prop} {E : Chain → Heap → Prop} (h1 : Vec H 1 p1 n1 c1 (A.map (Value.int .i64))) (h2 : Vec H 1 p2 n2 c2 (B.map (Value.int .i64))) (hn1 : n1 = A.length) (hn2 : n2 = B.length)
    (hsz : A.length ≤ 1048576) (hk : A = B → Q (.bool true) H) (hk2 : A ≠ B → Q (.bool false) H) : Does Pr 26 #[.slice p1 n1 c1, .slice p2 n2 c2] H Q E := by
  refine zqm1_fn _ _ _ _ _ _ Q E H ?_
  subst hn1 hn2
  unfold zqm1 zqm1_21
  refine sel_bne (fun hne => hk2 (fun e => hne (by rw [e]))) (fun heq => ?_)
  have hlen : A.length = B.length := by omega
  unfold zqm1_17 zqm1_14
  refine ⟨fun x H' => ∃ k : Nat, x = (k : Nat) ∧ k ≤ A.length ∧ H' = H ∧ A.take k = B.take k, fun x _ => (A.length - x).toNat, ⟨0, rfl, by omega, rfl, by simp⟩, ?_⟩
  rintro x H' ⟨k, rfl, hkl, rfl, htk⟩
  unfold zqm1_11 zqm1_8
  refine sel_dec (fun hlt => ?_) (fun hge => ?_)
  · have hlt : k < A.length := by omega
    have ha : A[k]? = some A[k] := List.getElem?_eq_getElem hlt
    have hb : B[k]? = some (B[k]'(by omega)) := List.getElem?_eq_getElem (by omega)
    generalize A[k] = a at ha
    generalize B[k]'(by omega) = b at hb
    obtain ⟨b1, t1, cs1, rfl, q1, g1⟩ := vec_at1 h1 (n := k) (v := .int .i64 a) (by simp [ha])
    obtain ⟨b2, t2, cs2, rfl, q2, g2⟩ := vec_at1 h2 (n := k) (v := .int .i64 b) (by simp [hb])
    unfold zqm1_5
    simp only [ptr_some, add_at, Int.toNat_natCast, Nat.mul_one, Nat.zero_add]
    refine ⟨⟨by omega, by omega⟩, ldI_at q1 g1 ⟨⟨by omega, by omega⟩, ldI_at q2 g2 ?_⟩⟩
    refine sel_bne (fun hne => hk2 (fun e => hne ?_)) (fun he => ?_)
    · subst e; rw [ha] at hb; exact Option.some.inj hb
    · unfold zqm1_3
      have hw : IntKind.wrap .i64 ((k : Int) + 1) = ((k + 1 : Nat) : Int) := by rw [IntWalk.i64_in _ (by omega)]; omega
      rw [hw]
      refine ⟨⟨k + 1, rfl, by omega, rfl, ?_⟩, by omega⟩
      rw [List.take_add_one, List.take_add_one, htk, ha, hb, he]
  · obtain rfl : k = A.length := by omega
    unfold zqm1_1
    refine hk ?_
    rw [List.take_length, hlen, List.take_length] at htk
    exact htk
theorem sane09_1 : endsOf (rParse ⟨[97, 42, 98].toArray⟩).1 [97, 97, 98] 0 = [3] := by decide +kernel
theorem sane09_2 : firstOf (rParse ⟨[97, 42, 98].toArray⟩).1 [97, 97, 98] = 3 := by decide +kernel
theorem sane09_3 : firstOf (rParse ⟨[36].toArray⟩).1 [120, 10] = 2 := by decide +kernel
theorem sane09_c {H : Heap} {Q : Value → Heap → Prop} {E : Chain → Heap → Prop} (hk : ∀ H', Ext H H' → Q (.bool true) H') : Does Pr 17 #[] H Q E := by
  refine zqk1_fn Q E H ?_
  unfold zqk1
  refine rParse_c fun H1 p1 c1 L1 e1 hp1 hl1 he1 hv1 => ⟨_, _, _, _, rfl, ?_⟩
  refine rParse_c fun H2 p2 c2 L2 e2 hp2 hl2 he2 hv2 => ⟨_, _, _, _, rfl, ?_⟩
  have s1 := sane09_1; rw [hp1] at s1
  have s2 := sane09_2; rw [hp1] at s2
  have s3 := sane09_3; rw [hp2] at s3
  dsimp only at s1 s2 s3
  refine nw_ext fun i H3 hi he3 hc3 => ⟨_, _, hc3, ?_⟩
  have txt : ∀ (H4 : Heap) (i : Nat) (bs : List UInt8) (t : TypeId) (fr : Nat × Nat), Byt (H4.set i (.cells (bs.map byteV).toArray t fr)) (some ⟨i, 0, none⟩) bs.length bs.length bs := fun H4 i bs t fr => byt_cells bs (Heap.set_self _ _ _)
  have he3' : Ext H2 (H3.set i (.cells #[.int .u8 97, .int .u8 97, .int .u8 98] 5 (3, 3 + 1))) := he3.set hi _
  have hb3 : Byt (H3.set i (.cells #[.int .u8 97, .int .u8 97, .int .u8 98] 5 (3, 3 + 1))) (some ⟨i, 0, none⟩) 3 3 [97, 97, 98] := txt H3 i [97, 97, 98] 5 (3, 4)
  change (fun H => Does Pr 24 #[.slice p1 L1.length c1, .slice (some ⟨i, 0, none⟩) 3 3, .int .i64 ((0 : Nat) : Int)] H _ E) (H3.set i (.cells #[.int .u8 97, .int .u8 97, .int .u8 98] 5 (3, 3 + 1)))
  revert he3' hb3
  generalize H3.set i (.cells #[.int .u8 97, .int .u8 97, .int .u8 98] 5 (3, 3 + 1)) = H4
  intro he4 hb4
  have hv14 := (hv1.ext he2).ext he4
  refine Ends_c (at_ := 0) hv14 hb4 (by omega) (by omega) fun H5 p5 c5 he5 hv5 => ⟨_, _, _, rfl, ?_⟩
  rw [s1] at hv5
  rw [s1]
  refine nw_ext fun k H6 hk6 he6 hc6 => ?_
  refine same_c (A := [3]) (B := [3]) (hv5.ext he6) (p2 := some ⟨k, 0, none⟩) (c2 := 1) ⟨rfl, Nat.le_refl _, k, _, 3, rfl, hc6, rfl, fun j hj => by simp⟩ rfl rfl (by simp) (fun _ => ⟨_, rfl, sel_tt ?_⟩) (fun h => absurd rfl h)
  refine nw_ext fun i2 H7 hi2 he7 hc7 => ⟨_, _, hc7, ?_⟩
  have he7' : Ext H6 (H7.set i2 (.cells #[.int .u8 97, .int .u8 97, .int .u8 98] 5 (3, 3 + 1))) := he7.set hi2 _
  have hb7 : Byt (H7.set i2 (.cells #[.int .u8 97, .int .u8 97, .int .u8 98] 5 (3, 3 + 1))) (some ⟨i2, 0, none⟩) 3 3 [97, 97, 98] := txt H7 i2 [97, 97, 98] 5 (3, 4)
  change (fun H => Does Pr 19 #[.slice p1 L1.length c1, .slice (some ⟨i2, 0, none⟩) 3 3] H _ E) (H7.set i2 (.cells #[.int .u8 97, .int .u8 97, .int .u8 98] 5 (3, 3 + 1)))
  revert he7' hb7
  generalize H7.set i2 (.cells #[.int .u8 97, .int .u8 97, .int .u8 98] 5 (3, 3 + 1)) = H8
  intro he8 hb8
  have h48 : Ext H4 H8 := (he5.trans he6).trans he8
  refine First_c (hv14.ext h48) hb8 (by omega) fun H9 he9 => ⟨_, rfl, ?_⟩
  rw [s2]
  refine sel_tt ?_
  refine nw_ext fun i3 H10 hi3 he10 hc10 => ⟨_, _, hc10, ?_⟩
  have he10' : Ext H9 (H10.set i3 (.cells #[.int .u8 120, .int .u8 10] 5 (2, 2 + 1))) := he10.set hi3 _
  have hb10 : Byt (H10.set i3 (.cells #[.int .u8 120, .int .u8 10] 5 (2, 2 + 1))) (some ⟨i3, 0, none⟩) 2 2 [120, 10] := txt H10 i3 [120, 10] 5 (2, 3)
  change (fun H => Does Pr 19 #[.slice p2 L2.length c2, .slice (some ⟨i3, 0, none⟩) 2 2] H _ E) (H10.set i3 (.cells #[.int .u8 120, .int .u8 10] 5 (2, 2 + 1)))
  revert he10' hb10
  generalize H10.set i3 (.cells #[.int .u8 120, .int .u8 10] 5 (2, 2 + 1)) = H11
  intro he11 hb11
  have h211 : Ext H2 H11 := (((he4.trans h48).trans he9)).trans he11
  refine First_c (hv2.ext h211) hb11 (by omega) fun H12 he12 => ⟨_, rfl, ?_⟩
  rw [s3]
  exact hk H12 (((he1.trans he2).trans h211).trans he12)
end Go.Proofs.Ytaffcoiomggpfaa
