import Derived.Test.YtaffcoiomggpfaaVLang
import Derived.Test.YtaffcoiomggpfaaVR08f
import Derived.Test.YtaffcoiomggpfaaVPats
import Derived.Test.YtaffcoiomggpfaaFl09
import Derived.Test.YtaffcoiomggpfaaVStayL
/- Contracts of package jobmuxlaw09: sane, same, pattern. -/
namespace Go.Proofs.Ytaffcoiomggpfaa
open Go.V
attribute [local irreducible] app
set_option linter.constructorNameAsVariable false
set_option linter.unusedVariables false

theorem byte_cell (s : ByteArray) (n : Int) : Value.int .u8 (sAt s n) = byteV (s.data.getD n.toNat 0) := rfl
set_option maxHeartbeats 1000000 in
theorem pattern09_c {H : Heap} {p : Option Addr} {n c : Nat} {xs : List Int} {Q : Value → Heap → Prop} {E : Chain → Heap → Prop} (h : Ints H p n xs)
    (hk : ∀ (H' : Heap) (pn : Option Addr) (cn : Nat) (L : List Nd) (pt : Option Addr) (ct : Nat) (t : List UInt8), Ext H H' → Vec H' 7 pn L.length cn (flat L) → L.length ≤ 256 → Vec H' 1 pt t.length ct (t.map byteV) → t.length ≤ 9 → Q (.tuple #[.slice pn L.length cn, .slice pt t.length ct]) H') :
    Does Pr 18 #[.slice p n c] H Q E := by
  refine l09_pattern_fn _ _ _ Q E H ?_
  unfold l09_pattern l09_pattern_36
  refine New_c h fun d H1 hd => ⟨_, rfl, ?_⟩
  unfold l09_pattern_33 l09_pattern_29
  refine Range_c' (lo := 1) (hi := 14) hd (by omega) (by omega) fun H2 hd2 hf2 => ⟨_, rfl, ?_⟩
  have hb0 := drawOf_bounds (xs := xs) (k := 0) (n := 14) (by omega) (by omega)
  have e14 : ((14 - 1 + 1 : Nat) : Int) = ((14 : Nat) : Int) := rfl
  rw [e14]
  generalize drawOf xs 0 ((14 : Nat) : Int) = r0 at hb0
  unfold l09_pattern_26
  refine ⟨fun p5 l5 c5 x7 H' => ∃ (bs : List UInt8) (j : Nat), l5 = bs.length ∧ x7 ≤ 14 ∧ (0 ≤ x7) ∧ (l5 : Int) + x7 ≤ 14 ∧ Vec H' 1 p5 bs.length c5 (bs.map byteV) ∧ Deck H H' d xs j ∧ ∀ i, blk p5 i → H i = none ∧ i ≠ d,
    fun _ _ _ x7 _ => x7.toNat, ⟨[], _, rfl, by omega, by omega, by show (0 : Int) + _ ≤ _; omega, Vec.nil _ 1, hd2, fun i hi => by obtain ⟨a, ha, _⟩ := hi; cases ha⟩, ?_⟩
  rintro p5 l5 c5 x7 H3 ⟨bs, j, rfl, hx1, hx2, hx3, hv5, hd3, hq5⟩
  unfold l09_pattern_23
  refine sel_dec (fun hpos => ?_) (fun hend => ?_)
  · unfold l09_pattern_21
    refine Next_c hd3 (b := 14) (by decide) fun H4 hd4 hf4 => ⟨_, rfl, ?_⟩
    have hb := drawOf_bounds (xs := xs) (k := j) (n := 14) (by omega) (by omega)
    refine ⟨⟨hb.1, hb.2⟩, ?_⟩
    rw [byte_cell]
    have hv4 : Vec H4 1 p5 bs.length c5 (bs.map byteV) := hv5.keep fun i hi _ => hf4 i (hq5 i hi).2
    refine nw_ext fun i H5 hi he5 hi5 => ?_
    refine app_one (sz := 1) (ws := [byteV _]) sl24 (hv4.ext he5) hi5 rfl rfl (by omega) (by omega) fun p' c' H6 hv6 hs6 hb6 => ?_
    have hd5 := hd4.ext he5
    have hw : IntKind.wrap .i64 (x7 - 1) = x7 - 1 := by rw [IntWalk.i64_in _ (by omega)]
    rw [hw]
    have hd6 : Deck H H6 d xs (min (j + 1) xs.length) := by
      obtain ⟨g1, g2, g3, p2, n2, c2, t2, g4, g5⟩ := hd5
      refine ⟨fun k o hk => ?_, g2, g3, p2, n2, c2, t2, g4, ?_⟩
      · rw [hs6 k (fun hq => by rw [(hq5 k hq).1] at hk; cases hk) (by simp [g1 k o hk])]; exact g1 k o hk
      · rw [hs6 d (fun hq => (hq5 d hq).2 rfl) (by simp [g5])]; exact g5
    refine ⟨⟨bs ++ [_], _, by simp, by omega, by omega, by push_cast; omega, by simpa using hv6, hd6, fun k hk => ?_⟩, by show (x7 - 1).toNat < x7.toNat; omega⟩
    rcases hb6 k hk with h | h
    · exact hq5 k h
    · refine ⟨hd5.1.free h, fun e => ?_⟩
      obtain ⟨g1, g2, g3, p2, n2, c2, t2, g4, g5⟩ := hd5
      rw [e, g5] at h; cases h
  · unfold l09_pattern_17
    refine Next_c hd3 (b := 10) (by decide) fun H4 hd4 hf4 => ⟨_, rfl, ?_⟩
    have hb := drawOf_bounds (xs := xs) (k := j) (n := 10) (by omega) (by omega)
    have hv4 : Vec H4 1 p5 bs.length c5 (bs.map byteV) := hv5.keep fun i hi _ => hf4 i (hq5 i hi).2
    have e10 : (10 : Int) = ((10 : Nat) : Int) := rfl
    rw [e10]
    generalize drawOf xs j ((10 : Nat) : Int) = r1 at hb
    unfold l09_pattern_14
    refine ⟨fun p6 l6 c6 x8 H' => ∃ (t : List UInt8) (j : Nat), l6 = t.length ∧ x8 ≤ 9 ∧ 0 ≤ x8 ∧ (l6 : Int) + x8 ≤ 9 ∧ Vec H' 1 p6 t.length c6 (t.map byteV) ∧ Vec H' 1 p5 bs.length c5 (bs.map byteV) ∧ Deck H H' d xs j ∧ ∀ i, blk p6 i → H i = none ∧ i ≠ d ∧ ¬ blk p5 i,
      fun _ _ _ x8 _ => x8.toNat, ⟨[], _, rfl, by omega, by omega, by show (0 : Int) + _ ≤ _; omega, Vec.nil _ 1, hv4, hd4, fun i hi => by obtain ⟨a, ha, _⟩ := hi; cases ha⟩, ?_⟩
    rintro p6 l6 c6 x8 H5 ⟨t, j2, rfl, hy1, hy2, hy3, hv6, hv5', hd5, hq6⟩
    unfold l09_pattern_11
    refine sel_dec (fun hpos => ?_) (fun hend2 => ?_)
    · unfold l09_pattern_9
      refine Next_c hd5 (b := 6) (by decide) fun H6 hd6 hf6 => ⟨_, rfl, ?_⟩
      have hb := drawOf_bounds (xs := xs) (k := j2) (n := 6) (by omega) (by omega)
      refine ⟨⟨hb.1, hb.2⟩, ?_⟩
      rw [byte_cell]
      have hv6' : Vec H6 1 p6 t.length c6 (t.map byteV) := hv6.keep fun i hi _ => hf6 i (hq6 i hi).2.1
      have hv5'' : Vec H6 1 p5 bs.length c5 (bs.map byteV) := hv5'.keep fun i hi _ => hf6 i (hq5 i hi).2
      refine nw_ext fun i H7 hi he7 hi7 => ?_
      refine app_one (sz := 1) (ws := [byteV _]) sl24 (hv6'.ext he7) hi7 rfl rfl (by omega) (by omega) fun p' c' H8 hv8 hs8 hb8 => ?_
      have hd7 := hd6.ext he7
      have hv57 := hv5''.ext he7
      have hw : IntKind.wrap .i64 (x8 - 1) = x8 - 1 := by rw [IntWalk.i64_in _ (by omega)]
      rw [hw]
      have hd8 : Deck H H8 d xs (min (j2 + 1) xs.length) := by
        obtain ⟨g1, g2, g3, p2, n2, c2, t2, g4, g5⟩ := hd7
        refine ⟨fun k o hk => ?_, g2, g3, p2, n2, c2, t2, g4, ?_⟩
        · rw [hs8 k (fun hq => by rw [(hq6 k hq).1] at hk; cases hk) (by simp [g1 k o hk])]; exact g1 k o hk
        · rw [hs8 d (fun hq => (hq6 d hq).2.1 rfl) (by simp [g5])]; exact g5
      refine ⟨⟨t ++ [_], _, by simp, by omega, by omega, by push_cast; omega, by simpa using hv8, hv57.keep fun k hk hn => hs8 k (fun hq => (hq6 k hq).2.2 hk) hn, hd8, fun k hk => ?_⟩, by show (x8 - 1).toNat < x8.toNat; omega⟩
      rcases hb8 k hk with h | h
      · exact hq6 k h
      · refine ⟨hd7.1.free h, fun e => ?_, fun hb => hv57.known hb h⟩
        obtain ⟨g1, g2, g3, p2, n2, c2, t2, g4, g5⟩ := hd7
        rw [e, g5] at h; cases h
    · unfold l09_pattern_6
      refine ⟨bs, rfl, hv5'.rdS, ?_⟩
      refine rParse_c fun H6 p7 c7 L e hp hl he6 hv7 => ⟨_, _, _, _, rfl, ?_⟩
      have fin : ∀ (H7 : Heap) p9 c9 (L9 : List Nd), Ext H H7 → Vec H7 7 p9 L9.length c9 (flat L9) → L9.length ≤ 256 → Vec H7 1 p6 t.length c6 (t.map byteV) → l09_pattern_1 Q E p6 t.length c6 p9 L9.length c9 H7 := by
        intro H7 p9 c9 L9 he9 hv9 hl9 hvt
        unfold l09_pattern_1
        exact hk H7 p9 c9 L9 p6 c6 t he9 hv9 hl9 hvt (by omega)
      unfold l09_pattern_3
      refine sel_bne (fun hne => ?_) (fun heq => ?_)
      · refine Patterns_c fun H7 i he7 hi hc7 => ⟨_, _, _, rfl, ?_⟩
        have hd7 := (hd5.ext he6).ext he7
        refine Next_c hd7 (b := 7) (by decide) fun H8 hd8 hf8 => ⟨_, rfl, ?_⟩
        have hb := drawOf_bounds (xs := xs) (k := j2) (n := 7) (by omega) (by omega)
        have e7 : (7 : Int) = ((7 : Nat) : Int) := rfl
        rw [e7]
        generalize drawOf xs j2 ((7 : Nat) : Int) = r2 at hb
        have er : r2 = ((r2.toNat : Nat) : Int) := by omega
        have hid : i ≠ d := fun e => by
          obtain ⟨g1, g2, g3, p2, n2, c2, t2, g4, g5⟩ := hd5.ext he6
          rw [e, g5] at hi; cases hi
        have hc8 : H8 i = some _ := (hf8 i hid).trans hc7
        simp only [ptr_some, add_at]
        refine ⟨⟨by omega, by omega⟩, ldS_at hc8 (pats_get (n := 0 + r2.toNat * 1) (by omega)) ?_⟩
        refine rParse_c fun H9 p9 c9 L9 e9 hp9 hl9 he9 hv9 => ⟨_, _, _, _, rfl, ?_⟩
        have hvt : Vec H8 1 p6 t.length c6 (t.map byteV) := ((hv6.ext he6).ext he7).keep fun k hk _ => hf8 k (hq6 k hk).2.1
        exact fin H9 p9 c9 L9 (hd8.1.trans he9) hv9 hl9 (hvt.ext he9)
      · exact fin H6 p7 c7 L (hd5.1.trans he6) hv7 hl (hv6.ext he6)
theorem byt_cells {H : Heap} {i : Nat} {t : TypeId} {fr : Nat × Nat} (bs : List UInt8) (h : H i = some (.cells (bs.map byteV).toArray t fr)) : Byt H (some ⟨i, 0, none⟩) bs.length bs.length bs :=
  ⟨rfl, Nat.le_refl _, rd_at h _ 0 0 fun j hj => by simp⟩
theorem same_c {H : Heap} {p1 p2 : Option Addr} {c1 c2 n1 n2 : Nat} {A B : List Int} {Q : Value → Heap → Prop} {E : Chain → Heap → Prop} (h1 : Vec H 1 p1 n1 c1 (A.map (Value.int .i64))) (h2 : Vec H 1 p2 n2 c2 (B.map (Value.int .i64))) (hn1 : n1 = A.length) (hn2 : n2 = B.length)
    (hsz : A.length ≤ 1048576) (hk : A = B → Q (.bool true) H) (hk2 : A ≠ B → Q (.bool false) H) : Does Pr 26 #[.slice p1 n1 c1, .slice p2 n2 c2] H Q E := by
  refine l09_same_fn _ _ _ _ _ _ Q E H ?_
  subst hn1 hn2
  unfold l09_same l09_same_21
  refine sel_bne (fun hne => hk2 (fun e => hne (by rw [e]))) (fun heq => ?_)
  have hlen : A.length = B.length := by omega
  unfold l09_same_17 l09_same_14
  refine ⟨fun x H' => ∃ k : Nat, x = (k : Nat) ∧ k ≤ A.length ∧ H' = H ∧ A.take k = B.take k, fun x _ => (A.length - x).toNat, ⟨0, rfl, by omega, rfl, by simp⟩, ?_⟩
  rintro x H' ⟨k, rfl, hkl, rfl, htk⟩
  unfold l09_same_11 l09_same_8
  refine sel_dec (fun hlt => ?_) (fun hge => ?_)
  · have hlt : k < A.length := by omega
    have ha : A[k]? = some A[k] := List.getElem?_eq_getElem hlt
    have hb : B[k]? = some (B[k]'(by omega)) := List.getElem?_eq_getElem (by omega)
    generalize A[k] = a at ha
    generalize B[k]'(by omega) = b at hb
    obtain ⟨b1, t1, cs1, rfl, q1, g1⟩ := vec_at1 h1 (n := k) (v := .int .i64 a) (by simp [ha])
    obtain ⟨b2, t2, cs2, rfl, q2, g2⟩ := vec_at1 h2 (n := k) (v := .int .i64 b) (by simp [hb])
    unfold l09_same_5
    simp only [ptr_some, add_at, Int.toNat_natCast, Nat.mul_one, Nat.zero_add]
    refine ⟨⟨by omega, by omega⟩, ldI_at q1 g1 ⟨⟨by omega, by omega⟩, ldI_at q2 g2 ?_⟩⟩
    refine sel_bne (fun hne => hk2 (fun e => hne ?_)) (fun he => ?_)
    · subst e; rw [ha] at hb; exact Option.some.inj hb
    · unfold l09_same_3
      have hw : IntKind.wrap .i64 ((k : Int) + 1) = ((k + 1 : Nat) : Int) := by rw [IntWalk.i64_in _ (by omega)]; omega
      rw [hw]
      refine ⟨⟨k + 1, rfl, by omega, rfl, ?_⟩, by omega⟩
      rw [List.take_add_one, List.take_add_one, htk, ha, hb, he]
  · obtain rfl : k = A.length := by omega
    unfold l09_same_1
    refine hk ?_
    rw [List.take_length, hlen, List.take_length] at htk
    exact htk
theorem sane09_1 : endsOf (rParse ⟨[97, 42, 98].toArray⟩).1 [97, 97, 98] 0 = [3] := by decide +kernel
theorem sane09_2 : firstOf (rParse ⟨[97, 42, 98].toArray⟩).1 [97, 97, 98] = 3 := by decide +kernel
theorem sane09_3 : firstOf (rParse ⟨[36].toArray⟩).1 [120, 10] = 2 := by decide +kernel
theorem sane09_c {H : Heap} {Q : Value → Heap → Prop} {E : Chain → Heap → Prop} (hk : ∀ H', Ext H H' → Q (.bool true) H') : Does Pr 17 #[] H Q E := by
  refine l09_sane_fn Q E H ?_
  unfold l09_sane
  refine rParse_c fun H1 p1 c1 L1 e1 hp1 hl1 he1 hv1 => ⟨_, _, _, _, rfl, ?_⟩
  refine rParse_c fun H2 p2 c2 L2 e2 hp2 hl2 he2 hv2 => ⟨_, _, _, _, rfl, ?_⟩
  have s1 := sane09_1; rw [hp1] at s1
  have s2 := sane09_2; rw [hp1] at s2
  have s3 := sane09_3; rw [hp2] at s3
  dsimp only at s1 s2 s3
  refine nw_ext fun i H3 hi he3 hc3 => ⟨_, _, hc3, ?_⟩
  have txt : ∀ (H4 : Heap) (i : Nat) (bs : List UInt8) (t : TypeId) (fr : Nat × Nat), Byt (H4.set i (.cells (bs.map byteV).toArray t fr)) (some ⟨i, 0, none⟩) bs.length bs.length bs := fun H4 i bs t fr => byt_cells bs (Heap.set_self _ _ _)
  have he3' : Ext H2 (H3.set i (.cells #[.int .u8 97, .int .u8 97, .int .u8 98] 5 (3, 3 + 1))) := he3.set hi _
  have hb3 : Byt (H3.set i (.cells #[.int .u8 97, .int .u8 97, .int .u8 98] 5 (3, 3 + 1))) (some ⟨i, 0, none⟩) 3 3 [97, 97, 98] := txt H3 i [97, 97, 98] 5 (3, 4)
  change (fun H => Does Pr 24 #[.slice p1 L1.length c1, .slice (some ⟨i, 0, none⟩) 3 3, .int .i64 ((0 : Nat) : Int)] H _ E) (H3.set i (.cells #[.int .u8 97, .int .u8 97, .int .u8 98] 5 (3, 3 + 1)))
  revert he3' hb3
  generalize H3.set i (.cells #[.int .u8 97, .int .u8 97, .int .u8 98] 5 (3, 3 + 1)) = H4
  intro he4 hb4
  have hv14 := (hv1.ext he2).ext he4
  refine Ends_c (at_ := 0) hv14 hb4 (by omega) (by omega) fun H5 p5 c5 he5 hv5 => ⟨_, _, _, rfl, ?_⟩
  rw [s1] at hv5
  rw [s1]
  refine nw_ext fun k H6 hk6 he6 hc6 => ?_
  refine same_c (A := [3]) (B := [3]) (hv5.ext he6) (p2 := some ⟨k, 0, none⟩) (c2 := 1) ⟨rfl, Nat.le_refl _, k, _, 3, rfl, hc6, rfl, fun j hj => by simp⟩ rfl rfl (by simp) (fun _ => ⟨_, rfl, sel_tt ?_⟩) (fun h => absurd rfl h)
  refine nw_ext fun i2 H7 hi2 he7 hc7 => ⟨_, _, hc7, ?_⟩
  have he7' : Ext H6 (H7.set i2 (.cells #[.int .u8 97, .int .u8 97, .int .u8 98] 5 (3, 3 + 1))) := he7.set hi2 _
  have hb7 : Byt (H7.set i2 (.cells #[.int .u8 97, .int .u8 97, .int .u8 98] 5 (3, 3 + 1))) (some ⟨i2, 0, none⟩) 3 3 [97, 97, 98] := txt H7 i2 [97, 97, 98] 5 (3, 4)
  change (fun H => Does Pr 19 #[.slice p1 L1.length c1, .slice (some ⟨i2, 0, none⟩) 3 3] H _ E) (H7.set i2 (.cells #[.int .u8 97, .int .u8 97, .int .u8 98] 5 (3, 3 + 1)))
  revert he7' hb7
  generalize H7.set i2 (.cells #[.int .u8 97, .int .u8 97, .int .u8 98] 5 (3, 3 + 1)) = H8
  intro he8 hb8
  have h48 : Ext H4 H8 := (he5.trans he6).trans he8
  refine First_c (hv14.ext h48) hb8 (by omega) fun H9 he9 => ⟨_, rfl, ?_⟩
  rw [s2]
  refine sel_tt ?_
  refine nw_ext fun i3 H10 hi3 he10 hc10 => ⟨_, _, hc10, ?_⟩
  have he10' : Ext H9 (H10.set i3 (.cells #[.int .u8 120, .int .u8 10] 5 (2, 2 + 1))) := he10.set hi3 _
  have hb10 : Byt (H10.set i3 (.cells #[.int .u8 120, .int .u8 10] 5 (2, 2 + 1))) (some ⟨i3, 0, none⟩) 2 2 [120, 10] := txt H10 i3 [120, 10] 5 (2, 3)
  change (fun H => Does Pr 19 #[.slice p2 L2.length c2, .slice (some ⟨i3, 0, none⟩) 2 2] H _ E) (H10.set i3 (.cells #[.int .u8 120, .int .u8 10] 5 (2, 2 + 1)))
  revert he10' hb10
  generalize H10.set i3 (.cells #[.int .u8 120, .int .u8 10] 5 (2, 2 + 1)) = H11
  intro he11 hb11
  have h211 : Ext H2 H11 := (((he4.trans h48).trans he9)).trans he11
  refine First_c (hv2.ext h211) hb11 (by omega) fun H12 he12 => ⟨_, rfl, ?_⟩
  rw [s3]
  exact hk H12 (((he1.trans he2).trans h211).trans he12)
end Go.Proofs.Ytaffcoiomggpfaa

/- The statements LangLines and LangStays: their contracts. -/
namespace Go.Proofs.Ytaffcoiomggpfaa
open Go.V
attribute [local irreducible] app
set_option linter.constructorNameAsVariable false
set_option linter.unusedVariables false

theorem ends_le (st : List Nd) : ∀ (r : List UInt8) (i : Nat) (M : Ma), ∀ x ∈ endsL st r i M, x ≤ i + r.length
  | [], i, M, x, hx => by
    simp only [endsL] at hx
    split at hx <;> simp at hx
    simp; omega
  | c :: r, i, M, x, hx => by
    simp only [endsL] at hx
    rcases List.mem_append.1 hx with h | h
    · split at h <;> simp at h
      simp; omega
    · have := ends_le st r (i + 1) _ x h
      simp; omega
theorem endsOf_le {l : List Nd} {bs : List UInt8} {a x : Nat} (ha : a ≤ bs.length) (hx : x ∈ endsOf l bs a) : x ≤ bs.length := by
  unfold endsOf at hx
  split at hx
  · have := ends_le _ _ _ _ x hx
    simp at this; omega
  · simp at hx
theorem ends_len (st : List Nd) : ∀ (r : List UInt8) (i : Nat) (M : Ma), (endsL st r i M).length ≤ r.length + 1
  | [], i, M => by simp only [endsL]; split <;> simp
  | c :: r, i, M => by
    have := ends_len st r (i + 1) (Ma.read st true { M with now := (spread st M.bol (decide (c = 10)) M.now).1 } c.toNat)
    simp only [endsL, List.length_append, List.length_cons]
    split <;> simp <;> omega
theorem endsOf_len (l : List Nd) (bs : List UInt8) (a : Nat) : (endsOf l bs a).length ≤ bs.length + 1 := by
  unfold endsOf
  split
  · have := ends_len (buildOf l) (bs.drop a) a (startM (buildOf l) (decide (a = 0 ∨ bs[a - 1]? = some 10)))
    rw [List.length_drop] at this; omega
  · simp
set_option maxHeartbeats 1000000 in
theorem LangLines_c {H : Heap} {p pb : Option Addr} {n c nb cb : Nat} {xs : List Int} {bs : List UInt8} {Q : Value → Heap → Prop} {E : Chain → Heap → Prop} (h : Ints H p n xs) (hb : Byt H pb nb cb bs)
    (hk : ∀ H', Ext H H' → Q (.bool true) H') : Does Pr 6 #[.slice p n c, .slice pb nb cb] H Q E := by
  refine l09_LangLines_fn _ _ _ _ _ _ Q E H ?_
  unfold l09_LangLines l09_LangLines_36
  refine sane09_c fun H1 he1 => ⟨_, rfl, sel_ff ?_⟩
  unfold l09_LangLines_33
  refine sel_dec (fun _ => hk _ he1) (fun hnb => ?_)
  unfold l09_LangLines_30
  refine pattern09_c (h.ext he1) fun H2 pn cn L pt ct t he2 hvn hL hvt ht => ⟨_, _, _, _, _, _, rfl, ?_⟩
  have he12 := he1.trans he2
  have hb2 := hb.ext he12
  unfold l09_LangLines_27
  refine nw_ext fun i H3 hi he3 hc3 => ?_
  refine app_byt (bs := []) (vec_empty hc3) (hb2.ext he3) (by omega) fun p4 c4 H4 hv4 hs4 hb4 => ?_
  have he4 : Ext H2 H4 := ext_app he3 (fresh_blk hi) hs4
  have hf4 := fresh_app he3 (fresh_blk hi) hb4
  refine nw_ext fun k H5 hk5 he5 hc5 => ?_
  refine app_byt (ws := [10]) (hv4.ext he5) ⟨rfl, Nat.le_refl _, rd_at hc5 _ 0 0 fun j hj => by simp; rfl⟩ (by omega) fun p6 c6 H6 hv6 hs6 hb6 => ?_
  have he6 : Ext H2 H6 := ext_app (he4.trans he5) hf4 hs6
  have hf6 := fresh_app (he4.trans he5) hf4 hb6
  rw [List.nil_append] at hv6
  have hbl := hb2.1
  have hhl : (bs ++ [10]).length = 0 + nb + 1 := by simp; omega
  unfold l09_LangLines_24
  refine Ends_c (at_ := 0) (hvn.ext he6) ((vec_byt hvt).ext he6) (by omega) (by omega) fun H7 p7 c7 he7 hv7 => ⟨_, _, _, rfl, ?_⟩
  have hv67 := hv6.ext he7
  have he27 := he6.trans he7
  refine nw_ext fun i8 H8 hi8 he8 hc8 => ?_
  have he78 := he8
  refine app_byt (bs := []) (vec_empty hc8) (vec_byt (hv67.ext he8)) (by omega) fun p9 c9 H9 hv9 hs9 hb9 => ?_
  have he9 : Ext H7 H9 := ext_app he8 (fresh_blk hi8) hs9
  have hf9 := fresh_app he8 (fresh_blk hi8) hb9
  rw [List.nil_append] at hv9
  refine app_byt hv9 ((vec_byt hvt).ext (he27.trans he9)) (by omega) fun p10 c10 H10 hv10 hs10 hb10 => ?_
  have he10 : Ext H7 H10 := ext_app he9 hf9 hs10
  have hlines := endsOf_lines L bs t
  have hb10l : (bs ++ [10] ++ t).length = 0 + nb + 1 + t.length := by rw [List.length_append, hhl]
  generalize bs ++ [10] ++ t = W at hv10 hlines hb10l
  generalize (bs ++ [10]).length = D at hlines hhl
  subst hhl
  refine Ends_c (at_ := 0 + nb + 1) ((hvn.ext he27).ext he10) (vec_byt hv10) (by omega) (by omega) fun H11 p11 c11 he11 hv11 => ⟨_, _, _, rfl, ?_⟩
  rw [hlines] at hv11 ⊢
  have hA : Vec H11 1 p7 (endsOf L t 0).length c7 ((endsOf L t 0).map natV) := (hv7.ext he10).ext he11
  have hle : ∀ x ∈ endsOf L t 0, x ≤ t.length := fun x hx => endsOf_le (by omega) hx
  have hfin : Ext H H11 := ((he12.trans he27).trans he10).trans he11
  have hlenA := endsOf_len L t 0
  generalize endsOf L t 0 = A at hA hv11 hle hlenA
  unfold l09_LangLines_21
  refine sel_bne (fun hne => absurd (by rw [List.length_map]) hne) (fun _ => ?_)
  unfold l09_LangLines_17 l09_LangLines_14
  refine ⟨fun x H' => ∃ k : Nat, x = (k : Nat) ∧ k ≤ A.length ∧ H' = H11, fun x _ => (A.length - x).toNat, ⟨0, rfl, by omega, rfl⟩, ?_⟩
  rintro x H' ⟨k, rfl, hkl, rfl⟩
  unfold l09_LangLines_11 l09_LangLines_8
  refine sel_dec (fun hlt => ?_) (fun hge => ?_)
  · have hlt : k < A.length := by omega
    have ha : A[k]? = some A[k] := List.getElem?_eq_getElem hlt
    have ham := hle A[k] (List.getElem_mem hlt)
    generalize A[k] = a at ha ham
    obtain ⟨b1, t1, cs1, rfl, q1, g1⟩ := vec_at1 hA (n := k) (v := natV a) (by simp [ha])
    obtain ⟨b2, t2, cs2, rfl, q2, g2⟩ := vec_at1 hv11 (n := k) (v := natV (a + (0 + nb + 1))) (by simp [ha])
    unfold l09_LangLines_5
    simp only [ptr_some, add_at, Int.toNat_natCast, Nat.mul_one, Nat.zero_add]
    refine ⟨⟨by omega, by omega⟩, ldI_at q1 g1 ⟨⟨by omega, by rw [List.length_map]; omega⟩, ldI_at q2 g2 ?_⟩⟩
    have hw : IntKind.wrap .i64 (((a : Nat) : Int) + ((0 + nb + 1 : Nat) : Int)) = ((a + (0 + nb + 1) : Nat) : Int) := by rw [IntWalk.i64_in _ (by omega)]; omega
    refine sel_bne (fun hne => absurd (by rw [← hw, Nat.zero_add]) hne) (fun _ => ?_)
    unfold l09_LangLines_3
    have hw1 : IntKind.wrap .i64 ((k : Int) + 1) = ((k + 1 : Nat) : Int) := by rw [IntWalk.i64_in _ (by omega)]; omega
    rw [hw1]
    exact ⟨⟨k + 1, rfl, by omega, rfl⟩, by omega⟩
  · unfold l09_LangLines_1
    exact hk _ hfin
set_option maxHeartbeats 1000000 in
theorem LangStays_c {H : Heap} {p pb : Option Addr} {n c nb cb : Nat} {xs : List Int} {bs : List UInt8} {Q : Value → Heap → Prop} {E : Chain → Heap → Prop} (h : Ints H p n xs) (hb : Byt H pb nb cb bs)
    (hk : ∀ H', Ext H H' → Q (.bool true) H') : Does Pr 4 #[.slice p n c, .slice pb nb cb] H Q E := by
  refine l09_LangStays_fn _ _ _ _ _ _ Q E H ?_
  unfold l09_LangStays l09_LangStays_18
  refine sane09_c fun H1 he1 => ⟨_, rfl, sel_ff ?_⟩
  unfold l09_LangStays_15
  refine sel_dec (fun _ => hk _ he1) (fun hnb => ?_)
  unfold l09_LangStays_12
  refine pattern09_c (h.ext he1) fun H2 pn cn L pt ct t he2 hvn hL hvt ht => ⟨_, _, _, _, _, _, rfl, ?_⟩
  have he12 := he1.trans he2
  have hb2 := hb.ext he12
  obtain ⟨f1, f2, f3⟩ := firstOf_stays L t bs
  unfold l09_LangStays_9
  refine First_c hvn (vec_byt hvt) (by omega) fun H3 he3 => ⟨_, rfl, ?_⟩
  have he23 := he12.trans he3
  generalize firstOf L t = k at f1 f2 f3
  unfold l09_LangStays_5
  refine sel_dec (fun h => absurd h (by omega)) (fun _ => ?_)
  unfold l09_LangStays_3
  refine sel_dec (fun h => absurd h (by omega)) (fun _ => ?_)
  unfold l09_LangStays_1
  refine sel_dec (fun _ => hk _ he23) (fun hpos => ?_)
  obtain ⟨f4, f5⟩ := f3 (by omega)
  refine nw_ext fun i H4 hi he4 hc4 => ?_
  have hbt := (vec_byt hvt).ext (he3.trans he4)
  refine app_byt (bs := []) (vec_empty hc4) hbt (by omega) fun p5 c5 H5 hv5 hs5 hb5 => ?_
  have he5 : Ext H3 H5 := ext_app he4 (fresh_blk hi) hs5
  have hf5 := fresh_app he4 (fresh_blk hi) hb5
  rw [List.nil_append] at hv5
  refine app_byt hv5 (hb2.ext (he3.trans he5)) (by omega) fun p6 c6 H6 hv6 hs6 hb6 => ?_
  have he6 : Ext H3 H6 := ext_app he5 hf5 hs6
  refine First_c (hvn.ext (he3.trans he6)) (vec_byt hv6) (by omega) fun H7 he7 => ⟨_, rfl, ?_⟩
  rw [f4]
  have ek : ((k == k) : Bool) = true := by simp
  rw [ek]
  refine sel_tt ⟨⟨by omega, by have := hvt.2.1; omega⟩, ?_⟩
  have hbt7 := ((vec_byt hvt).ext ((he3.trans he6).trans he7)).take k.toNat (by omega)
  refine First_c (hvn.ext ((he3.trans he6).trans he7)) hbt7 (by omega) fun H8 he8 => ⟨_, rfl, ?_⟩
  rw [f5, ek]
  exact hk H8 (((he23.trans he6).trans he7).trans he8)
end Go.Proofs.Ytaffcoiomggpfaa
