import Derived.Test.YtaffcoiomggpfaaVRegex3
import Derived.Test.YtaffcoiomggpfaaVMean
import Derived.Test.YtaffcoiomggpfaaVR08b
import Derived.Test.YtaffcoiomggpfaaVShift
import Derived.Test.YtaffcoiomggpfaaVPEq3
import Derived.Test.YtaffcoiomggpfaaFl10
import Derived.Test.YtaffcoiomggpfaaFr10
/- Contracts of package jobmuxlaw10: sane, pattern; the reference's Valid. -/
namespace Go.Proofs.Ytaffcoiomggpfaa
open Go.V
attribute [local irreducible] app
set_option linter.constructorNameAsVariable false
set_option linter.unusedVariables false

theorem byte_cell10 (s : ByteArray) (n : Int) : Value.int .u8 (sAt s n) = byteV (s.data.getD n.toNat 0) := rfl
theorem rParse_valid {s : ByteArray} {L : List Nd} (h : rParse s = (L, 0)) : validOf L = true := ((rxParse_small (by rw [parse_eq]; exact h)).2 rfl).2.2.1
set_option maxHeartbeats 1000000 in
theorem pattern10_c {H : Heap} {p : OA} {n c : Nat} {xs : List Int} {Q : QT} {E : ET} (h : Ints H p n xs)
    (hk : ∀ (H' : Heap) (pn : OA) (cn : Nat) (L : List Nd) (pt : OA) (ct : Nat) (t : List UInt8), Ext H H' → Vec H' 7 pn L.length cn (flat L) → L.length ≤ 256 → validOf L = true → Vec H' 1 pt t.length ct (t.map byteV) → t.length ≤ 11 → Q (.tuple #[.slice pn L.length cn, .slice pt t.length ct]) H') :
    Does Pr 32 #[.slice p n c] H Q E := by
  refine zqh1_fn _ _ _ Q E H ?_
  unfold zqh1 zqh1_36
  refine New_c h fun d H1 hd => ⟨_, rfl, ?_⟩
  unfold zqh1_33 zqh1_29
  refine Range_c' (lo := 1) (hi := 16) hd (by omega) (by omega) fun H2 hd2 hf2 => ⟨_, rfl, ?_⟩
  have hb0 := drawOf_bounds (xs := xs) (k := 0) (n := 16) (by omega) (by omega)
  have e14 : ((16 - 1 + 1 : Nat) : Int) = ((16 : Nat) : Int) := rfl
  rw [e14]
  generalize drawOf xs 0 ((16 : Nat) : Int) = r0 at hb0
  unfold zqh1_26
  refine ⟨fun p5 l5 c5 x7 H' => ∃ (bs : List UInt8) (j : Nat), l5 = bs.length ∧ x7 ≤ 16 ∧ (0 ≤ x7) ∧ (l5 : Int) + x7 ≤ 16 ∧ Vec H' 1 p5 bs.length c5 (bs.map byteV) ∧ Deck H H' d xs j ∧ ∀ i, blk p5 i → H i = none ∧ i ≠ d,
    fun _ _ _ x7 _ => x7.toNat, ⟨[], _, rfl, by omega, by omega, by show (0 : Int) + _ ≤ _; omega, Vec.nil _ 1, hd2, fun i hi => by obtain ⟨a, ha, _⟩ := hi; cases ha⟩, ?_⟩
  rintro p5 l5 c5 x7 H3 ⟨bs, j, rfl, hx1, hx2, hx3, hv5, hd3, hq5⟩
  unfold zqh1_23
  refine sel_dec (fun hpos => ?_) (fun hend => ?_)
  · unfold zqh1_21
    refine Next_c hd3 (b := 16) (by decide) fun H4 hd4 hf4 => ⟨_, rfl, ?_⟩
    have hb := drawOf_bounds (xs := xs) (k := j) (n := 16) (by omega) (by omega)
    refine ⟨⟨hb.1, hb.2⟩, ?_⟩
    rw [byte_cell10]
    have hv4 : Vec H4 1 p5 bs.length c5 (bs.map byteV) := hv5.keep fun i hi _ => hf4 i (hq5 i hi).2
    refine nw_ext fun i H5 hi he5 hi5 => ?_
    refine app_one (sz := 1) (ws := [byteV _]) sl24 (hv4.ext he5) hi5 rfl rfl (by omega) (by omega) fun p' c' H6 hv6 hs6 hb6 => ?_
    have hd5 := hd4.ext he5
    have hw : IntKind.wrap .i64 (x7 - 1) = x7 - 1 := by rw [IntWalk.i64_in _ (by omega)]
    rw [hw]
    have hd6 : Deck H H6 d xs (min (j + 1) xs.length) := by
      obtain ⟨g1, g2, g3, p2, n2, c2, t2, g4, g5⟩ := hd5
      refine ⟨fun k o hk => ?_, g2, g3, p2, n2, c2, t2, g4, ?_⟩
      · rw [hs6 k (fun hq => by rw [(hq5 k hq).1] at hk; cases hk) (by simp [g1 k o hk])]; exact g1 k o hk
      · rw [hs6 d (fun hq => (hq5 d hq).2 rfl) (by simp [g5])]; exact g5
    refine ⟨⟨bs ++ [_], _, by simp, by omega, by omega, by push_cast; omega, by simpa using hv6, hd6, fun k hk => ?_⟩, by show (x7 - 1).toNat < x7.toNat; omega⟩
    rcases hb6 k hk with h | h
    · exact hq5 k h
    · refine ⟨hd5.1.free h, fun e => ?_⟩
      obtain ⟨g1, g2, g3, p2, n2, c2, t2, g4, g5⟩ := hd5
      rw [e, g5] at h; cases h
  · unfold zqh1_17
    refine Next_c hd3 (b := 12) (by decide) fun H4 hd4 hf4 => ⟨_, rfl, ?_⟩
    have hb := drawOf_bounds (xs := xs) (k := j) (n := 12) (by omega) (by omega)
    have hv4 : Vec H4 1 p5 bs.length c5 (bs.map byteV) := hv5.keep fun i hi _ => hf4 i (hq5 i hi).2
    have e10 : (12 : Int) = ((12 : Nat) : Int) := rfl
    rw [e10]
    generalize drawOf xs j ((12 : Nat) : Int) = r1 at hb
    unfold zqh1_14
    refine ⟨fun p6 l6 c6 x8 H' => ∃ (t : List UInt8) (j : Nat), l6 = t.length ∧ x8 ≤ 11 ∧ 0 ≤ x8 ∧ (l6 : Int) + x8 ≤ 11 ∧ Vec H' 1 p6 t.length c6 (t.map byteV) ∧ Vec H' 1 p5 bs.length c5 (bs.map byteV) ∧ Deck H H' d xs j ∧ ∀ i, blk p6 i → H i = none ∧ i ≠ d ∧ ¬ blk p5 i,
      fun _ _ _ x8 _ => x8.toNat, ⟨[], _, rfl, by omega, by omega, by show (0 : Int) + _ ≤ _; omega, Vec.nil _ 1, hv4, hd4, fun i hi => by obtain ⟨a, ha, _⟩ := hi; cases ha⟩, ?_⟩
    rintro p6 l6 c6 x8 H5 ⟨t, j2, rfl, hy1, hy2, hy3, hv6, hv5', hd5, hq6⟩
    unfold zqh1_11
    refine sel_dec (fun hpos => ?_) (fun hend2 => ?_)
    · unfold zqh1_9
      refine Next_c hd5 (b := 7) (by decide) fun H6 hd6 hf6 => ⟨_, rfl, ?_⟩
      have hb := drawOf_bounds (xs := xs) (k := j2) (n := 7) (by omega) (by omega)
      refine ⟨⟨hb.1, hb.2⟩, ?_⟩
      rw [byte_cell10]
      have hv6' : Vec H6 1 p6 t.length c6 (t.map byteV) := hv6.keep fun i hi _ => hf6 i (hq6 i hi).2.1
      have hv5'' : Vec H6 1 p5 bs.length c5 (bs.map byteV) := hv5'.keep fun i hi _ => hf6 i (hq5 i hi).2
      refine nw_ext fun i H7 hi he7 hi7 => ?_
      refine app_one (sz := 1) (ws := [byteV _]) sl24 (hv6'.ext he7) hi7 rfl rfl (by omega) (by omega) fun p' c' H8 hv8 hs8 hb8 => ?_
      have hd7 := hd6.ext he7
      have hv57 := hv5''.ext he7
      have hw : IntKind.wrap .i64 (x8 - 1) = x8 - 1 := by rw [IntWalk.i64_in _ (by omega)]
      rw [hw]
      have hd8 : Deck H H8 d xs (min (j2 + 1) xs.length) := by
        obtain ⟨g1, g2, g3, p2, n2, c2, t2, g4, g5⟩ := hd7
        refine ⟨fun k o hk => ?_, g2, g3, p2, n2, c2, t2, g4, ?_⟩
        · rw [hs8 k (fun hq => by rw [(hq6 k hq).1] at hk; cases hk) (by simp [g1 k o hk])]; exact g1 k o hk
        · rw [hs8 d (fun hq => (hq6 d hq).2.1 rfl) (by simp [g5])]; exact g5
      refine ⟨⟨t ++ [_], _, by simp, by omega, by omega, by push_cast; omega, by simpa using hv8, hv57.keep fun k hk hn => hs8 k (fun hq => (hq6 k hq).2.2 hk) hn, hd8, fun k hk => ?_⟩, by show (x8 - 1).toNat < x8.toNat; omega⟩
      rcases hb8 k hk with h | h
      · exact hq6 k h
      · refine ⟨hd7.1.free h, fun e => ?_, fun hb => hv57.known hb h⟩
        obtain ⟨g1, g2, g3, p2, n2, c2, t2, g4, g5⟩ := hd7
        rw [e, g5] at h; cases h
    · unfold zqh1_6
      refine ⟨bs, rfl, hv5'.rdS, ?_⟩
      refine rParse_c fun H6 p7 c7 L e hp hl he6 hv7 => ⟨_, _, _, _, rfl, ?_⟩
      have fin : ∀ (H7 : Heap) p9 c9 (L9 : List Nd), Ext H H7 → Vec H7 7 p9 L9.length c9 (flat L9) → L9.length ≤ 256 → validOf L9 = true → Vec H7 1 p6 t.length c6 (t.map byteV) → zqh1_1 Q E p6 t.length c6 p9 L9.length c9 H7 := by
        intro H7 p9 c9 L9 he9 hv9 hl9 hval hvt
        unfold zqh1_1
        exact hk H7 p9 c9 L9 p6 c6 t he9 hv9 hl9 hval hvt (by omega)
      unfold zqh1_3
      refine sel_bne (fun hne => ?_) (fun heq => ?_)
      · refine Patterns_c fun H7 i he7 hi hc7 => ⟨_, _, _, rfl, ?_⟩
        have hd7 := (hd5.ext he6).ext he7
        refine Next_c hd7 (b := 7) (by decide) fun H8 hd8 hf8 => ⟨_, rfl, ?_⟩
        have hb := drawOf_bounds (xs := xs) (k := j2) (n := 7) (by omega) (by omega)
        have e7 : (7 : Int) = ((7 : Nat) : Int) := rfl
        rw [e7]
        generalize drawOf xs j2 ((7 : Nat) : Int) = r2 at hb
        have er : r2 = ((r2.toNat : Nat) : Int) := by omega
        have hid : i ≠ d := fun e => by
          obtain ⟨g1, g2, g3, p2, n2, c2, t2, g4, g5⟩ := hd5.ext he6
          rw [e, g5] at hi; cases hi
        have hc8 : H8 i = some _ := (hf8 i hid).trans hc7
        simp only [ptr_some, add_at]
        refine ⟨⟨by omega, by omega⟩, ldS_at hc8 (pats_get (n := 0 + r2.toNat * 1) (by omega)) ?_⟩
        refine rParse_c fun H9 p9 c9 L9 e9 hp9 hl9 he9 hv9 => ⟨_, _, _, _, rfl, ?_⟩
        have hvt : Vec H8 1 p6 t.length c6 (t.map byteV) := ((hv6.ext he6).ext he7).keep fun k hk _ => hf8 k (hq6 k hk).2.1
        have hval9 : validOf L9 = true := by
          have hv7 := (alg_valid ⟨r2.toNat, by omega⟩ ⟨0, by omega⟩).1
          have e0 : 0 + r2.toNat * 1 = r2.toNat := by omega
          rw [e0] at hp9
          have hp9' : rParse (pat7 r2.toNat) = (L9, e9) := hp9
          rw [hp9'] at hv7; exact hv7
        exact fin H9 p9 c9 L9 (hd8.1.trans he9) hv9 hl9 hval9 (hvt.ext he9)
      · exact fin H6 p7 c7 L (hd5.1.trans he6) hv7 hl (rParse_valid (by rw [hp, heq])) (hv6.ext he6)

def Kd (x : Nd) : Prop := 1 ≤ x.k ∧ x.k ≤ 4
theorem setL_kd {n : Nat} {v : Int} {st : List Nd} (h : ∀ x ∈ st, Kd x) : ∀ x ∈ setL st n v, Kd x := by
  intro x hx
  obtain ⟨i, hi⟩ := List.mem_iff_getElem?.1 hx
  unfold setL at hi
  rw [List.getElem?_modify] at hi
  cases hs : st[i]? with
  | none => rw [hs] at hi; simp at hi
  | some y =>
    rw [hs] at hi
    have hy := h y (List.mem_iff_getElem?.2 ⟨i, hs⟩)
    simp at hi
    subst hi
    split <;> exact hy
theorem bd_kd (l : List Nd) : ∀ (f n out : Nat) (st : List Nd), ∃ new, (bd l f n out st).2 = st ++ new ∧ ∀ x ∈ new, Kd x
  | 0, n, out, st => ⟨[], by simp [bd], by simp⟩
  | f + 1, n, out, st => by
    unfold bd
    dsimp only
    split
    · exact ⟨_, rfl, by simp [Kd]⟩
    split
    · exact ⟨_, rfl, by simp [Kd]⟩
    split
    · exact ⟨_, rfl, by simp [Kd]⟩
    split
    · obtain ⟨a, ha, ka⟩ := bd_kd l f (l.getD n default).r.toNat out st
      obtain ⟨b, hb, kb⟩ := bd_kd l f (l.getD n default).l.toNat (bd l f (l.getD n default).r.toNat out st).1 (bd l f (l.getD n default).r.toNat out st).2
      exact ⟨a ++ b, by rw [hb, ha, List.append_assoc], fun x hx => (List.mem_append.1 hx).elim (ka x) (kb x)⟩
    split
    · obtain ⟨a, ha, ka⟩ := bd_kd l f (l.getD n default).l.toNat out st
      obtain ⟨b, hb, kb⟩ := bd_kd l f (l.getD n default).r.toNat out (bd l f (l.getD n default).l.toNat out st).2
      refine ⟨a ++ (b ++ [⟨2, (bd l f (l.getD n default).l.toNat out st).1, (bd l f (l.getD n default).r.toNat out (bd l f (l.getD n default).l.toNat out st).2).1, 0, 0, 0, 0⟩]), ?_, fun x hx => ?_⟩
      · show _ ++ [_] = _
        rw [hb, ha, List.append_assoc, List.append_assoc]
      · rcases List.mem_append.1 hx with hx | hx
        · exact ka x hx
        · rcases List.mem_append.1 hx with hx | hx
          · exact kb x hx
          · obtain rfl := List.mem_singleton.1 hx; simp [Kd]
    split
    · obtain ⟨a, ha, ka⟩ := bd_kd l f (l.getD n default).l.toNat out st
      refine ⟨a ++ [_], by rw [ha, List.append_assoc], fun x hx => ?_⟩
      rcases List.mem_append.1 hx with hx | hx
      · exact ka x hx
      · obtain rfl := List.mem_singleton.1 hx; simp [Kd]
    split
    · obtain ⟨a, ha, ka⟩ := bd_kd l f (l.getD n default).l.toNat st.length (st ++ [⟨2, 0, out, 0, 0, 0, 0⟩])
      refine ⟨setL ([⟨2, 0, out, 0, 0, 0, 0⟩] ++ a) 0 ((bd l f (l.getD n default).l.toNat st.length (st ++ [⟨2, 0, out, 0, 0, 0, 0⟩])).1 : Nat), ?_, setL_kd fun x hx => ?_⟩
      · rw [ha, List.append_assoc]
        exact setL_end st _ _
      · rcases List.mem_append.1 hx with hx | hx
        · obtain rfl := List.mem_singleton.1 hx; simp [Kd]
        · exact ka x hx
    · exact ⟨[], by simp, by simp⟩
theorem build_NV {l : List Nd} (h : validOf l = true) : NV (buildOf l) := by
  obtain ⟨b1, b2, b3, b4⟩ := build_facts h
  refine ⟨by omega, by omega, b1, fun x hx => ?_⟩
  obtain ⟨new, hnew, hk⟩ := bd_kd l l.length (l.length - 1) 1 [⟨2, 0, 0, 0, 0, 0, 0⟩, ⟨5, 0, 0, 0, 0, 0, 0⟩]
  obtain ⟨i, hi⟩ := List.mem_iff_getElem?.1 hx
  unfold buildOf at hi
  rw [hnew] at hi
  unfold setLR at hi
  rw [List.getElem?_modify] at hi
  cases hs : ([⟨2, 0, 0, 0, 0, 0, 0⟩, ⟨5, 0, 0, 0, 0, 0, 0⟩] ++ new : List Nd)[i]? with
  | none => rw [hs] at hi; simp at hi
  | some y =>
    rw [hs] at hi
    have hy : 1 ≤ y.k ∧ y.k ≤ 5 := by
      have hm := List.mem_iff_getElem?.2 ⟨i, hs⟩
      rcases List.mem_append.1 hm with hm | hm
      · simp at hm
        rcases hm with rfl | rfl <;> simp
      · have := hk y hm
        unfold Kd at this; omega
    simp at hi
    subst hi
    split <;> exact hy
theorem nd_get {H : Heap} {p : OA} {st : List Nd} {i : Nat} {x : Nd} {o : Nat} {n : Int} {K : Int → Prop} (hv : Nds H p st) (hx : st[i]? = some x) (ho : o < 3) (hn : n = if o = 0 then x.k else if o = 1 then x.l else x.r) (hK : K n) :
    (0 ≤ (i : Int) ∧ (i : Int) < ((st.length : Nat) : Int)) ∧ ptr p fun q => ldI .i64 (Addr.add (Addr.add q ((i : Int).toNat * 7)) o) H K := by
  have hlt := (List.getElem?_eq_some_iff.1 hx).1
  refine ⟨⟨by omega, by omega⟩, ?_⟩
  obtain ⟨a, rfl, hrd⟩ := hv i x hx
  simp only [ptr_some, Int.toNat_natCast]
  subst hn
  have : H.cell? ((a.add (i * 7)).add (0 + o)) = some (.int .i64 (if o = 0 then x.k else if o = 1 then x.l else x.r)) := rd_get hrd (by
    match o, ho with
    | 0, _ => rfl
    | 1, _ => rfl
    | 2, _ => rfl)
  rw [Nat.zero_add] at this
  exact ⟨_, this, hK⟩
theorem nd_get0 {H : Heap} {p : OA} {st : List Nd} {i : Nat} {x : Nd} {K : Int → Prop} (hv : Nds H p st) (hx : st[i]? = some x) (hK : K x.k) :
    (0 ≤ (i : Int) ∧ (i : Int) < ((st.length : Nat) : Int)) ∧ ptr p fun q => ldI .i64 (Addr.add q ((i : Int).toNat * 7)) H K := by
  have hlt := (List.getElem?_eq_some_iff.1 hx).1
  refine ⟨⟨by omega, by omega⟩, ?_⟩
  obtain ⟨a, rfl, hrd⟩ := hv i x hx
  simp only [ptr_some, Int.toNat_natCast]
  have : H.cell? ((a.add (i * 7)).add (0 + 0)) = some (.int .i64 x.k) := rd_get hrd rfl
  have e : (a.add (i * 7)).add (0 + 0) = a.add (i * 7) := by simp [Addr.add]
  rw [e] at this
  exact ⟨_, this, hK⟩
theorem r10Valid_c {H : Heap} {p : OA} {c : Nat} {st : List Nd} {Q : QT} {E : ET} (hv : Nds H p st) (hN : NV st) (hk : Q (.bool true) H) : Does Pr 34 #[.slice p st.length c] H Q E := by
  obtain ⟨n1, n2, hr, hkind⟩ := hN
  refine zqo2_fn _ _ _ Q E H ?_
  unfold zqo2 zqo2_21 zqo2_18
  refine ⟨fun x H' => ∃ j : Nat, x = (j : Nat) ∧ j ≤ st.length ∧ H' = H, fun x _ => ((st.length : Int) - x).toNat, ⟨0, rfl, by omega, rfl⟩, ?_⟩
  rintro x H2 ⟨j, rfl, hj, rfl⟩
  unfold zqo2_15
  refine sel_dec (fun hlt => ?_) (fun hge => ?_)
  · have hlt : j < st.length := by omega
    have hx := getD_some hlt
    have hkx := hkind _ (List.mem_iff_getElem?.2 ⟨j, hx⟩)
    have hrx := hr _ (List.mem_iff_getElem?.2 ⟨j, hx⟩)
    generalize st.getD j default = X at hx hkx hrx
    have next : zqo2_5 (fun x' H' => (∃ j : Nat, x' = (j : Nat) ∧ j ≤ st.length ∧ H' = H2) ∧ ((st.length : Int) - x').toNat < ((st.length : Int) - (j : Nat)).toNat) Q E p st.length c j false H2 := by
      unfold zqo2_5
      refine sel_ff ?_
      unfold zqo2_3
      have hw : IntKind.wrap .i64 ((j : Int) + 1) = ((j + 1 : Nat) : Int) := by rw [IntWalk.i64_in _ (by omega)]; omega
      rw [hw]
      exact ⟨⟨j + 1, rfl, by omega, rfl⟩, by omega⟩
    unfold zqo2_10
    refine nd_get0 hv hx ?_
    unfold zqo2_7
    have two : sel (X.k == 2)
        ((0 ≤ (j : Int) ∧ (j : Int) < ((st.length : Nat) : Int)) ∧ ptr p fun q48 =>
          ldI .i64 (Addr.add (Addr.add q48 ((j : Int).toNat * 7)) 2) H2 fun n49 =>
          sel (decide ((n49 : Int) < 0))
          (zqo2_5 (fun x' H' => (∃ j : Nat, x' = (j : Nat) ∧ j ≤ st.length ∧ H' = H2) ∧ ((st.length : Int) - x').toNat < ((st.length : Int) - (j : Nat)).toNat) Q E p st.length c j true H2)
          ((0 ≤ (j : Int) ∧ (j : Int) < ((st.length : Nat) : Int)) ∧ ptr p fun q50 =>
          ldI .i64 (Addr.add (Addr.add q50 ((j : Int).toNat * 7)) 2) H2 fun n51 =>
          zqo2_5 (fun x' H' => (∃ j : Nat, x' = (j : Nat) ∧ j ≤ st.length ∧ H' = H2) ∧ ((st.length : Int) - x').toNat < ((st.length : Int) - (j : Nat)).toNat) Q E p st.length c j (decide ((n51 : Int) ≥ ((st.length : Nat) : Int))) H2))
        (zqo2_5 (fun x' H' => (∃ j : Nat, x' = (j : Nat) ∧ j ≤ st.length ∧ H' = H2) ∧ ((st.length : Int) - x').toNat < ((st.length : Int) - (j : Nat)).toNat) Q E p st.length c j false H2) := by
      refine sel_beq (fun h2 => ?_) (fun h2 => next)
      refine nd_get (o := 2) hv hx (by omega) (n := X.r) rfl ?_
      refine sel_dec (fun h => by omega) (fun _ => ?_)
      refine nd_get (o := 2) hv hx (by omega) (n := X.r) rfl ?_
      rw [decide_eq_false (by omega)]
      exact next
    refine sel_dec (fun h => by omega) (fun _ => ?_)
    refine sel_dec (fun h => by omega) (fun _ => ?_)
    refine sel_bne (fun h5 => ?_) (fun h5 => two)
    refine nd_get (o := 1) hv hx (by omega) (n := X.l) rfl ?_
    refine sel_dec (fun h => by omega) (fun _ => ?_)
    refine nd_get (o := 1) hv hx (by omega) (n := X.l) rfl ?_
    refine sel_dec (fun h => by omega) (fun _ => two)
  · unfold zqo2_1
    refine sel_dec (fun _ => ?_) (fun h => absurd (by omega) h)
    rw [decide_eq_true (by omega)]
    exact hk
theorem sane10_1 : sampleOf (buildOf (rParse ⟨[97, 98, 124, 99].toArray⟩).1) = some [99] := by decide +kernel
theorem sane10_2 : sampleOf (buildOf (rParse ⟨[97, 94, 98].toArray⟩).1) = none := by decide +kernel
theorem sane10_3 : runOf (buildOf (rParse ⟨[97, 98, 124, 99].toArray⟩).1) [120, 97, 98] = 3 := by decide +kernel
theorem sane10_4 : validOf (rParse ⟨[97, 98, 124, 99].toArray⟩).1 = true ∧ validOf (rParse ⟨[97, 94, 98].toArray⟩).1 = true := by decide +kernel
theorem byt_cells10 {H : Heap} {i : Nat} {t : TypeId} {fr : Nat × Nat} (bs : List UInt8) (h : H i = some (.cells (bs.map byteV).toArray t fr)) : Byt H (some ⟨i, 0, none⟩) bs.length bs.length bs :=
  ⟨rfl, Nat.le_refl _, rd_at h _ 0 0 fun j hj => by simp⟩
theorem sane10_c {H : Heap} {Q : QT} {E : ET} (hk : ∀ H', Ext H H' → Q (.bool true) H') : Does Pr 31 #[] H Q E := by
  refine zqg1_fn Q E H ?_
  unfold zqg1
  refine rParse_c fun H1 p1 c1 L1 e1 hp1 hl1 he1 hv1 => ⟨_, _, _, _, rfl, ?_⟩
  refine rParse_c fun H2 p2 c2 L2 e2 hp2 hl2 he2 hv2 => ⟨_, _, _, _, rfl, ?_⟩
  have s1 := sane10_1; rw [hp1] at s1
  have s2 := sane10_2; rw [hp2] at s2
  have s3 := sane10_3; rw [hp1] at s3
  have s4 := sane10_4; rw [hp1, hp2] at s4
  dsimp only at s1 s2 s3 s4
  refine Compile_c (hv1.ext he2) s4.1 fun H3 p3 c3 he3 hv3 => ⟨_, _, _, _, rfl, ?_⟩
  refine Compile_c (hv2.ext he3) s4.2 fun H4 p4 c4 he4 hv4 => ⟨_, _, _, _, rfl, ?_⟩
  have hN1 := build_NV s4.1
  have hN2 := build_NV s4.2
  refine Sample_c (hv3.ext he4) hN1 (fun t ht H5 p5 c5 he5 hv5 => ?_) (fun h => by rw [s1] at h; cases h)
  rw [s1] at ht
  obtain rfl := Option.some.inj ht
  refine ⟨_, _, _, _, rfl, ?_⟩
  refine Sample_c (hv4.ext he5) hN2 (fun t ht => by rw [s2] at ht; cases ht) (fun _ H6 he6 => ⟨none, 0, 0, _, rfl, ?_⟩)
  refine sel_tt (sel_tt (sel_tt ⟨[99], rfl, (hv5.ext he6).rdS, ?_⟩))
  have e99 : (ByteArray.toList (⟨[99].toArray⟩ : ByteArray) == ByteArray.toList ⟨[99].toArray⟩) = true := beq_self_eq_true _
  rw [e99]
  refine sel_tt (sel_tt ?_)
  refine nw_ext fun i H7 hi he7 hc7 => ⟨_, _, hc7, ?_⟩
  have he7' : Ext H6 (H7.set i (.cells #[.int .u8 120, .int .u8 97, .int .u8 98] 5 (3, 3 + 1))) := he7.set hi _
  have hb7 : Byt (H7.set i (.cells #[.int .u8 120, .int .u8 97, .int .u8 98] 5 (3, 3 + 1))) (some ⟨i, 0, none⟩) 3 3 [120, 97, 98] := byt_cells10 (t := 5) (fr := (3, 4)) [120, 97, 98] (Heap.set_self _ _ _)
  change (fun H => Does Pr 35 #[.slice p3 (buildOf L1).length c3, .slice (some ⟨i, 0, none⟩) 3 3] H _ E) (H7.set i (.cells #[.int .u8 120, .int .u8 97, .int .u8 98] 5 (3, 3 + 1)))
  revert he7' hb7
  generalize H7.set i (.cells #[.int .u8 120, .int .u8 97, .int .u8 98] 5 (3, 3 + 1)) = H8
  intro he8 hb8
  have h38 := ((he4.trans he5).trans he6).trans he8
  refine nrun_c (hv3.ext h38) hN1 hb8 (by omega) fun H9 he9 => ⟨_, rfl, ?_⟩
  rw [s3]
  exact hk H9 ((((he1.trans he2).trans he3).trans h38).trans he9)
end Go.Proofs.Ytaffcoiomggpfaa

/- The statement NfaAgrees: its contract. -/
namespace Go.Proofs.Ytaffcoiomggpfaa
open Go.V
attribute [local irreducible] app
set_option linter.constructorNameAsVariable false
set_option linter.unusedVariables false

theorem NfaAgrees_c {H : Heap} {p pb : OA} {n c nb cb : Nat} {xs : List Int} {bs : List UInt8} {Q : QT} {E : ET} (h : Ints H p n xs) (hb : Byt H pb nb cb bs)
    (hk : ∀ H', Ext H H' → Q (.bool true) H') : Does Pr 9 #[.slice p n c, .slice pb nb cb] H Q E := by
  refine zqf1_fn _ _ _ _ _ _ Q E H ?_
  unfold zqf1 zqf1_6
  refine sane10_c fun H1 he1 => ⟨_, rfl, sel_ff ?_⟩
  unfold zqf1_3
  refine sel_dec (fun _ => hk _ he1) (fun hnb => ?_)
  unfold zqf1_1
  refine pattern10_c (h.ext he1) fun H2 pn cn L pt ct t he2 hvn hL hval hvt ht => ⟨_, _, _, _, _, _, rfl, ?_⟩
  have he12 := he1.trans he2
  refine Compile_c hvn hval fun H3 ps cs he3 hvs => ⟨_, _, _, _, rfl, ?_⟩
  obtain ⟨b1, b2, b3, b4⟩ := build_facts hval
  have hN := build_NV hval
  have hpos := (valid_sz hval).1
  have hw : IntKind.wrap .i64 (IntKind.wrap .i64 (2 * ((L.length : Nat) : Int)) + 1) = ((2 * L.length + 1 : Nat) : Int) := by
    rw [IntWalk.i64_in (_ * _) (by omega), IntWalk.i64_in _ (by omega)]; omega
  rw [hw]
  refine sel_tt (sel_dec (fun _ => ?_) (fun hh => absurd (by omega) hh))
  refine r10Valid_c (Vec.nds hvs) hN ⟨_, rfl, sel_tt ?_⟩
  have ek : ∀ k : Int, ((k == k) : Bool) = true := fun k => by simp
  have hbt := vec_byt hvt
  refine nrun_c hvs hN (hbt.ext he3) (by omega) fun H4 he4 => ⟨_, rfl, ?_⟩
  have he34 := he3.trans he4
  refine rFirst_c (Vec.nds (hvn.ext he34)) (hbt.ext he34) (by omega) (by omega) fun H5 he5 => ⟨_, rfl, ?_⟩
  rw [runOf_build t hval, ek]
  refine sel_tt ?_
  have hb5 := hb.ext (he12.trans (he34.trans he5))
  have hlb := hb.1
  refine nrun_c (hvs.ext (he4.trans he5)) hN hb5 (by omega) fun H6 he6 => ⟨_, rfl, ?_⟩
  have he36 := (he34.trans he5).trans he6
  refine rFirst_c (Vec.nds (hvn.ext he36)) (hb5.ext he6) (by omega) (by omega) fun H7 he7 => ⟨_, rfl, ?_⟩
  rw [runOf_build bs hval, ek]
  exact hk H7 (he12.trans (he36.trans he7))
end Go.Proofs.Ytaffcoiomggpfaa
