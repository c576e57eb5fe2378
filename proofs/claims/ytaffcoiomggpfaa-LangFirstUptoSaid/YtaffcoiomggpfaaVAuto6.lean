/- Contracts of package auto (6): Read, Matched, Feed, Found, Start. -/
import Derived.Test.YtaffcoiomggpfaaVAuto5
import Derived.Test.YtaffcoiomggpfaaVMill
namespace Go.Proofs.Ytaffcoiomggpfaa
open Go.V
attribute [local irreducible] app
set_option linter.constructorNameAsVariable false
set_option linter.unusedVariables false

def Nd.set (x : Nd) : S4 := ⟨x.a, x.b, x.c, x.d⟩
def readL (st : List Nd) (b : Nat) (l : List Nat) : List Nat :=
  l.foldl (fun acc i => if (st.getD i default).k = 1 ∧ (st.getD i default).set.has b = true then addL acc (st.getD i default).l.toNat else acc) []
def Ma.read (st : List Nd) (anch : Bool) (M : Ma) (b : Nat) : Ma :=
  { M with now := (spread st (decide (b = 10)) false (if anch = true then readL st b M.now else addL (readL st b M.now) 0)).1, bol := decide (b = 10), at_ := M.at_ + 1 }
def Ma.matched (st : List Nd) (M : Ma) : Ma :=
  if M.found < 0 then { M with now := (spread st M.bol false M.now).1, found := if (spread st M.bol false M.now).2 = true then M.at_ else M.found } else M
def feedL (st : List Nd) (anch : Bool) : List Nat → Ma → Ma
  | [], M => M
  | c :: l, M =>
    if 0 ≤ (M.matched st).found then M.matched st
    else if c = 10 then
      let s := spread st (M.matched st).bol true (M.matched st).now
      if s.2 = true then { M.matched st with now := s.1, found := (M.matched st).at_ + 1 }
      else feedL st anch l (Ma.read st anch { M.matched st with now := s.1 } c)
    else feedL st anch l (Ma.read st anch (M.matched st) c)
def feed (st : List Nd) (anch : Bool) (l : List Nat) (M : Ma) : Ma := (feedL st anch l M).matched st
def startM (st : List Nd) (bol : Bool) : Ma := { now := (spread st bol false [0]).1, bol := bol, at_ := 0, found := -1 }
theorem readL_ok {st : List Nd} (hr : InR st) (b : Nat) (l : List Nat) (hl : ∀ i ∈ l, i < st.length) : ∀ acc, OkL st.length acc →
    OkL st.length (l.foldl (fun acc i => if (st.getD i default).k = 1 ∧ (st.getD i default).set.has b = true then addL acc (st.getD i default).l.toNat else acc) acc) := by
  induction l with
  | nil => intro acc h; exact h
  | cons i l ih =>
    intro acc h
    rw [List.foldl_cons]
    refine ih (fun j hj => hl j (by simp [hj])) _ ?_
    have := hr.at (getD_some (hl i (by simp)))
    split
    · exact h.add (by omega)
    · exact h
theorem byte_is (b : Nat) : ((b : Int) == 10) = decide (b = 10) := by
  by_cases h : b = 10
  · subst h; rfl
  · rw [decide_eq_false h]
    have : ¬ ((b : Int) = 10) := by omega
    simpa using this
section
variable {H0 H : Heap} {a cs : Nat} {ps : Option Addr} {st : List Nd} {anch : Bool} {M : Ma} {Q : Value → Heap → Prop} {E : Chain → Heap → Prop}
set_option maxHeartbeats 1000000 in
theorem read_c {b : Nat} (h : MSt H0 H a ps cs st anch M) (hr : InR st) (hpos : 0 < st.length) (hn : st.length ≤ 100000) (hb : b ≤ 255) (hat : M.at_ ≤ 1099511627776)
    (hk : ∀ H', MSt H0 H' a ps cs st anch (M.read st anch b) → Q (.tuple #[]) H') : Does Pr 59 #[.pointer (some ⟨a, 0, none⟩), .int .u8 (b : Nat)] H Q E := by
  refine zqc1_fn _ _ Q E H ?_
  have hvs := h.2.2.1
  unfold zqc1
  simp only [ptr_some, add_at, Nat.zero_add]
  refine clear_c h fun H1 p1 h1 => ?_
  unfold zqc1_39
  simp only [ptr_some, add_at, Nat.zero_add]
  obtain ⟨_, _, _, hok, _, p3, c1, b1, c3, b3, t, k1, k2, _⟩ := id h1
  refine ldSl_at (p := p1) (l := M.now.length) (m := c1) k1 rfl ?_
  unfold zqc1_36
  refine ⟨fun x H' => ∃ k : Nat, x = (k : Nat) ∧ k ≤ M.now.length ∧ MSn H0 H' a ps cs st anch M p1 (readL st b (M.now.take k)), fun x _ => (M.now.length - x).toNat, ⟨0, rfl, by omega, by simpa [readL] using h1⟩, ?_⟩
  rintro x H2 ⟨k, rfl, hkl, h2⟩
  unfold zqc1_33 zqc1_30
  refine sel_dec (fun hlt => ?_) (fun hge => ?_)
  · have hlt : k < M.now.length := by omega
    obtain ⟨_, _, _, _, _, p3', c1', b1', c3', b3', t', k1', k2', _⟩ := id h2
    have hmem : M.now[k]? = some (M.now.getD k 0) := by rw [List.getD_eq_getElem?_getD, List.getElem?_eq_getElem hlt]; rfl
    have hsl : M.now.getD k 0 < st.length := hok.2 _ (List.mem_iff_getElem?.2 ⟨k, hmem⟩)
    have hstep : readL st b (M.now.take (k + 1)) = if (st.getD (M.now.getD k 0) default).k = 1 ∧ (st.getD (M.now.getD k 0) default).set.has b = true then addL (readL st b (M.now.take k)) (st.getD (M.now.getD k 0) default).l.toNat else readL st b (M.now.take k) := by
      unfold readL
      rw [List.take_add_one, hmem]
      simp only [Option.toList_some, List.foldl_append, List.foldl_cons, List.foldl_nil]
    generalize hj : M.now.getD k 0 = j at hmem hsl hstep
    have hx := getD_some hsl
    have hbd := hr.at hx
    generalize st.getD j default = x at hx hbd hstep
    unfold zqc1_25
    obtain ⟨bb, tt, cc, rfl, hbb, hcc⟩ := vec_at1 k2' (n := k) (v := natV j) (by simp [hmem])
    simp only [ptr_some, add_at, Int.toNat_natCast, Nat.mul_one, Nat.zero_add]
    refine ⟨⟨by omega, by omega⟩, ldI_at (n := (j : Nat)) hbb hcc ?_⟩
    unfold zqc1_22
    simp only [ptr_some]
    refine ldSl_at (p := ps) (l := st.length) (m := cs) k1' rfl ⟨⟨by omega, by omega⟩, ?_⟩
    obtain ⟨sa, rfl, hrd⟩ := vec_at7 (hvs.ext h2.1) hx
    simp only [ptr_some, Int.toNat_natCast]
    refine ⟨x.k, x.l, x.r, x.a, x.b, x.c, x.d, hrd, ?_⟩
    refine nw_ext fun q H3 hq3 he3 hc3 => ?_
    refine wr_new hc3 (by simp) rfl (c' := x.cells.toArray) rfl fun H4 hc4 hb4 => ?_
    have hq0 : H0 q = none := h2.1.free hq3
    have h4 : MSn (H0.set q (.cells x.cells.toArray 91 (0, 0))) H4 a (some sa) cs st anch M (some ⟨bb, 0, none⟩) (readL st b (M.now.take k)) := by
      refine (h2.new hq3 (.cells x.cells.toArray 91 (0, 0))).ext fun y o hy => ?_
      by_cases e : y = q
      · subst e; rw [Heap.set_self] at hy; rw [hc4]; exact hy
      · rw [Heap.set_ne _ _ e] at hy; rw [hb4 y e]; exact he3 y o hy
    have hw : IntKind.wrap .i64 ((k : Int) + 1) = ((k + 1 : Nat) : Int) := by have := hok.len; rw [IntWalk.i64_in _ (by omega)]; omega
    have nx : ∀ (H' : Heap), MSn (H0.set q (.cells x.cells.toArray 91 (0, 0))) H' a (some sa) cs st anch M (some ⟨bb, 0, none⟩) (readL st b (M.now.take (k + 1))) →
        (∃ k' : Nat, IntKind.wrap .i64 ((k : Int) + 1) = (k' : Nat) ∧ k' ≤ M.now.length ∧ MSn H0 H' a (some sa) cs st anch M (some ⟨bb, 0, none⟩) (readL st b (M.now.take k'))) ∧ (M.now.length - IntKind.wrap .i64 ((k : Int) + 1)).toNat < (M.now.length - (k : Nat) : Int).toNat := by
      intro H' h'
      rw [hw]
      exact ⟨⟨k + 1, rfl, by omega, h'.old hvs hq0⟩, by omega⟩
    unfold zqc1_19
    simp only [ptr_some]
    refine ldI_at (n := x.k) hc4 rfl (sel_beq (fun ck => ?_) (fun ck => ?_))
    · have hx8 : IntKind.wrap .u8 (Int.tdiv (b : Int) 64) = ((b / 64 : Nat) : Int) := u8_nat (b / 64) (by omega)
      have hm : Int.tmod (b : Int) 64 = ((b % 64 : Nat) : Int) := rfl
      have h4' : b / 64 < 4 := by omega
      rw [hx8, hm]
      simp only [add_at, Int.toNat_natCast, Nat.mul_one, Nat.zero_add]
      have hcell : x.cells.toArray[3 + b / 64]? = some (.int .u64 (x.set.get (b / 64))) := by
        match b / 64, h4' with
        | 0, _ => rfl
        | 1, _ => rfl
        | 2, _ => rfl
        | 3, _ => rfl
      refine ⟨by decide, ⟨by omega, by omega⟩, ldI_at hc4 hcell ⟨by decide, by omega, ?_⟩⟩
      have hhas : ((IntKind.wrap .u64 (BitVec.ofInt (IntKind.bits .u64) (Int.fdiv (x.set.get (b / 64)) (2 ^ min (b % 64) (IntKind.bits .u64))) &&& BitVec.ofInt (IntKind.bits .u64) 1).toNat : Int) == 1) = x.set.has b := rfl
      rw [hhas]
      unfold zqc1_17
      refine sel_mk (fun hh => ?_) (fun hh => ?_)
      · rw [if_pos ⟨ck, hh⟩] at hstep
        simp only [ptr_some, add_at, Nat.zero_add]
        refine ldI_at (n := x.l) hc4 rfl ?_
        have el : x.l = ((x.l.toNat : Nat) : Int) := by omega
        rw [el]
        refine xadd_c h4 (by omega) hn fun H5 h5 => ?_
        unfold zqc1_15
        rw [← hstep] at h5
        exact nx H5 h5
      · rw [if_neg (fun h => by rw [hh] at h; cases h.2)] at hstep
        unfold zqc1_15
        rw [← hstep] at h4
        exact nx H4 h4
    · rw [if_neg (fun h => ck h.1)] at hstep
      unfold zqc1_17
      refine sel_ff ?_
      unfold zqc1_15
      rw [← hstep] at h4
      exact nx H4 h4
  · obtain rfl : k = M.now.length := by omega
    rw [List.take_length] at h2
    clear h h1 k1 k2
    obtain ⟨h1, h2, h3, h4, h5, p3, c1, b1, c3, b3, t, k1, k2, k3, k4, k5, d1, d2, d3, d4, d5, d6, d7⟩ := h2
    unfold zqc1_12
    simp only [ptr_some, add_at, Nat.zero_add]
    refine ⟨p3, (readL st b M.now).length, c3, some ⟨b3, 0, none⟩, st.length, st.length, rd_at k1 _ 3 0 (fun j hj => by
      match j, hj with
      | 0, _ => rfl
      | 1, _ => rfl), p1, M.now.length, c1, some ⟨b1, 0, none⟩, st.length, st.length, rd_at k1 _ 1 0 (fun j hj => by
      match j, hj with
      | 0, _ => rfl
      | 1, _ => rfl), ?_⟩
    refine wr_new k1 (show 1 + 2 ≤ 9 by decide) rfl (c' := #[.slice ps st.length cs, .slice p3 (readL st b M.now).length c3, .slice (some ⟨b3, 0, none⟩) st.length st.length, .slice p3 (readL st b M.now).length c3, .slice (some ⟨b3, 0, none⟩) st.length st.length, .bool anch, .bool M.bol, .int .i64 M.at_, .int .i64 M.found]) rfl fun H3 hc3 hb3 => ?_
    refine wr_new hc3 (show 3 + 2 ≤ 9 by decide) rfl (c' := MC ps st.length cs p3 (readL st b M.now).length c3 b3 p1 M.now.length c1 b1 anch M.bol M.at_ M.found) rfl fun H4 hc4 hb4 => ?_
    have e4 : ∀ j, j ≠ a → H4 j = H2 j := fun j hj => by rw [hb4 j hj, hb3 j hj]
    have m4 : MSt H0 H4 a ps cs st anch { M with now := readL st b M.now } := by
      refine ⟨fun j o hj => ?_, h2, h3, h5, p3, p1, c3, b3, M.now.length, c1, b1, t, M.now.map natV, mkV st.length M.now, hc4, k4.keep fun j hj _ => e4 j (d7 j hj).1, k5.keep fun j hj _ => ?_, k2.keep fun j hj _ => e4 j (d6 j hj).1, k3.keep fun j hj _ => ?_, d2, d1, Ne.symm d3, d5, d4, fun j hj => ?_, fun j hj => ?_⟩
      · rw [e4 j (fun e => by rw [e, h2] at hj; cases hj)]; exact h1 j o hj
      · obtain ⟨x, hx, rfl⟩ := hj; cases hx; exact e4 b3 d2
      · obtain ⟨x, hx, rfl⟩ := hj; cases hx; exact e4 b1 d1
      · obtain ⟨x1, x2, x3, x4⟩ := d7 j hj
        exact ⟨x1, x3, x2, fun hb => (d6 j hb).2.2.2.1 hj, x4⟩
      · obtain ⟨x1, x2, x3, x4, x5⟩ := d6 j hj
        exact ⟨x1, x3, x2, x5⟩
    unfold zqc1_9
    simp only [ptr_some, add_at, Nat.zero_add]
    refine m4.ldAtM ?_
    have hw : IntKind.wrap .i64 (((M.at_ : Nat) : Int) + 1) = ((M.at_ + 1 : Nat) : Int) := by rw [IntWalk.i64_in _ (by omega)]; omega
    dsimp only
    rw [hw]
    refine m4.wrS (M' := { M with now := readL st b M.now, at_ := M.at_ + 1 }) (by decide) rfl rfl (fun _ _ _ _ _ _ _ _ => rfl) fun H5 m5 => ?_
    unfold zqc1_6
    simp only [ptr_some, add_at, Nat.zero_add]
    rw [byte_is]
    refine m5.wrS (M' := { M with now := readL st b M.now, at_ := M.at_ + 1, bol := decide (b = 10) }) (by decide) rfl rfl (fun _ _ _ _ _ _ _ _ => rfl) fun H6 m6 => ?_
    unfold zqc1_3
    simp only [ptr_some, add_at, Nat.zero_add]
    refine m6.ldAnch ?_
    cases anch with
    | true =>
      refine sel_ff ?_
      unfold zqc1_1
      exact spread_c m6 hr hn fun H7 m7 => ⟨_, rfl, hk H7 m7⟩
    | false =>
      refine sel_tt ?_
      refine nadd_c m6 hpos hn fun H7 m7 => ?_
      unfold zqc1_1
      exact spread_c m7 hr hn fun H8 m8 => ⟨_, rfl, hk H8 m8⟩
theorem matched_c (h : MSt H0 H a ps cs st anch M) (hr : InR st) (hn : st.length ≤ 100000)
    (hk : ∀ H', MSt H0 H' a ps cs st anch (M.matched st) → Q (.bool (decide (0 ≤ (M.matched st).found))) H') : Does Pr 79 #[.pointer (some ⟨a, 0, none⟩)] H Q E := by
  refine zqd1_fn _ Q E H ?_
  unfold zqd1 zqd1_5
  simp only [ptr_some, add_at, Nat.zero_add]
  have fin : ∀ (H' : Heap), MSt H0 H' a ps cs st anch (M.matched st) → zqd1_1 Q E (some ⟨a, 0, none⟩) H' := fun H' h' => by
    unfold zqd1_1
    simp only [ptr_some, add_at, Nat.zero_add]
    exact h'.ldFound (hk H' h')
  refine h.ldFound (sel_dec (fun hf => ?_) (fun hf => ?_))
  · have hm : M.matched st = { M with now := (spread st M.bol false M.now).1, found := if (spread st M.bol false M.now).2 = true then M.at_ else M.found } := if_pos hf
    refine spread_c h hr hn fun H1 h1 => ⟨_, rfl, ?_⟩
    unfold zqd1_3
    refine sel_mk (fun hs => ?_) (fun hs => ?_)
    · simp only [ptr_some, add_at, Nat.zero_add]
      refine h1.ldAtM ?_
      refine h1.wrS (M' := M.matched st) (by decide) rfl (by rw [hm]) (fun _ _ _ _ _ _ _ _ => by rw [hm, if_pos hs]; rfl) fun H2 h2 => fin H2 h2
    · refine fin H1 ?_
      rw [hm, if_neg (by simp [hs])]; exact h1
  · have hm : M.matched st = M := if_neg hf
    unfold zqd1_3
    refine sel_ff (fin H (by rw [hm]; exact h))
theorem found_c (h : MSt H0 H a ps cs st anch M) (hr : InR st) (hn : st.length ≤ 100000)
    (hk : ∀ H', MSt H0 H' a ps cs st anch (M.matched st) → Q (.int .i64 (M.matched st).found) H') : Does Pr 53 #[.pointer (some ⟨a, 0, none⟩)] H Q E := by
  refine zqa1_fn _ Q E H ?_
  unfold zqa1
  refine matched_c h hr hn fun H1 h1 => ⟨_, rfl, ?_⟩
  simp only [ptr_some, add_at, Nat.zero_add]
  exact h1.ldFound (hk H1 h1)
theorem Ma.matched_at (st : List Nd) (M : Ma) : (M.matched st).at_ = M.at_ ∧ (M.matched st).bol = M.bol := by unfold Ma.matched; split <;> exact ⟨rfl, rfl⟩
theorem feed_c {p : Option Addr} {n c : Nat} {bs : List UInt8} (h : MSt H0 H a ps cs st anch M) (hr : InR st) (hpos : 0 < st.length) (hn : st.length ≤ 100000) (hb : bs.length = n) (hrd : H0.rdS p (bs.map byteV))
    (hsz : M.at_ + bs.length ≤ 1099511627776) (hk : ∀ H', MSt H0 H' a ps cs st anch (feed st anch (bs.map UInt8.toNat) M) → Q (.bool (decide (0 ≤ (feed st anch (bs.map UInt8.toNat) M).found))) H') :
    Does Pr 52 #[.pointer (some ⟨a, 0, none⟩), .slice p n c] H Q E := by
  refine zqz_fn _ _ _ _ Q E H ?_
  subst hb
  have fin : ∀ (M' : Ma) (H' : Heap), feed st anch (bs.map UInt8.toNat) M = M'.matched st → MSt H0 H' a ps cs st anch M' → zqz_1 Q E (some ⟨a, 0, none⟩) H' := fun M' H' hm h' => by
    unfold zqz_1
    rw [hm] at hk
    exact matched_c h' hr hn fun H2 h2 => ⟨_, rfl, hk H2 h2⟩
  unfold zqz zqz_30 zqz_27
  refine ⟨fun x H' => ∃ (k : Nat) (M' : Ma), x = (k : Nat) ∧ k ≤ bs.length ∧ feedL st anch ((bs.drop k).map UInt8.toNat) M' = feedL st anch (bs.map UInt8.toNat) M ∧ M'.at_ = M.at_ + k ∧ MSt H0 H' a ps cs st anch M',
    fun x _ => (bs.length - x).toNat, ⟨0, M, rfl, by omega, by simp, by omega, h⟩, ?_⟩
  rintro x H1 ⟨k, M', rfl, hkl, hs, hat, h1⟩
  unfold zqz_24 zqz_21
  refine sel_dec (fun hlt => ?_) (fun hge => ?_)
  · have hlt : k < bs.length := by omega
    have hbk : bs[k]? = some (bs[k]) := List.getElem?_eq_getElem hlt
    rw [List.drop_eq_getElem_cons hlt] at hs
    generalize bs[k] = w at hbk hs
    simp only [List.map_cons, feedL] at hs
    unfold zqz_16
    cases p with
    | none =>
      have : bs.map byteV = [] := hrd
      simp at this; subst this; simp at hlt
    | some ad =>
      have hc : H1.cell? (ad.add (0 + k)) = some (byteV w) := rd_get (rd_ext h1.1 hrd) (by simp [hbk])
      rw [Nat.zero_add] at hc
      simp only [ptr_some, Int.toNat_natCast, Nat.mul_one]
      refine ⟨⟨by omega, by omega⟩, (w.toNat : Nat), hc, ?_⟩
      have hw255 : w.toNat ≤ 255 := by have := w.toNat_lt; omega
      unfold zqz_13
      refine matched_c h1 hr hn fun H2 h2 => ⟨_, rfl, ?_⟩
      have hma := (M'.matched_at st).1
      refine sel_dec (fun hf => ?_) (fun hf => ?_)
      · rw [if_pos hf] at hs
        refine fin _ H2 ?_ h2
        unfold feed; rw [← hs]
      · rw [if_neg hf] at hs
        have rd : ∀ (M2 : Ma) (H3 : Heap), feedL st anch ((bs.drop (k + 1)).map UInt8.toNat) (Ma.read st anch M2 w.toNat) = feedL st anch (bs.map UInt8.toNat) M → M2.at_ = M.at_ + k → MSt H0 H3 a ps cs st anch M2 →
            zqz_5 (fun x H' => (∃ (k : Nat) (M' : Ma), x = (k : Nat) ∧ k ≤ bs.length ∧ feedL st anch ((bs.drop k).map UInt8.toNat) M' = feedL st anch (bs.map UInt8.toNat) M ∧ M'.at_ = M.at_ + k ∧ MSt H0 H' a ps cs st anch M') ∧ (bs.length - x).toNat < (bs.length - (k : Nat) : Int).toNat)
              Q E (some ⟨a, 0, none⟩) (w.toNat : Nat) (some ad) bs.length c ((bs.length : Nat) : Int) (k : Nat) H3 := by
          intro M2 H3 hs2 hat2 h3
          unfold zqz_5
          refine read_c h3 hr hpos hn hw255 (by omega) fun H4 h4 => ?_
          unfold zqz_3
          have hw : IntKind.wrap .i64 ((k : Int) + 1) = ((k + 1 : Nat) : Int) := by rw [IntWalk.i64_in _ (by omega)]; omega
          rw [hw]
          exact ⟨⟨k + 1, _, rfl, by omega, hs2, by show M2.at_ + 1 = _; omega, h4⟩, by omega⟩
        unfold zqz_9
        rw [byte_is]
        refine sel_dec (fun h10 => ?_) (fun h10 => ?_)
        · rw [if_pos h10] at hs
          refine spread_c h2 hr hn fun H3 h3 => ⟨_, rfl, ?_⟩
          unfold zqz_7
          refine sel_mk (fun hsp => ?_) (fun hsp => ?_)
          · rw [if_pos hsp] at hs
            simp only [ptr_some, add_at, Nat.zero_add]
            refine h3.ldAtM ?_
            have hw : IntKind.wrap .i64 ((((M'.matched st).at_ : Nat) : Int) + 1) = (((M'.matched st).at_ : Nat) : Int) + 1 := by rw [IntWalk.i64_in _ (by omega)]
            dsimp only
            rw [hw]
            refine h3.wrS (M' := { M'.matched st with now := (spread st (M'.matched st).bol true (M'.matched st).now).1, found := (((M'.matched st).at_ : Nat) : Int) + 1 }) (by decide) rfl rfl (fun _ _ _ _ _ _ _ _ => rfl) fun H4 h4 => ?_
            refine fin _ H4 ?_ h4
            unfold feed; rw [← hs]
          · rw [if_neg (by simp [hsp])] at hs
            exact rd _ H3 hs (by rw [← hat]; exact hma) h3
        · rw [if_neg h10] at hs
          unfold zqz_7
          exact sel_ff (rd _ H2 hs (by rw [← hat]; exact hma) h2)
  · obtain rfl : k = bs.length := by omega
    rw [List.drop_length] at hs
    refine fin M' H1 ?_ h1
    unfold feed; rw [← hs]; rfl
end
section
variable {H : Heap} {cs : Nat} {ps : Option Addr} {st : List Nd} {anch bol : Bool} {Q : Value → Heap → Prop} {E : Chain → Heap → Prop}
theorem start_c (hv : Vec H 7 ps st.length cs (flat st)) (hr : InR st) (hpos : 0 < st.length) (hn : st.length ≤ 100000)
    (hk : ∀ a H', MSt H H' a ps cs st anch (startM st bol) → Q (.pointer (some ⟨a, 0, none⟩)) H') : Does Pr 50 #[.slice ps st.length cs, .bool anch, .bool bol] H Q E := by
  refine zqx_fn _ _ _ _ _ Q E H ?_
  unfold zqx
  simp only [Int.toNat_natCast]
  refine ⟨⟨by omega, by omega, by omega, by omega⟩, ?_⟩
  refine nw_ext fun b1 H1 hb1 he1 hc1 => ⟨⟨by omega, by omega, by omega, by omega⟩, ?_⟩
  refine nw_ext fun b3 H2 hb3 he2 hc2 => ?_
  refine nw_ext fun a H3 ha he3 hc3 => ?_
  rw [rep_one, ← mkV_nil] at hc1 hc2
  have n13 : b1 ≠ b3 := ne_of hc1 hb3
  have n1a : b1 ≠ a := ne_of (he2 _ _ hc1) ha
  have n3a : b3 ≠ a := ne_of hc2 ha
  have mk : ∀ (b : Nat), H3 b = some (.cells (mkV st.length []).toArray 4 (0, 0)) → Vec H3 1 (some ⟨b, 0, none⟩) st.length st.length (mkV st.length []) := fun b hb =>
    ⟨by rw [mkV_length]; omega, Nat.le_refl _, b, _, 4, rfl, hb, by simp [mkV_length], fun j hj => by simp⟩
  have m3 : MSt H H3 a ps cs st anch ⟨[], bol, 0, -1⟩ := by
    refine ⟨(he1.trans he2).trans he3, (he1.trans he2).free ha, hv, OkL.nil _, none, none, 0, b1, 0, 0, b3, 127, [], mkV st.length [], hc3, Vec.nil _ 1, mk b1 (he3 _ _ (he2 _ _ hc1)), Vec.nil _ 1, mk b3 (he3 _ _ hc2), n1a, n3a, n13, hb1, he1.free hb3, fun j hj => ?_, fun j hj => ?_⟩
    · obtain ⟨x, hx, _⟩ := hj; cases hx
    · obtain ⟨x, hx, _⟩ := hj; cases hx
  refine nadd_c (i := 0) m3 hpos hn fun H4 m4 => ?_
  refine spread_c m4 hr hn fun H5 m5 => ⟨_, rfl, ?_⟩
  exact hk a H5 m5
end
end Go.Proofs.Ytaffcoiomggpfaa
