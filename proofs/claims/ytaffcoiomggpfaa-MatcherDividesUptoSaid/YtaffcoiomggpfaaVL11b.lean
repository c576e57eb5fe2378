/- The statement MatcherDivides: its contract. -/
import Derived.Test.YtaffcoiomggpfaaVL11
namespace Go.Proofs.Ytaffcoiomggpfaa
open Go.V
attribute [local irreducible] app
set_option linter.constructorNameAsVariable false
set_option linter.unusedVariables false

theorem Byt.one {H : Heap} {p : Option Addr} {n c m : Nat} {bs : List UInt8} {b : UInt8} (h : Byt H p n c bs) (hb : bs[m]? = some b) : Byt H (if c = m then p else Option.map (fun a => Addr.add a (m * 1)) p) 1 (c - m) [b] := by
  have hlt := (List.getElem?_eq_some_iff.1 hb).1
  have h1 := h.1
  have h2 := h.2.1
  obtain ⟨_, _, h3⟩ := h.from m (by omega)
  rw [List.drop_eq_getElem_cons hlt] at h3
  rw [List.getElem?_eq_getElem hlt] at hb
  rw [Option.some.inj hb] at h3
  refine ⟨rfl, by omega, ?_⟩
  generalize (if c = m then p else Option.map (fun a => Addr.add a (m * 1)) p) = P at h3
  cases P with
  | none => simp [Heap.rdS] at h3
  | some a => exact ⟨h3.1, trivial⟩
theorem sum_ones (l : List UInt8) : ((l.map fun b => [b]).map List.length).sum = l.length := by
  induction l with
  | nil => rfl
  | cons y l ih => simp only [List.map_cons, List.sum_cons, ih, List.length_cons, List.length_nil]; omega
/-- Bytes as pieces: each piece is one byte. -/
def Ones (HB : Heap) (vs : List Value) (W : List UInt8) : Prop := vs.length = W.length ∧ ∀ (i : Nat) (b : UInt8), W[i]? = some b → ∃ (q : Option Addr) (m cc : Nat), vs[i]? = some (Value.slice q m cc) ∧ Byt HB q m cc [b]
theorem Ones.snoc {HB : Heap} {vs : List Value} {W : List UInt8} {b : UInt8} {q : Option Addr} {m cc : Nat} (h : Ones HB vs W) (hb : Byt HB q m cc [b]) : Ones HB (vs ++ [.slice q m cc]) (W ++ [b]) := by
  refine ⟨by simp [h.1], fun i x hx => ?_⟩
  by_cases hi : i < W.length
  · rw [List.getElem?_append_left hi] at hx
    obtain ⟨q', m', cc', e1, e2⟩ := h.2 i x hx
    exact ⟨q', m', cc', by rw [List.getElem?_append_left (by rw [h.1]; exact hi)]; exact e1, e2⟩
  · have hi2 : i = W.length := by
      have := (List.getElem?_eq_some_iff.1 hx).1
      simp at this; omega
    subst hi2
    simp at hx; subst hx
    exact ⟨q, m, cc, by rw [List.getElem?_append_right (by rw [h.1]; omega), h.1]; simp, hb⟩
set_option maxHeartbeats 2000000 in
theorem MatcherDivides_c {H : Heap} {p : Option Addr} {n c : Nat} {xs : List Int} {pk : Int} {Q : Value → Heap → Prop} {E : Chain → Heap → Prop} (h : Ints H p n xs)
    (hk : ∀ H', Ext H H' → Q (.bool true) H') : Does Pr 15 #[.slice p n c, .int .i64 pk] H Q E := by
  refine up1_fn _ _ _ _ Q E H ?_
  unfold up1 up1_70
  refine sane11_c fun H1 he1 => ⟨_, rfl, sel_ff ?_⟩
  unfold up1_67
  refine pieces_c (h.ext he1) fun H2 p5 n5 c5 L he2 hL hn5 hb8 => ⟨_, _, _, rfl, ?_⟩
  have he12 := he1.trans he2
  obtain ⟨l1, l2, vs, l3, l4, l5⟩ := id hL
  have htot : L.flatten.length ≤ 40 := by have := flatten_le L hb8; omega
  unfold up1_64 up1_61 up1_57 up1_54
  refine ⟨fun p6 l6 c6 p7 l7 c7 x H' => ∃ (k : Nat) (vs7 : List Value), x = (k : Nat) ∧ k ≤ n5 ∧ l6 = (L.take k).flatten.length ∧ l7 = (L.take k).flatten.length ∧ Vec H' 1 p6 l6 c6 ((L.take k).flatten.map byteV) ∧ Vec H' 1 p7 l7 c7 vs7 ∧ Ones H2 vs7 (L.take k).flatten ∧
      Ext H2 H' ∧ (∀ j, blk p6 j → H2 j = none) ∧ (∀ j, blk p7 j → H2 j = none ∧ ¬ blk p6 j),
    fun _ _ _ _ _ _ x _ => (n5 - x).toNat, ⟨0, [], rfl, by omega, rfl, rfl, Vec.nil _ 1, Vec.nil _ 1, ⟨rfl, by simp⟩, Ext.refl _, fun j hj => (by obtain ⟨a, ha, _⟩ := hj; cases ha), fun j hj => (by obtain ⟨a, ha, _⟩ := hj; cases ha)⟩, ?_⟩
  rintro p6 l6 c6 p7 l7 c7 x H3 ⟨k, vs7, rfl, hkn, rfl, rfl, hv6, hv7, hon, he23, hf6, hf7⟩
  unfold up1_51 up1_48
  refine sel_dec (fun hlt => ?_) (fun hge => ?_)
  · have hlt : k < L.length := by omega
    have hbk : L[k]? = some L[k] := List.getElem?_eq_getElem hlt
    have htk : (L.take (k + 1)).flatten = (L.take k).flatten ++ L[k] := by
      rw [List.take_add_one, hbk, List.flatten_append]
      simp only [Option.toList_some, List.flatten_cons, List.flatten_nil, List.append_nil]
    have hb8k := hb8 L[k] (List.getElem_mem hlt)
    have hle1 : (L.take (k + 1)).flatten.length ≤ 40 := by
      have h1 := flatten_le (L.take (k + 1)) fun x hx => hb8 x (List.mem_of_mem_take hx)
      rw [List.length_take] at h1; omega
    generalize L[k] = b at hbk htk hb8k
    rw [htk, List.length_append] at hle1
    obtain ⟨q, m, cc, e1, e2⟩ := l5 k b hbk
    have hbm := e2.1
    unfold up1_43
    cases p5 with
    | none =>
      have : vs = [] := l4
      subst this; simp at e1
    | some ad =>
      have hcell : H3.cell? (ad.add (0 + k)) = some (.slice q m cc) := rd_get (rd_ext he23 l4) e1
      rw [Nat.zero_add] at hcell
      simp only [ptr_some, Int.toNat_natCast, Nat.mul_one]
      refine ⟨⟨by omega, by omega⟩, q, m, cc, hcell, ?_⟩
      unfold up1_40
      refine app_byt hv6 (e2.ext he23) (by omega) fun p6' c6' H4 hv6' hs4 hb4 => ?_
      have he24 : Ext H2 H4 := ext_app he23 hf6 hs4
      have hf6' := fresh_app he23 hf6 hb4
      have hv7' : Vec H4 1 p7 (L.take k).flatten.length c7 vs7 := hv7.keep fun j hj hn => hs4 j (hf7 j hj).2 hn
      have hf7' : ∀ j, blk p7 j → H2 j = none ∧ ¬ blk p6' j := fun j hj => ⟨(hf7 j hj).1, fun hb => by
        rcases hb4 j hb with h | h
        · exact (hf7 j hj).2 h
        · exact (hv7.known hj) h⟩
      unfold up1_37 up1_34
      refine ⟨fun p7 l7 c7 x H' => ∃ (i : Nat) (vs7 : List Value), x = (i : Nat) ∧ i ≤ m ∧ l7 = (L.take k).flatten.length + i ∧ Vec H' 1 p7 l7 c7 vs7 ∧ Ones H2 vs7 ((L.take k).flatten ++ b.take i) ∧ Ext H2 H' ∧
          Vec H' 1 p6' ((L.take k).flatten.length + m) c6' (((L.take k).flatten ++ b).map byteV) ∧ (∀ j, blk p7 j → H2 j = none ∧ ¬ blk p6' j),
        fun _ _ _ x _ => (m - x).toNat, ⟨0, vs7, rfl, by omega, by omega, hv7', by simpa using hon, he24, hv6', hf7'⟩, ?_⟩
      rintro p7 l7 c7 x H5 ⟨i, vs7, rfl, him, rfl, hv7, hon, he25, hv6', hf7⟩
      unfold up1_31 up1_28
      refine sel_dec (fun hlt2 => ?_) (fun hge2 => ?_)
      · have hbi : b[i]? = some (b[i]'(by omega)) := List.getElem?_eq_getElem (by omega)
        generalize b[i]'(by omega) = w at hbi
        have hw : IntKind.wrap .i64 ((i : Int) + 1) = ((i + 1 : Nat) : Int) := by rw [IntWalk.i64_in _ (by omega)]; omega
        unfold up1_26
        rw [hw]
        simp only [Int.toNat_natCast]
        have hcc := e2.2.1
        refine ⟨⟨by omega, by omega⟩, ⟨by omega, by omega⟩, ?_⟩
        have e1s : i + 1 - i = 1 := by omega
        rw [e1s]
        refine nw_ext fun r H6 hr6 he6 hc6 => ?_
        refine app_one (sz := 1) (ws := [.slice (if cc = i then q else Option.map (fun a => Addr.add a (i * 1)) q) 1 (cc - i)]) sl64 (hv7.ext he6) hc6 rfl rfl (by omega) (by omega) fun p7' c7' H7 hv7'' hs7 hb7 => ?_
        have he27 : Ext H2 H7 := ext_app (he25.trans he6) (fun j hj => (hf7 j hj).1) hs7
        have hv6'' : Vec H7 1 p6' ((L.take k).flatten.length + m) c6' (((L.take k).flatten ++ b).map byteV) := (hv6'.ext he6).keep fun j hj hn => hs7 j (fun hb => (hf7 j hb).2 hj) hn
        refine ⟨⟨i + 1, _, rfl, by omega, by omega, hv7'', ?_, he27, hv6'', fun j hj => ?_⟩, by show ((m : Int) - ((i + 1 : Nat) : Int)).toNat < ((m : Int) - (i : Nat)).toNat; omega⟩
        · have hst := hon.snoc (b := w) (e2.one hbi)
          have : (L.take k).flatten ++ b.take (i + 1) = (L.take k).flatten ++ b.take i ++ [w] := by rw [List.take_add_one, hbi, List.append_assoc]; rfl
          rw [this]; exact hst
        · rcases hb7 j hj with h | h
          · exact hf7 j h
          · exact ⟨(he25.trans he6).free h, fun hb => ((hv6'.ext he6).known hb) h⟩
      · have him2 : i = m := by omega
        subst him2
        have hbt : b.take i = b := List.take_of_length_le (by omega)
        rw [hbt] at hon
        unfold up1_24
        have hw : IntKind.wrap .i64 ((k : Int) + 1) = ((k + 1 : Nat) : Int) := by rw [IntWalk.i64_in _ (by omega)]; omega
        rw [hw]
        have hll : (L.take (k + 1)).flatten.length = (L.take k).flatten.length + i := by rw [htk, List.length_append, hbm]
        refine ⟨⟨k + 1, vs7, rfl, by omega, hll.symm, hll.symm, by rw [htk]; exact hv6', hv7, by rw [htk]; exact hon, he25, hf6', hf7⟩, by show ((n5 : Int) - ((k + 1 : Nat) : Int)).toNat < ((n5 : Int) - (k : Nat)).toNat; omega⟩
  · have hkL : k = L.length := by omega
    subst hkL
    rw [List.take_length] at hv6 hv7 hon ⊢
    unfold up1_21
    refine Patterns_c fun H4 i he4 hi hc4 => ⟨_, _, _, rfl, ?_⟩
    refine Mod_c (by decide) ⟨_, rfl, ?_⟩
    have hmb := modOf_bounds (a := pk) (n := 7) (by omega) (by omega)
    have e7 : (7 : Int) = ((7 : Nat) : Int) := rfl
    rw [e7]
    generalize modOf pk ((7 : Nat) : Int) = r at hmb
    simp only [ptr_some, add_at]
    refine ⟨⟨by omega, by omega⟩, ldS_at hc4 (pats_get (n := 0 + r.toNat * 1) (by omega)) ?_⟩
    obtain ⟨st, hr, hpos, hpl⟩ := playOf_pats (i := 0 + r.toNat * 1) (by omega)
    generalize pats.getD (0 + r.toNat * 1) default = s at hpl
    have he24 := he23.trans he4
    unfold up1_18
    refine Play_c (hL.ext he24) (by omega) (by rw [sum_flatten]; omega) fun H5 he5 => ⟨_, _, _, rfl, ?_⟩
    unfold up1_15
    refine nw_ext fun j H6 hj6 he6 hc6 => ?_
    have he46 := he4.trans (he5.trans he6)
    have hw6 : Byt H6 p6 L.flatten.length c6 L.flatten := vec_byt (hv6.ext he46)
    have hp1 : Pcs H6 (some ⟨j, 0, none⟩) 1 1 [L.flatten] := by
      refine ⟨rfl, Nat.le_refl _, [.slice p6 L.flatten.length c6], rfl, rd_at hc6 _ 0 0 (fun j hj => by simp), fun i bs hb => ?_⟩
      match i, hb with
      | 0, hb => cases hb; exact ⟨_, _, _, rfl, hw6⟩
      | i + 1, hb => simp at hb
    refine Play_c hp1 (by omega) (by show L.flatten.length + 0 ≤ 1048576; omega) fun H7 he7 => ⟨_, _, _, rfl, ?_⟩
    unfold up1_12
    have he27 := he23.trans (he46.trans he7)
    have hp2 : Pcs H7 p7 L.flatten.length c7 (L.flatten.map fun b => [b]) := by
      refine ⟨List.length_map _, hv7.2.1, vs7, hon.1, (hv7.ext (he46.trans he7)).rdS, fun i bs hb => ?_⟩
      rw [List.getElem?_map] at hb
      cases hw : L.flatten[i]? with
      | none => rw [hw] at hb; simp at hb
      | some w =>
        rw [hw] at hb
        simp at hb; subst hb
        obtain ⟨q, m, cc, e1, e2⟩ := hon.2 i w hw
        exact ⟨q, m, cc, e1, e2.ext he27⟩
    refine Play_c hp2 (by omega) (by rw [sum_ones]; omega) fun H8 he8 => ⟨_, _, _, rfl, ?_⟩
    have hfin := hk H8 (he12.trans (he27.trans he8))
    obtain ⟨a1, a2, a3, a4, a5, a6, a7, a8, a9⟩ := play_divides hr hpos L
    rw [hpl, hpl, hpl]
    generalize playSt st L = A at a1 a2 a3 a4 a5 a6 a7 a8 a9
    generalize playSt st [L.flatten] = B at a1 a2 a3 a4 a5 a6 a7 a8 a9
    generalize playSt st (L.flatten.map fun b => [b]) = C at a1 a2 a3 a4 a5 a6 a7 a8 a9
    obtain ⟨i1, v1, r1⟩ := A
    obtain ⟨i2, v2, r2⟩ := B
    obtain ⟨i3, v3, r3⟩ := C
    dsimp only at a1 a2 a3 a4 a5 a6 a7 a8 a9 ⊢
    unfold up1_8
    refine sel_bne (fun h => absurd a1 h) (fun _ => ?_)
    refine sel_bne (fun h => absurd a2 h) (fun _ => ?_)
    refine sel_bne (fun h => absurd a3 h) (fun _ => ?_)
    refine sel_bne (fun h => absurd a4 h) (fun _ => ?_)
    unfold up1_6
    refine sel_bne (fun h => absurd a5 h) (fun _ => ?_)
    unfold up1_3
    refine sel_dec (fun hneg => ?_) (fun hnn => ?_)
    · obtain ⟨b1, b2⟩ := a7 hneg
      refine sel_beq (fun _ => ?_) (fun hne => absurd (by rw [b1, l1]) hne)
      have : ((i3 : Int) == ((L.flatten.length : Nat) : Int)) = true := by rw [b2]; simp
      rw [this]; exact hfin
    · obtain ⟨b1, b2⟩ := a8 (by omega)
      unfold up1_1
      have hw : IntKind.wrap .i64 (v1 - 1) = v1 - 1 := by rw [IntWalk.i64_in _ (by omega)]
      rw [hw]
      refine sel_beq (fun _ => ?_) (fun hne => absurd b1 hne)
      have : (decide ((i1 : Int) < 0) == ((v1 : Int) == 0)) = true := by
        by_cases hi : i1 < 0
        · rw [decide_eq_true hi, b2.1 hi]; rfl
        · rw [decide_eq_false hi]
          have : ¬ v1 = 0 := fun h => hi (b2.2 h)
          simp [this]
      rw [this]; exact hfin
end Go.Proofs.Ytaffcoiomggpfaa
