/- Contracts of packages nfa (Compile) and matcher. -/
import Derived.Test.YtaffcoiomggpfaaVPlay
import Derived.Test.YtaffcoiomggpfaaVByt
import Derived.Test.YtaffcoiomggpfaaVTree2
import Derived.Test.YtaffcoiomggpfaaFmatcher
import Derived.Test.YtaffcoiomggpfaaFnfa
namespace Go.Proofs.Ytaffcoiomggpfaa
open Go.V
attribute [local irreducible] app
set_option linter.constructorNameAsVariable false
set_option linter.unusedVariables false

theorem Compile_c {H : Heap} {p : Option Addr} {c : Nat} {l : List Nd} {Q : Value → Heap → Prop} {E : Chain → Heap → Prop} (hv : Vec H 7 p l.length c (flat l)) (hval : validOf l = true)
    (hk : ∀ H' p' c', Ext H H' → Vec H' 7 p' (buildOf l).length c' (flat (buildOf l)) → Q (.tuple #[.slice p' (buildOf l).length c', .int .i64 0]) H') : Does Pr 33 #[.slice p l.length c] H Q E := by
  refine ud2_fn _ _ _ Q E H ?_
  unfold ud2 ud2_3
  refine Valid_c hv fun H1 he1 => ⟨_, rfl, ?_⟩
  rw [hval]
  refine sel_ff ?_
  unfold ud2_1
  exact Build_c (hv.ext he1) hval fun H2 p2 c2 he2 hv2 hf2 => ⟨_, _, _, rfl, hk H2 p2 c2 (he1.trans he2) hv2⟩
theorem MNew_c {H : Heap} {s : ByteArray} {N : List Nd} {e : Int} {Q : Value → Heap → Prop} {E : Chain → Heap → Prop} (hp : rxParse s = (N, e))
    (hbad : e ≠ 0 → ∀ H', Ext H H' → Q (.tuple #[.agg #[.slice none 0 0], .int .i64 e]) H')
    (hk : e = 0 → ∀ H' p c, Ext H H' → Vec H' 7 p (buildOf N).length c (flat (buildOf N)) → Q (.tuple #[.agg #[.slice p (buildOf N).length c], .int .i64 0]) H') : Does Pr 77 #[.string s] H Q E := by
  refine uk1_fn _ Q E H ?_
  unfold uk1
  refine nw_ext fun i H1 hi he1 hc1 => ?_
  unfold uk1_6
  refine Parse_c fun p c l e' H2 hp' he2 hv2 hf2 => ⟨_, _, _, _, rfl, ?_⟩
  rw [hp] at hp'
  cases hp'
  have hc2 := he2 _ _ hc1
  unfold uk1_3
  refine sel_bne (fun hne => ?_) (fun heq => ?_)
  · simp only [ptr_some]
    refine wr_new hc2 (by simp) rfl (c' := #[.slice none 0 0]) rfl fun H3 hc3 hb3 => ?_
    exact ⟨none, 0, 0, rd_at hc3 _ 0 0 (fun j hj => by simp), hbad hne H3 (ext_but (he1.trans he2) hi hb3)⟩
  · obtain ⟨_, r2⟩ := rxParse_small hp
    obtain ⟨_, _, r3, _⟩ := r2 heq
    unfold uk1_1
    refine Compile_c hv2 r3 fun H3 p3 c3 he3 hv3 => ⟨_, _, _, _, rfl, ?_⟩
    simp only [ptr_some]
    refine wr_new (he3 _ _ hc2) (by simp) rfl (c' := #[.slice p3 (buildOf N).length c3]) rfl fun H4 hc4 hb4 => ?_
    refine ⟨p3, (buildOf N).length, c3, rd_at hc4 _ 0 0 (fun j hj => by simp), hk heq H4 p3 c3 (ext_but ((he1.trans he2).trans he3) hi hb4) ?_⟩
    exact hv3.keep fun j hj hn => by
      by_cases e : j = i
      · subst e
        obtain ⟨_, _, h3⟩ := hv3
        cases p3 with
        | none => obtain ⟨x, hx, _⟩ := hj; cases hx
        | some a =>
          obtain ⟨b, cs, t, rfl, hb, hcs, hget⟩ := h3
          obtain ⟨x, hx, rfl⟩ := hj
          cases hx
          rw [he3 _ _ hc2] at hb
          cases hb
          have := build_facts r3
          simp at hcs
          omega
      · exact hb4 j e
theorem Begin_c {H : Heap} {p : Option Addr} {c : Nat} {st : List Nd} {Q : Value → Heap → Prop} {E : Chain → Heap → Prop} (hv : Vec H 7 p st.length c (flat st)) (hr : InR st) (hpos : 0 < st.length) (hn : st.length ≤ 100000)
    (hk : ∀ a H1 H', Ext H H1 → MSt H1 H' a p c st false (startM st true) → Q (.pointer (some ⟨a, 0, none⟩)) H') : Does Pr 78 #[.agg #[.slice p st.length c]] H Q E := by
  refine ul1_fn _ _ _ Q E H ?_
  unfold ul1
  refine nw_ext fun i H1 hi he1 hc1 => ?_
  refine ldSl_at (p := p) (l := st.length) (m := c) hc1 rfl ?_
  exact start_c (hv.ext he1) hr hpos hn fun a H2 m2 => ⟨_, rfl, hk a H1 H2 he1 m2⟩
/-- Pieces of bytes that are only read. -/
def Pcs (H : Heap) (p : Option Addr) (n c : Nat) (L : List (List UInt8)) : Prop :=
  L.length = n ∧ n ≤ c ∧ ∃ vs : List Value, vs.length = n ∧ H.rdS p vs ∧ ∀ (i : Nat) (bs : List UInt8), L[i]? = some bs → ∃ (q : Option Addr) (m cc : Nat), vs[i]? = some (Value.slice q m cc) ∧ Byt H q m cc bs
theorem Pcs.ext {H H' : Heap} {p : Option Addr} {n c : Nat} {L : List (List UInt8)} (h : Pcs H p n c L) (he : Ext H H') : Pcs H' p n c L := by
  obtain ⟨h1, h2, vs, h3, h4, h5⟩ := h
  refine ⟨h1, h2, vs, h3, rdS_ext he h4, fun i bs hb => ?_⟩
  obtain ⟨q, m, cc, e1, e2⟩ := h5 i bs hb
  exact ⟨q, m, cc, e1, e2.ext he⟩
def playOf (s : ByteArray) (L : List (List UInt8)) : Int × Int × Int :=
  if (rxParse s).2 ≠ 0 then (0, 0, (rxParse s).2) else playSt (buildOf (rxParse s).1) L
theorem sum_drop (L : List (List UInt8)) {k : Nat} {b : List UInt8} (h : L[k]? = some b) : ((L.drop k).map List.length).sum = b.length + ((L.drop (k + 1)).map List.length).sum := by
  have hlt := (List.getElem?_eq_some_iff.1 h).1
  rw [List.drop_eq_getElem_cons hlt]
  rw [List.getElem?_eq_getElem hlt] at h
  rw [Option.some.inj h]
  simp
set_option maxHeartbeats 1000000 in
theorem Play_c {H : Heap} {s : ByteArray} {p : Option Addr} {n c : Nat} {L : List (List UInt8)} {Q : Value → Heap → Prop} {E : Chain → Heap → Prop} (hL : Pcs H p n c L) (hn : n ≤ 1048576) (hsum : (L.map List.length).sum ≤ 1048576)
    (hk : ∀ H', Ext H H' → Q (.tuple #[.int .i64 (playOf s L).1, .int .i64 (playOf s L).2.1, .int .i64 (playOf s L).2.2]) H') : Does Pr 45 #[.string s, .slice p n c] H Q E := by
  refine uj1_fn _ _ _ _ Q E H ?_
  unfold uj1 uj1_30
  obtain ⟨N, e', hp⟩ : ∃ N e', rxParse s = (N, e') := ⟨_, _, rfl⟩
  refine MNew_c hp (fun hne H1 he1 => ?_) (fun heq H1 p1 c1 he1 hv1 => ?_)
  · have hpl : playOf s L = (0, 0, e') := by unfold playOf; rw [hp]; exact if_pos hne
    rw [hpl] at hk
    refine ⟨_, _, _, _, rfl, ?_⟩
    refine nw_ext fun i H2 hi he2 hc2 => ?_
    refine wr_new hc2 (by simp) rfl (c' := #[.slice none 0 0]) rfl fun H3 hc3 hb3 => ?_
    unfold uj1_27
    refine sel_bne (fun _ => ?_) (fun h => absurd h hne)
    exact hk H3 (he1.trans (ext_but he2 hi hb3))
  · subst heq
    obtain ⟨_, r2⟩ := rxParse_small hp
    obtain ⟨_, _, r3, _⟩ := r2 rfl
    obtain ⟨b1, b2, b3, b4⟩ := build_facts r3
    have hpl : playOf s L = playSt (buildOf N) L := by unfold playOf; rw [hp]; exact if_neg (by simp)
    rw [hpl] at hk
    generalize buildOf N = st at *
    refine ⟨_, _, _, _, rfl, ?_⟩
    refine nw_ext fun i H2 hi he2 hc2 => ?_
    refine wr_new hc2 (by simp) rfl (c' := #[.slice p1 st.length c1]) rfl fun H3 hc3 hb3 => ?_
    have he13 : Ext H1 H3 := ext_but he2 hi hb3
    unfold uj1_27
    refine sel_bne (fun h => absurd rfl h) (fun _ => ?_)
    unfold uj1_24
    simp only [ptr_some]
    refine ⟨p1, st.length, c1, rd_at hc3 _ 0 0 (fun j hj => by simp), ?_⟩
    refine Begin_c (hv1.ext he13) b1 (by omega) (by omega) fun a HB H4 heB m4 => ⟨_, rfl, ?_⟩
    have hHB : Ext H HB := (he1.trans he13).trans heB
    have hok := start_ok b1 (by omega) true
    unfold uj1_21
    refine matched_c m4 b1 (by omega) fun H5 m5 => ⟨_, rfl, ?_⟩
    refine sel_dec (fun hf => ?_) (fun hf => ?_)
    · have : playSt st L = (-1, 0, 0) := if_pos hf
      rw [this] at hk
      exact hk H5 (hHB.trans m5.1)
    · have hps : playSt st L = playL st L 0 ((startM st true).matched st) := if_neg hf
      have hat : ((startM st true).matched st).at_ = 0 := (Ma.matched_at st _).1
      generalize (startM st true).matched st = M0 at *
      rw [hps] at hk
      unfold uj1_17 uj1_14
      refine ⟨fun x H' => ∃ (k : Nat) (M : Ma), x = (k : Nat) ∧ k ≤ n ∧ playL st (L.drop k) k M = playL st L 0 M0 ∧ M.at_ + ((L.drop k).map List.length).sum ≤ 1048576 ∧ MSt HB H' a p1 c1 st false M,
        fun x _ => (n - x).toNat, ⟨0, M0, rfl, by omega, by simp, by rw [hat]; simpa using hsum, m5⟩, ?_⟩
      rintro x H6 ⟨k, M, rfl, hkn, hpk, hatk, m6⟩
      have hLB := hL.ext hHB
      obtain ⟨l1, l2, vs, l3, l4, l5⟩ := hLB
      unfold uj1_11 uj1_8
      refine sel_dec (fun hlt => ?_) (fun hge => ?_)
      · have hlt : k < L.length := by omega
        have hbk : L[k]? = some L[k] := List.getElem?_eq_getElem hlt
        rw [List.drop_eq_getElem_cons hlt] at hpk
        have hsd := sum_drop L hbk
        generalize L[k] = b at hbk hpk hsd
        obtain ⟨q, m, cc, e1, e2⟩ := l5 k b hbk
        simp only [playL] at hpk
        unfold uj1_5
        cases p with
        | none =>
          have : vs = [] := l4
          subst this; simp at e1
        | some ad =>
          have hcell : H6.cell? (ad.add (0 + k)) = some (.slice q m cc) := rd_get (rd_ext m6.1 l4) e1
          rw [Nat.zero_add] at hcell
          simp only [ptr_some, Int.toNat_natCast, Nat.mul_one]
          refine ⟨⟨by omega, by omega⟩, q, m, cc, hcell, ?_⟩
          refine feed_c m6 b1 (by omega) (by omega) e2.1 e2.2.2 (by omega) fun H7 m7 => ⟨_, rfl, ?_⟩
          refine sel_dec (fun hf2 => ?_) (fun hf2 => ?_)
          · rw [if_pos hf2] at hpk
            refine found_c m7 b1 (by omega) fun H8 m8 => ⟨_, rfl, ?_⟩
            rw [← hpk] at hk
            exact hk H8 (hHB.trans m8.1)
          · rw [if_neg hf2] at hpk
            unfold uj1_3
            have hw : IntKind.wrap .i64 ((k : Int) + 1) = ((k + 1 : Nat) : Int) := by rw [IntWalk.i64_in _ (by omega)]; omega
            rw [hw]
            have hfa := feed_at st false (b.map UInt8.toNat) M
            rw [List.length_map] at hfa
            exact ⟨⟨k + 1, _, rfl, by omega, hpk, by omega, m7⟩, by omega⟩
      · have hkL : k = L.length := by omega
        rw [hkL, List.drop_length] at hpk
        have hpk : (((L.length : Nat) : Int), (-1 : Int), (0 : Int)) = playL st L 0 M0 := hpk
        rw [← hpk] at hk
        unfold uj1_1
        rw [← l1]
        exact hk H6 (hHB.trans m6.1)
end Go.Proofs.Ytaffcoiomggpfaa
