/- Contracts of package auto (2): put, build, Build. -/
import Derived.Test.YtaffcoiomggpfaaVAuto1
namespace Go.Proofs.Ytaffcoiomggpfaa
open Go.V
attribute [local irreducible] app
set_option linter.constructorNameAsVariable false
set_option linter.unusedVariables false

/-- The builder in block b of H; what H0 knows is as it was. -/
def BSs (H0 H : Heap) (b : Nat) (pn : Option Addr) (ln cn : Nat) (st : List Nd) : Prop :=
  Ext H0 H ∧ H0 b = none ∧ ∃ p c t, H b = some (.cells #[.slice pn ln cn, .slice p st.length c] t (0, 0)) ∧ Vec H 7 p st.length c (flat st) ∧ ∀ i, blk p i → H0 i = none ∧ i ≠ b
section
variable {H0 H : Heap} {b ln cn : Nat} {pn : Option Addr} {st : List Nd} {Q : Value → Heap → Prop} {E : Chain → Heap → Prop}
theorem BSs.ext {H' : Heap} (h : BSs H0 H b pn ln cn st) (he : Ext H H') : BSs H0 H' b pn ln cn st := by
  obtain ⟨h1, h2, p, c, t, h5, h6, h7⟩ := h
  exact ⟨h1.trans he, h2, p, c, t, he _ _ h5, h6.ext he, h7⟩
theorem BSs.new {i : Nat} (h : BSs H0 H b pn ln cn st) (hi : H i = none) (o : Obj) : BSs (H0.set i o) (H.set i o) b pn ln cn st := by
  obtain ⟨h1, h2, p, c, t, h5, h6, h7⟩ := h
  have hb : b ≠ i := ne_of h5 hi
  refine ⟨fun j x hj => ?_, by rw [Heap.set_ne _ _ hb]; exact h2, p, c, t, by rw [Heap.set_ne _ _ hb]; exact h5, h6.ext (Ext.new hi o), fun j hj => ⟨?_, (h7 j hj).2⟩⟩
  · by_cases e : j = i
    · subst e; rw [Heap.set_self] at hj ⊢; exact hj
    · rw [Heap.set_ne _ _ e] at hj ⊢; exact h1 j x hj
  · rw [Heap.set_ne _ _ (fun e => by rw [e] at hj; exact h6.known hj hi)]; exact (h7 j hj).1
theorem BSs.old {i : Nat} {o : Obj} (hi : H0 i = none) (h : BSs (H0.set i o) H b pn ln cn st) : BSs H0 H b pn ln cn st := by
  obtain ⟨h1, h2, p, c, t, h5, h6, h7⟩ := h
  have hl : ∀ j, (H0.set i o) j = none → H0 j = none := fun j hj => by
    by_cases e : j = i
    · subst e; exact hi
    · rwa [Heap.set_ne _ _ e] at hj
  exact ⟨h1.of_set hi, hl _ h2, p, c, t, h5, h6, fun j hj => ⟨hl _ (h7 j hj).1, (h7 j hj).2⟩⟩
theorem bput_c {x : Nd} (h : BSs H0 H b pn ln cn st) (hl : st.length < 1048576) (hk : ∀ H', BSs H0 H' b pn ln cn (st ++ [x]) → Q (.int .i64 (st.length : Nat)) H') :
    Does Pr 82 #[.pointer (some ⟨b, 0, none⟩), .agg #[.int .i64 x.k, .int .i64 x.l, .int .i64 x.r, .int .u64 x.a, .int .u64 x.b, .int .u64 x.c, .int .u64 x.d]] H Q E := by
  refine zqg1_fn _ _ _ _ _ _ _ _ Q E H ?_
  unfold zqg1
  refine nw_ext fun i H1 hi he1 hc1 => ?_
  obtain ⟨h1, h2, p, c, t, h5, h6, h7⟩ := h.ext he1
  simp only [ptr_some, add_at]
  refine ldSl_at (p := p) (l := st.length) (m := c) h5 rfl ?_
  refine ⟨x.k, x.l, x.r, x.a, x.b, x.c, x.d, rd_at hc1 _ 0 0 (fun j hj => by simp), ?_⟩
  refine nw_ext fun j H2 hj he2 hc2 => ?_
  refine app_one (sz := 7) (ws := x.cells) sl50 (h6.ext he2) hc2 rfl rfl hl (by omega) fun p' c' H3 hv hs hb' => ?_
  have hbb : ¬ blk p b := fun hb => (h7 b hb).2 rfl
  have h5' : H3 b = some (.cells #[.slice pn ln cn, .slice p st.length c] t (0, 0)) := by rw [hs b hbb (by rw [he2 _ _ h5]; simp)]; exact he2 _ _ h5
  refine wr_new h5' (by simp) rfl (c' := #[.slice pn ln cn, .slice p' (st.length + 1) c']) rfl fun H4 hc4 hb4 => ?_
  refine ldSl_at (p := p') (l := st.length + 1) (m := c') hc4 rfl ?_
  have hw : IntKind.wrap .i64 (((st.length + 1 : Nat) : Int) - 1) = (st.length : Nat) := by rw [IntWalk.i64_in _ (by omega)]; omega
  rw [hw]
  have hnb : ∀ i, blk p' i → H0 i = none ∧ i ≠ b := fun i hi => by
    rcases hb' i hi with h | h
    · exact h7 i h
    · exact ⟨(h1.trans he2).free h, fun e => by rw [e, he2 _ _ h5] at h; cases h⟩
  refine hk H4 ⟨fun j o hj => ?_, h2, p', c', t, by rw [hc4]; simp, ?_, hnb⟩
  · have hjb : j ≠ b := fun e => by rw [e, h2] at hj; cases hj
    rw [hb4 j hjb]
    have hj' := (h1.trans he2) j o hj
    rw [hs j (fun hb => by rw [(h7 j hb).1] at hj; cases hj) (by simp [hj'])]; exact hj'
  · rw [flat_snoc] at hv
    have hv' : Vec H3 7 p' (st ++ [x]).length c' (flat (st ++ [x])) := by simpa using hv
    exact hv'.keep fun i hi _ => hb4 i (hnb i hi).2
/-- A number of a state is changed. -/
theorem flat_setL {n : Nat} {v : Int} : ∀ (st : List Nd) (n : Nat), n < st.length → flat (setL st n v) = (flat st).set (n * 7 + 1) (.int .i64 v)
  | [], n, h => by simp at h
  | x :: st, 0, h => by simp [setL, flat, Nd.cells]
  | x :: st, n + 1, h => by
    have ih := flat_setL (n := n) (v := v) st n (by simpa using h)
    unfold setL at ih ⊢
    rw [List.modify_succ_cons]
    have e : ∀ (y : Nd) (l : List Nd), flat (y :: l) = y.cells ++ flat l := fun y l => by simp [flat]
    rw [e, e, ih, List.set_append_right _ _ (by simp [Nd.cells]; omega)]
    congr 2
    simp [Nd.cells]; omega
theorem setL_c {n : Nat} {v : Int} {K : Heap → Prop} (h : BSs H0 H b pn ln cn st) (hn : n < st.length) (hk : ∀ H', BSs H0 H' b pn ln cn (setL st n v) → K H') :
    ldSl (Addr.add ⟨b, 0, none⟩ 1) H fun p l c => (0 ≤ ((n : Nat) : Int) ∧ ((n : Nat) : Int) < ((l : Nat) : Int)) ∧ ptr p fun q => wr (Addr.add (Addr.add q (((n : Nat) : Int).toNat * 7)) 1) [.int .i64 v] H K := by
  obtain ⟨h1, h2, p, c, t, h5, h6, h7⟩ := h
  rw [add_at]
  refine ldSl_at (p := p) (l := st.length) (m := c) h5 rfl ⟨⟨by omega, by omega⟩, ?_⟩
  obtain ⟨v1, v2, v3⟩ := id h6
  cases p with
  | none => simp only [] at v3; omega
  | some a =>
    obtain ⟨bb, cs, t', rfl, hb, hcs, hget⟩ := v3
    simp only [ptr_some, add_at, Int.toNat_natCast, Nat.zero_add]
    have hbb := h7 bb ⟨_, rfl, rfl⟩
    refine wr_new hb (by simp; omega) rfl (c' := cs.setIfInBounds (n * 7 + 1) (.int .i64 v)) rfl fun H4 hc4 hb4 => ?_
    refine hk H4 ⟨fun j o hj => ?_, h2, some ⟨bb, 0, none⟩, c, t, by rw [hb4 b (Ne.symm hbb.2), setL_length]; exact h5, ?_, h7⟩
    · rw [hb4 j (fun e => by rw [e, hbb.1] at hj; cases hj)]; exact h1 j o hj
    · refine ⟨by rw [flat_length], by rw [setL_length]; exact v2, bb, _, t', rfl, hc4, by simpa using hcs, fun j hj => ?_⟩
      rw [setL_length] at hj
      rw [flat_setL (n := n) st n hn, Array.getElem?_setIfInBounds, List.getElem?_set]
      have hfl := flat_length st
      by_cases e : n * 7 + 1 = j
      · rw [if_pos e, if_pos e, if_pos (by omega), if_pos (by omega)]
      · rw [if_neg e, if_neg e]; exact hget j hj
end
set_option maxHeartbeats 1000000 in
theorem build_c {l : List Nd} {g : Nat → Nat} (hz : Sz l g) : ∀ (f : Nat) {H0 H : Heap} {b cn n out : Nat} {pn : Option Addr} {st : List Nd} {Q : Value → Heap → Prop} {E : Chain → Heap → Prop}, n < f → n < l.length → out < st.length → InR st →
    st.length + g n ≤ 100000 → BSs H0 H b pn l.length cn st → Nds H0 pn l →
    (∀ H', BSs H0 H' b pn l.length cn (bd l f n out st).2 → Q (.int .i64 ((bd l f n out st).1 : Nat)) H') →
    Does Pr 83 #[.pointer (some ⟨b, 0, none⟩), .int .i64 (n : Nat), .int .i64 (out : Nat)] H Q E
  | 0, _, _, _, _, _, _, _, _, _, _, hf, _, _, _, _, _, _, _ => by omega
  | f + 1, H0, H, b, cn, n, out, pn, st, Q, E, hf, hn, ho, hi, hsz, h, hv, hk => by
    refine zqh1_fn _ _ _ Q E H ?_
    obtain ⟨x, hx⟩ : ∃ x, l[n]? = some x := ⟨_, List.getElem?_eq_getElem hn⟩
    have hxd : l.getD n default = x := by rw [List.getD_eq_getElem?_getD, hx]; rfl
    obtain ⟨g1, g2, g3⟩ := hz n x hx
    unfold zqh1 zqh1_71
    simp only [ptr_some]
    obtain ⟨_, _, p, c, t, h5, _, _⟩ := id h
    refine ldSl_at (p := pn) (l := l.length) (m := cn) h5 rfl ⟨⟨by omega, by omega⟩, ?_⟩
    obtain ⟨a, rfl, hrd⟩ := (hv.ext h.1) n x hx
    simp only [ptr_some, Int.toNat_natCast]
    refine ⟨x.k, x.l, x.r, x.a, x.b, x.c, x.d, hrd, ?_⟩
    refine nw_ext fun i H1 hi1 he1 hc1 => ?_
    refine wr_new hc1 (by simp) rfl (c' := x.cells.toArray) rfl fun H2 hc2 hb2 => ?_
    have hi0 : H0 i = none := h.1.free hi1
    -- the node's copy is in the base
    have h2 : BSs (H0.set i (.cells x.cells.toArray 48 (0, 0))) H2 b (some a) l.length cn st := by
      have := h.new hi1 (.cells x.cells.toArray 48 (0, 0))
      refine this.ext fun j o hj => ?_
      by_cases e : j = i
      · subst e; rw [Heap.set_self] at hj; rw [hc2]; exact hj
      · rw [Heap.set_ne _ _ e] at hj; rw [hb2 j e]; exact he1 j o hj
    have hv2 : Nds (H0.set i (.cells x.cells.toArray 48 (0, 0))) (some a) l := hv.ext (Ext.new hi0 _)
    have hcx : ∀ (H' : Heap), Ext (H0.set i (.cells x.cells.toArray 48 (0, 0))) H' → H' i = some (.cells x.cells.toArray 48 (0, 0)) := fun H' he => he.get
    have hk2 : ∀ H', BSs (H0.set i (.cells x.cells.toArray 48 (0, 0))) H' b (some a) l.length cn (bd l (f + 1) n out st).2 → Q (.int .i64 ((bd l (f + 1) n out st).1 : Nat)) H' := fun H' h' => hk H' (h'.old hi0)
    clear hk
    have hbd : bd l (f + 1) n out st = (
      if x.k = 2 then (st.length, st ++ [⟨1, out, 0, x.a, x.b, x.c, x.d⟩])
      else if x.k = 8 then (st.length, st ++ [⟨3, out, 0, 0, 0, 0, 0⟩])
      else if x.k = 9 then (st.length, st ++ [⟨4, out, 0, 0, 0, 0, 0⟩])
      else if x.k = 3 then
        let y := bd l f x.r.toNat out st
        bd l f x.l.toNat y.1 y.2
      else if x.k = 4 then
        let y := bd l f x.l.toNat out st
        let z := bd l f x.r.toNat out y.2
        (z.2.length, z.2 ++ [⟨2, y.1, z.1, 0, 0, 0, 0⟩])
      else if x.k = 7 then
        let y := bd l f x.l.toNat out st
        (y.2.length, y.2 ++ [⟨2, y.1, out, 0, 0, 0, 0⟩])
      else if x.k = 5 ∨ x.k = 6 then
        let y := bd l f x.l.toNat st.length (st ++ [⟨2, 0, out, 0, 0, 0, 0⟩])
        (if x.k = 6 then y.1 else st.length, setL y.2 st.length y.1)
      else (out, st)) := by
      conv => lhs; unfold bd
      dsimp only
      rw [hxd]
    generalize hB : H0.set i (.cells x.cells.toArray 48 (0, 0)) = HB at h2 hv2 hcx hk2
    have hc2' := hcx H2 h2.1
    have k2 : (x.k = 3 ∨ x.k = 4) → (0 ≤ x.l ∧ x.l < n ∧ 0 ≤ x.r ∧ x.r < n ∧ g n = 1 + g x.l.toNat + g x.r.toNat) := fun h => by
      have : kidsOf x.k = 2 := by unfold kidsOf; rw [if_neg (by omega), if_neg (by omega), if_pos h]
      rcases g3 with g3 | g3 | g3 <;> first | exact g3.2 | omega
    have k1 : (x.k = 5 ∨ x.k = 6 ∨ x.k = 7) → (0 ≤ x.l ∧ x.l < n ∧ g n = 1 + g x.l.toNat) := fun h => by
      have : kidsOf x.k = 1 := by unfold kidsOf; rw [if_neg (by omega), if_pos h]
      rcases g3 with g3 | g3 | g3 <;> first | exact g3.2 | omega
    unfold zqh1_67
    simp only [ptr_some]
    refine ldI_at (n := x.k) hc2' rfl ?_
    unfold zqh1_63 zqh1_61
    refine sel_beq (fun hc => ?_) (fun n2 => ?_)
    · rw [if_pos hc] at hbd
      rw [hbd] at hk2
      unfold zqh1_3
      simp only [ptr_some, add_at]
      refine ⟨x.a, x.b, x.c, x.d, rd_at hc2' _ 3 0 (fun j hj => by
        match j, hj with
        | 0, _ => rfl
        | 1, _ => rfl
        | 2, _ => rfl
        | 3, _ => rfl), ?_⟩
      exact bput_c (x := ⟨1, out, 0, x.a, x.b, x.c, x.d⟩) h2 (by omega) fun H3 h3 => ⟨_, rfl, hk2 H3 h3⟩
    rw [if_neg n2] at hbd
    unfold zqh1_58 zqh1_56
    refine sel_beq (fun hc => ?_) (fun n8 => ?_)
    · rw [if_pos hc] at hbd
      rw [hbd] at hk2
      unfold zqh1_5
      exact bput_c (x := ⟨3, out, 0, 0, 0, 0, 0⟩) h2 (by omega) fun H3 h3 => ⟨_, rfl, hk2 H3 h3⟩
    rw [if_neg n8] at hbd
    unfold zqh1_53 zqh1_51
    refine sel_beq (fun hc => ?_) (fun n9 => ?_)
    · rw [if_pos hc] at hbd
      rw [hbd] at hk2
      unfold zqh1_7
      exact bput_c (x := ⟨4, out, 0, 0, 0, 0, 0⟩) h2 (by omega) fun H3 h3 => ⟨_, rfl, hk2 H3 h3⟩
    rw [if_neg n9] at hbd
    unfold zqh1_48 zqh1_46
    refine sel_beq (fun hc => ?_) (fun n3 => ?_)
    · rw [if_pos hc] at hbd
      rw [hbd] at hk2
      obtain ⟨b1, b2, b3, b4, b5⟩ := k2 (.inl hc)
      obtain ⟨c1, c2, c3, c4⟩ := bd_ok hz f x.r.toNat out st (by omega) (by omega) ho hi
      have er : x.r = ((x.r.toNat : Nat) : Int) := by omega
      have el : x.l = ((x.l.toNat : Nat) : Int) := by omega
      unfold zqh1_9
      refine ⟨fun z => z = i, ?_⟩
      simp only [ptr_some, add_at]
      refine ⟨by trivial, ldI_at (n := x.l) hc2' rfl (ldI_at (n := x.r) hc2' rfl ?_)⟩
      rw [er]
      refine build_c hz f (by omega) (by omega) ho hi (by omega) h2 hv2 fun H3 h3 => ⟨_, rfl, fun z hz' _ => by subst hz'; rw [hcx _ h3.1]; exact hc2'.symm, ?_⟩
      rw [el]
      refine build_c hz f (by omega) (by omega) c1 c4 (by omega) h3 hv2 fun H4 h4 => ⟨_, rfl, hk2 H4 h4⟩
    rw [if_neg n3] at hbd
    unfold zqh1_43 zqh1_41
    refine sel_beq (fun hc => ?_) (fun n4 => ?_)
    · rw [if_pos hc] at hbd
      rw [hbd] at hk2
      obtain ⟨b1, b2, b3, b4, b5⟩ := k2 (.inr hc)
      obtain ⟨c1, c2, c3, c4⟩ := bd_ok hz f x.l.toNat out st (by omega) (by omega) ho hi
      obtain ⟨d1, d2, d3, d4⟩ := bd_ok hz f x.r.toNat out (bd l f x.l.toNat out st).2 (by omega) (by omega) (by omega) c4
      have er : x.r = ((x.r.toNat : Nat) : Int) := by omega
      have el : x.l = ((x.l.toNat : Nat) : Int) := by omega
      unfold zqh1_11
      refine ⟨fun z => z = i, ?_⟩
      simp only [ptr_some, add_at]
      refine ldI_at (n := x.l) hc2' rfl ⟨by trivial, ldI_at (n := x.r) hc2' rfl ?_⟩
      rw [el]
      refine build_c hz f (by omega) (by omega) ho hi (by omega) h2 hv2 fun H3 h3 => ⟨_, rfl, fun z hz' _ => by subst hz'; rw [hcx _ h3.1]; exact hc2'.symm, ?_⟩
      rw [er]
      refine build_c hz f (by omega) (by omega) (by omega) c4 (by omega) h3 hv2 fun H4 h4 => ⟨_, rfl, ?_⟩
      exact bput_c (x := ⟨2, ((bd l f x.l.toNat out st).1 : Nat), ((bd l f x.r.toNat out (bd l f x.l.toNat out st).2).1 : Nat), 0, 0, 0, 0⟩) h4 (by omega) fun H5 h5 => ⟨_, rfl, hk2 H5 h5⟩
    rw [if_neg n4] at hbd
    unfold zqh1_38 zqh1_36
    refine sel_beq (fun hc => ?_) (fun n7 => ?_)
    · rw [if_pos hc] at hbd
      rw [hbd] at hk2
      obtain ⟨b1, b2, b3⟩ := k1 (by omega)
      obtain ⟨c1, c2, c3, c4⟩ := bd_ok hz f x.l.toNat out st (by omega) (by omega) ho hi
      have el : x.l = ((x.l.toNat : Nat) : Int) := by omega
      unfold zqh1_13
      simp only [ptr_some, add_at]
      refine ldI_at (n := x.l) hc2' rfl ?_
      rw [el]
      refine build_c hz f (by omega) (by omega) ho hi (by omega) h2 hv2 fun H3 h3 => ⟨_, rfl, ?_⟩
      exact bput_c (x := ⟨2, ((bd l f x.l.toNat out st).1 : Nat), (out : Nat), 0, 0, 0, 0⟩) h3 (by omega) fun H5 h5 => ⟨_, rfl, hk2 H5 h5⟩
    rw [if_neg n7] at hbd
    have loop : (x.k = 5 ∨ x.k = 6) → zqh1_31 Q E (some ⟨b, 0, none⟩) (out : Nat) (some ⟨i, 0, none⟩) true H2 := by
      intro hc
      rw [if_pos hc] at hbd
      rw [hbd] at hk2
      dsimp only at hk2
      obtain ⟨b1, b2, b3⟩ := k1 (by omega)
      have el : x.l = ((x.l.toNat : Nat) : Int) := by omega
      have hi1 : InR (st ++ [⟨2, 0, out, 0, 0, 0, 0⟩]) := hi.snoc ⟨by simp only []; omega, by simp only []; omega⟩ ⟨by simp only []; omega, by simp only []; omega⟩
      have hl1 : (st ++ [(⟨2, 0, out, 0, 0, 0, 0⟩ : Nd)]).length = st.length + 1 := by simp
      obtain ⟨c1, c2, c3, c4⟩ := bd_ok hz f x.l.toNat st.length (st ++ [⟨2, 0, out, 0, 0, 0, 0⟩]) (by omega) (by omega) (by simp) hi1
      unfold zqh1_31
      refine sel_tt ?_
      unfold zqh1_26
      refine bput_c (x := ⟨2, 0, (out : Nat), 0, 0, 0, 0⟩) h2 (by omega) fun H3 h3 => ⟨_, rfl, ?_⟩
      unfold zqh1_23
      simp only [ptr_some, add_at]
      refine ldI_at (n := x.l) (hcx _ h3.1) rfl ?_
      rw [el]
      refine build_c hz f (by omega) (by omega) (by omega) hi1 (by omega) h3 hv2 fun H4 h4 => ⟨_, rfl, ?_⟩
      unfold zqh1_20
      simp only [ptr_some]
      refine setL_c h4 (by omega) fun H5 h5 => ?_
      unfold zqh1_17
      simp only [ptr_some]
      refine ldI_at (n := x.k) (hcx _ h5.1) rfl (sel_beq (fun h6 => ?_) (fun h6 => ?_))
      · rw [if_pos h6] at hk2; exact hk2 H5 h5
      · rw [if_neg h6] at hk2
        unfold zqh1_15
        exact hk2 H5 h5
    unfold zqh1_33
    refine sel_mk (fun hc => ?_) (fun hc => ?_)
    · rw [hc]; exact loop (.inl (by simpa using hc))
    cases h6 : (x.k == 6) with
    | true => exact loop (.inr (by simpa using h6))
    | false =>
      have hc : x.k ≠ 5 := by simpa using hc
      have h6 : x.k ≠ 6 := by simpa using h6
      rw [if_neg (by omega)] at hbd
      rw [hbd] at hk2
      unfold zqh1_31
      refine sel_ff ?_
      unfold zqh1_29 zqh1_1
      exact hk2 H2 h2
def setLR (st : List Nd) (v : Int) : List Nd := st.modify 0 fun x => { x with l := v, r := v }
theorem setLR_length (st : List Nd) (v : Int) : (setLR st v).length = st.length := by simp [setLR]
theorem InR.setLR {st : List Nd} {v : Int} (h : InR st) (hv : 0 ≤ v ∧ v < st.length) : InR (setLR st v) := fun y hy => by
  rw [setLR_length]
  cases st with
  | nil => simp [Go.Proofs.Ytaffcoiomggpfaa.setLR] at hy
  | cons x st =>
    simp [Go.Proofs.Ytaffcoiomggpfaa.setLR] at hy
    rcases hy with rfl | hy
    · exact ⟨hv.1, hv.2, hv.1, hv.2⟩
    · exact h y (by simp [hy])
def buildOf (l : List Nd) : List Nd :=
  setLR (bd l l.length (l.length - 1) 1 [⟨2, 0, 0, 0, 0, 0, 0⟩, ⟨5, 0, 0, 0, 0, 0, 0⟩]).2 (bd l l.length (l.length - 1) 1 [⟨2, 0, 0, 0, 0, 0, 0⟩, ⟨5, 0, 0, 0, 0, 0, 0⟩]).1
theorem InR2 : InR [⟨2, 0, 0, 0, 0, 0, 0⟩, ⟨5, 0, 0, 0, 0, 0, 0⟩] := fun x hx => by
  simp at hx
  rcases hx with rfl | rfl <;> simp
theorem build_facts {l : List Nd} (h : validOf l = true) : InR (buildOf l) ∧ 2 ≤ (buildOf l).length ∧ (buildOf l).length ≤ l.length + 2 ∧ l.length ≤ 256 := by
  obtain ⟨h1, h2, g, hz⟩ := valid_sz h
  obtain ⟨c1, c2, c3, c4⟩ := bd_ok hz l.length (l.length - 1) 1 [⟨2, 0, 0, 0, 0, 0, 0⟩, ⟨5, 0, 0, 0, 0, 0, 0⟩] (by omega) (by omega) (by simp) InR2
  have hg : g (l.length - 1) ≤ l.length - 1 + 1 := by
    obtain ⟨x, hx⟩ : ∃ x, l[l.length - 1]? = some x := ⟨_, List.getElem?_eq_getElem (by omega)⟩
    exact (hz _ x hx).2.1
  unfold buildOf
  rw [setLR_length]
  simp only [List.length_cons, List.length_nil] at c2 c3
  exact ⟨c4.setLR ⟨by omega, by omega⟩, by omega, by omega, h2⟩
theorem Build_c {H : Heap} {p : Option Addr} {c : Nat} {l : List Nd} {Q : Value → Heap → Prop} {E : Chain → Heap → Prop} (hv : Nds H p l) (hval : validOf l = true)
    (hk : ∀ H' p' c', Ext H H' → Vec H' 7 p' (buildOf l).length c' (flat (buildOf l)) → (∀ j, blk p' j → H j = none) → Q (.slice p' (buildOf l).length c') H') : Does Pr 51 #[.slice p l.length c] H Q E := by
  obtain ⟨hl1, hl2, g, hz⟩ := valid_sz hval
  refine zqy_fn _ _ _ Q E H ?_
  unfold zqy
  refine nw_ext fun i H1 hi he1 hc1 => ?_
  have h1 : BSs H H1 i p l.length c [] := ⟨he1, hi, none, 0, 132, hc1, Vec.nil _ 7, fun j hj => by obtain ⟨a, ha, _⟩ := hj; cases ha⟩
  refine bput_c (x := ⟨2, 0, 0, 0, 0, 0, 0⟩) h1 (by simp) fun H2 h2 => ⟨_, rfl, ?_⟩
  refine bput_c (x := ⟨5, 0, 0, 0, 0, 0, 0⟩) h2 (by simp) fun H3 h3 => ⟨_, rfl, ?_⟩
  have hw : IntKind.wrap .i64 (((l.length : Nat) : Int) - 1) = ((l.length - 1 : Nat) : Int) := by rw [IntWalk.i64_in _ (by omega)]; omega
  rw [hw]
  have hg : g (l.length - 1) ≤ l.length - 1 + 1 := by
    obtain ⟨x, hx⟩ : ∃ x, l[l.length - 1]? = some x := ⟨_, List.getElem?_eq_getElem (by omega)⟩
    exact (hz _ x hx).2.1
  have hok := bd_ok hz l.length (l.length - 1) 1 [⟨2, 0, 0, 0, 0, 0, 0⟩, ⟨5, 0, 0, 0, 0, 0, 0⟩] (by omega) (by omega) (by simp) InR2
  have hdef : buildOf l = setLR (bd l l.length (l.length - 1) 1 [⟨2, 0, 0, 0, 0, 0, 0⟩, ⟨5, 0, 0, 0, 0, 0, 0⟩]).2 (bd l l.length (l.length - 1) 1 [⟨2, 0, 0, 0, 0, 0, 0⟩, ⟨5, 0, 0, 0, 0, 0, 0⟩]).1 := rfl
  refine build_c hz l.length (n := l.length - 1) (out := 1) (st := [⟨2, 0, 0, 0, 0, 0, 0⟩, ⟨5, 0, 0, 0, 0, 0, 0⟩]) (by omega) (by omega) (by simp) InR2 (by simp only [List.length_cons, List.length_nil]; omega) h3 hv fun H4 h4 => ⟨_, rfl, ?_⟩
  revert hok hdef h4
  generalize bd l l.length (l.length - 1) 1 [⟨2, 0, 0, 0, 0, 0, 0⟩, ⟨5, 0, 0, 0, 0, 0, 0⟩] = Y
  obtain ⟨y, st⟩ := Y
  intro hok hdef h4
  dsimp only at hok hdef h4 ⊢
  obtain ⟨o1, o2, o3, o4⟩ := hok
  simp only [List.length_cons, List.length_nil] at o2
  have hlen : (buildOf l).length = st.length := by rw [hdef, setLR_length]
  obtain ⟨e1, e2, ps, cs, t, e5, e6, e7⟩ := h4
  refine ldSl_at (p := ps) (l := st.length) (m := cs) e5 rfl (ldSl_at (p := ps) (l := st.length) (m := cs) e5 rfl ⟨⟨by omega, by omega⟩, ?_⟩)
  obtain ⟨v1, v2, v3⟩ := e6
  cases ps with
  | none => simp only [] at v3; omega
  | some a =>
    obtain ⟨bb, cc, t', rfl, hb, hcs, hget⟩ := v3
    simp only [ptr_some, add_at, Nat.zero_add]
    have hbb := e7 bb ⟨_, rfl, rfl⟩
    refine wr_new hb (by simp; omega) rfl (c' := cc.setIfInBounds 1 (.int .i64 (y : Nat))) rfl fun H5 hc5 hb5 => ?_
    refine ⟨⟨by omega, by omega⟩, ?_⟩
    refine wr_new hc5 (by simp; omega) rfl (c' := (cc.setIfInBounds 1 (.int .i64 (y : Nat))).setIfInBounds 2 (.int .i64 (y : Nat))) rfl fun H6 hc6 hb6 => ?_
    refine ldSl_at (p := some ⟨bb, 0, none⟩) (l := st.length) (m := cs) (by rw [hb6 i (Ne.symm hbb.2), hb5 i (Ne.symm hbb.2)]; exact e5) rfl ?_
    have := hk H6 (some ⟨bb, 0, none⟩) cs (ext_but (ext_but e1 hbb.1 hb5) hbb.1 hb6)
    rw [hlen] at this
    refine this ⟨by rw [flat_length, hlen], v2, bb, _, t', rfl, hc6, by simpa using hcs, fun j hj => ?_⟩ (fun j hj => by obtain ⟨a, ha, rfl⟩ := hj; cases ha; exact hbb.1)
    rw [hdef]
    cases st with
    | nil => simp at o2
    | cons x st =>
      have ef : flat (setLR (x :: st) (y : Nat)) = ((flat (x :: st)).set 1 (.int .i64 (y : Nat))).set 2 (.int .i64 (y : Nat)) := by simp [setLR, flat, Nd.cells]
      rw [ef, Array.getElem?_setIfInBounds, Array.getElem?_setIfInBounds, List.getElem?_set, List.getElem?_set]
      have hfl := flat_length (x :: st)
      simp only [List.length_set, Array.size_setIfInBounds]
      by_cases q2 : 2 = j
      · rw [if_pos q2, if_pos q2, if_pos (by omega), if_pos (by omega)]
      · rw [if_neg q2, if_neg q2]
        by_cases q1 : 1 = j
        · rw [if_pos q1, if_pos q1, if_pos (by omega), if_pos (by omega)]
        · rw [if_neg q1, if_neg q1]; exact hget j hj
end Go.Proofs.Ytaffcoiomggpfaa
