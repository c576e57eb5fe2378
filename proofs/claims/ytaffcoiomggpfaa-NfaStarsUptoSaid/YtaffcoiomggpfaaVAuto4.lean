import Derived.Test.YtaffcoiomggpfaaVValid
import Derived.Test.YtaffcoiomggpfaaFauto
/- Contracts of package auto (1): building an automaton. -/
namespace Go.Proofs.Ytaffcoiomggpfaa
open Go.V
attribute [local irreducible] app
set_option linter.constructorNameAsVariable false
set_option linter.unusedVariables false

theorem sl50 : SlT Pr 50 7 := .of (by kernel_rfl)
def Sz (l : List Nd) (g : Nat → Nat) : Prop := ∀ (i : Nat) (x : Nd), l[i]? = some x → 1 ≤ g i ∧ g i ≤ i + 1 ∧
  (kidsOf x.k = 0 ∨ (kidsOf x.k = 1 ∧ 0 ≤ x.l ∧ x.l < i ∧ g i = 1 + g x.l.toNat) ∨ (kidsOf x.k = 2 ∧ 0 ≤ x.l ∧ x.l < i ∧ 0 ≤ x.r ∧ x.r < i ∧ g i = 1 + g x.l.toNat + g x.r.toNat))
def szg (sz : List Int) : Nat → Nat := fun i => (sz.getD i 0).toNat
theorem vsteps_sz : ∀ (l2 l1 : List Nd) (sz sz' : List Int), sz.length = l1.length → VI sz → Sz l1 (szg sz) → vsteps sz l2 = some sz' → Sz (l1 ++ l2) (szg sz')
  | [], l1, sz, sz', hl, hv, hs, h => by
    simp only [vsteps, Option.some.injEq] at h; subst h; simpa using hs
  | x :: l2, l1, sz, sz', hl, hv, hs, h => by
    simp only [vsteps] at h
    split at h
    · cases h
    · rename_i sz1 h1
      obtain ⟨hv1, hl1⟩ := vstep_ok hv h1
      have hstep : ∃ v, sz1 = sz ++ [v] ∧ (kidsOf x.k = 0 ∧ v = 1 ∨ (kidsOf x.k = 1 ∧ 0 ≤ x.l ∧ x.l < l1.length ∧ v = 1 + sz.getD x.l.toNat 0) ∨
          (kidsOf x.k = 2 ∧ 0 ≤ x.l ∧ x.l < l1.length ∧ 0 ≤ x.r ∧ x.r < l1.length ∧ v = 1 + sz.getD x.l.toNat 0 + sz.getD x.r.toNat 0)) := by
        unfold vstep at h1
        dsimp only at h1
        split at h1
        · cases h1
        split at h1
        · rename_i hk
          split at h1
          · cases h1; exact ⟨1, rfl, .inl ⟨hk, rfl⟩⟩
          · cases h1
        split at h1
        · rename_i hk
          split at h1
          · cases h1
          · rename_i hi
            split at h1
            · cases h1
            · rename_i hs1
              split at h1
              · rename_i hlr
                cases h1
                have hb := hv (sz.length - 1) (by omega)
                have e : ((sz.length : Int) - 1).toNat = sz.length - 1 := by omega
                rw [e] at hlr hs1 ⊢
                refine ⟨_, rfl, .inr (.inr ⟨hk, by omega, by omega, by omega, by omega, ?_⟩)⟩
                rw [hlr.1, hlr.2, e]; omega
              · cases h1
        split at h1
        · rename_i hk
          split at h1
          · cases h1
          · rename_i hi
            split at h1
            · rename_i hlr
              cases h1
              refine ⟨_, rfl, .inr (.inl ⟨hk, by omega, by omega, ?_⟩)⟩
              rw [hlr.1]
            · cases h1
        · cases h1
      obtain ⟨v, rfl, hv2⟩ := hstep
      have hold : ∀ i, i < l1.length → szg (sz ++ [v]) i = szg sz i := fun i hi => by
        unfold szg; rw [getD_app_left _ _ _ (by omega)]
      have hnew : szg (sz ++ [v]) l1.length = v.toNat := by
        unfold szg; rw [getD_app_right _ _ _ (by omega), hl]; simp
      have hvb := hv1 l1.length (by simp; omega)
      have hvb' : (sz ++ [v]).getD l1.length 0 = v := by rw [getD_app_right _ _ _ (by omega), hl]; simp
      rw [hvb'] at hvb
      have hs1 : Sz (l1 ++ [x]) (szg (sz ++ [v])) := fun i y hy => by
        by_cases hi : i < l1.length
        · rw [List.getElem?_append_left hi] at hy
          obtain ⟨a1, a2, a3⟩ := hs i y hy
          rw [hold i hi]
          refine ⟨a1, a2, ?_⟩
          rcases a3 with a3 | a3 | a3
          · exact .inl a3
          · exact .inr (.inl ⟨a3.1, a3.2.1, a3.2.2.1, by rw [hold _ (by omega)]; exact a3.2.2.2⟩)
          · exact .inr (.inr ⟨a3.1, a3.2.1, a3.2.2.1, a3.2.2.2.1, a3.2.2.2.2.1, by rw [hold _ (by omega), hold _ (by omega)]; exact a3.2.2.2.2.2⟩)
        · rw [List.getElem?_append_right (by omega)] at hy
          have hi' : i = l1.length := by
            have := (List.getElem?_eq_some_iff.1 hy).1
            simp at this; omega
          subst hi'
          simp at hy; subst hy
          rw [hnew]
          have nn : ∀ j, j < l1.length → 0 ≤ sz.getD j 0 := fun j hj => by have := hv j (by omega); omega
          refine ⟨by omega, by omega, ?_⟩
          rcases hv2 with a | a | a
          · exact .inl a.1
          · refine .inr (.inl ⟨a.1, a.2.1, a.2.2.1, ?_⟩)
            rw [hold _ (by omega), a.2.2.2]
            have := nn x.l.toNat (by omega)
            unfold szg; omega
          · refine .inr (.inr ⟨a.1, a.2.1, a.2.2.1, a.2.2.2.1, a.2.2.2.2.1, ?_⟩)
            rw [hold _ (by omega), hold _ (by omega), a.2.2.2.2.2]
            have := nn x.l.toNat (by omega)
            have := nn x.r.toNat (by omega)
            unfold szg; omega
      have := vsteps_sz l2 (l1 ++ [x]) (sz ++ [v]) sz' (by simp [hl]) hv1 hs1 h
      simpa using this
theorem valid_sz {l : List Nd} (h : validOf l = true) : 0 < l.length ∧ l.length ≤ 256 ∧ ∃ g, Sz l g := by
  unfold validOf at h
  cases l with
  | nil => cases h
  | cons x l =>
    simp only [] at h
    split at h
    · cases h
    · split at h
      · cases h
      · rename_i sz hs
        refine ⟨by simp, by omega, szg sz, ?_⟩
        have := vsteps_sz (x :: l) [] [] sz rfl (fun j hj => by simp at hj) (fun i y hy => by simp at hy) hs
        simpa using this
/-! ### The builder -/
def setL (st : List Nd) (n : Nat) (v : Int) : List Nd := st.modify n fun x => { x with l := v }
def bd (l : List Nd) : Nat → Nat → Nat → List Nd → Nat × List Nd
  | 0, _, out, st => (out, st)
  | f + 1, n, out, st =>
    let x := l.getD n default
    if x.k = 2 then (st.length, st ++ [⟨1, out, 0, x.a, x.b, x.c, x.d⟩])
    else if x.k = 8 then (st.length, st ++ [⟨3, out, 0, 0, 0, 0, 0⟩])
    else if x.k = 9 then (st.length, st ++ [⟨4, out, 0, 0, 0, 0, 0⟩])
    else if x.k = 3 then
      let y := bd l f x.r.toNat out st
      bd l f x.l.toNat y.1 y.2
    else if x.k = 4 then
      let y := bd l f x.l.toNat out st
      let z := bd l f x.r.toNat out y.2
      (z.2.length, z.2 ++ [⟨2, y.1, z.1, 0, 0, 0, 0⟩])
    else if x.k = 7 then
      let y := bd l f x.l.toNat out st
      (y.2.length, y.2 ++ [⟨2, y.1, out, 0, 0, 0, 0⟩])
    else if x.k = 5 ∨ x.k = 6 then
      let y := bd l f x.l.toNat st.length (st ++ [⟨2, 0, out, 0, 0, 0, 0⟩])
      (if x.k = 6 then y.1 else st.length, setL y.2 st.length y.1)
    else (out, st)
def InR (st : List Nd) : Prop := ∀ x ∈ st, 0 ≤ x.l ∧ x.l < st.length ∧ 0 ≤ x.r ∧ x.r < st.length
theorem InR.snoc {st : List Nd} {x : Nd} (h : InR st) (h1 : 0 ≤ x.l ∧ x.l ≤ st.length) (h2 : 0 ≤ x.r ∧ x.r ≤ st.length) : InR (st ++ [x]) := fun y hy => by
  rw [List.length_append, List.length_singleton]
  rcases List.mem_append.1 hy with h' | h'
  · have := h y h'; push_cast; omega
  · simp at h'; subst h'; push_cast; omega
theorem setL_length (st : List Nd) (n : Nat) (v : Int) : (setL st n v).length = st.length := by simp [setL]
theorem InR.setL {st : List Nd} {n : Nat} {v : Int} (h : InR st) (hv : 0 ≤ v ∧ v < st.length) : InR (setL st n v) := fun y hy => by
  rw [setL_length]
  obtain ⟨i, hi⟩ := List.mem_iff_getElem?.1 hy
  unfold Go.Proofs.Ytaffcoiomggpfaa.setL at hi
  rw [List.getElem?_modify] at hi
  cases hs : st[i]? with
  | none => rw [hs] at hi; simp at hi
  | some x =>
    rw [hs] at hi
    have hx := h x (List.mem_iff_getElem?.2 ⟨i, hs⟩)
    simp at hi
    subst hi
    split
    · exact ⟨hv.1, hv.2, hx.2.2⟩
    · exact hx
theorem bd_ok {l : List Nd} {g : Nat → Nat} (hz : Sz l g) : ∀ (f n out : Nat) (st : List Nd), n < f → n < l.length → out < st.length → InR st →
    (bd l f n out st).1 < (bd l f n out st).2.length ∧ st.length ≤ (bd l f n out st).2.length ∧ (bd l f n out st).2.length ≤ st.length + g n ∧ InR (bd l f n out st).2
  | 0, n, out, st, hf, _, _, _ => by omega
  | f + 1, n, out, st, hf, hn, ho, hi => by
    obtain ⟨x, hx⟩ : ∃ x, l[n]? = some x := ⟨_, List.getElem?_eq_getElem hn⟩
    have hxd : l.getD n default = x := by rw [List.getD_eq_getElem?_getD, hx]; rfl
    obtain ⟨g1, g2, g3⟩ := hz n x hx
    have leaf : ∀ y : Nd, y.l = out ∧ y.r = 0 → (st.length < (st ++ [y]).length ∧ st.length ≤ (st ++ [y]).length ∧ (st ++ [y]).length ≤ st.length + g n ∧ InR (st ++ [y])) := fun y hy => by
      refine ⟨by simp, by simp, by simp; omega, hi.snoc (by omega) (by omega)⟩
    unfold bd
    dsimp only
    rw [hxd]
    split
    · exact leaf _ ⟨rfl, rfl⟩
    split
    · exact leaf _ ⟨rfl, rfl⟩
    split
    · exact leaf _ ⟨rfl, rfl⟩
    have k2 : (x.k = 3 ∨ x.k = 4) → (0 ≤ x.l ∧ x.l < n ∧ 0 ≤ x.r ∧ x.r < n ∧ g n = 1 + g x.l.toNat + g x.r.toNat) := fun h => by
      have : kidsOf x.k = 2 := by unfold kidsOf; rw [if_neg (by omega), if_neg (by omega), if_pos h]
      rcases g3 with g3 | g3 | g3 <;> first | exact g3.2 | omega
    have k1 : (x.k = 5 ∨ x.k = 6 ∨ x.k = 7) → (0 ≤ x.l ∧ x.l < n ∧ g n = 1 + g x.l.toNat) := fun h => by
      have : kidsOf x.k = 1 := by unfold kidsOf; rw [if_neg (by omega), if_pos h]
      rcases g3 with g3 | g3 | g3 <;> first | exact g3.2 | omega
    split
    · obtain ⟨b1, b2, b3, b4, b5⟩ := k2 (.inl ‹_›)
      obtain ⟨c1, c2, c3, c4⟩ := bd_ok hz f x.r.toNat out st (by omega) (by omega) ho hi
      obtain ⟨d1, d2, d3, d4⟩ := bd_ok hz f x.l.toNat _ _ (by omega) (by omega) c1 c4
      exact ⟨d1, by omega, by omega, d4⟩
    split
    · obtain ⟨b1, b2, b3, b4, b5⟩ := k2 (.inr ‹_›)
      obtain ⟨c1, c2, c3, c4⟩ := bd_ok hz f x.l.toNat out st (by omega) (by omega) ho hi
      obtain ⟨d1, d2, d3, d4⟩ := bd_ok hz f x.r.toNat out _ (by omega) (by omega) (by omega) c4
      refine ⟨by simp, by simp; omega, by simp; omega, d4.snoc ⟨by simp only []; omega, by simp only []; omega⟩ ⟨by simp only []; omega, by simp only []; omega⟩⟩
    split
    · obtain ⟨b1, b2, b3⟩ := k1 (by omega)
      obtain ⟨c1, c2, c3, c4⟩ := bd_ok hz f x.l.toNat out st (by omega) (by omega) ho hi
      refine ⟨by simp, by simp; omega, by simp; omega, c4.snoc ⟨by simp only []; omega, by simp only []; omega⟩ ⟨by simp only []; omega, by simp only []; omega⟩⟩
    split
    · obtain ⟨b1, b2, b3⟩ := k1 (by omega)
      have hi1 : InR (st ++ [⟨2, 0, out, 0, 0, 0, 0⟩]) := hi.snoc ⟨by simp only []; omega, by simp only []; omega⟩ ⟨by simp only []; omega, by simp only []; omega⟩
      obtain ⟨c1, c2, c3, c4⟩ := bd_ok hz f x.l.toNat st.length (st ++ [⟨2, 0, out, 0, 0, 0, 0⟩]) (by omega) (by omega) (by simp) hi1
      simp only [List.length_append, List.length_singleton] at c2 c3
      refine ⟨?_, by rw [setL_length]; omega, by rw [setL_length]; omega, c4.setL ⟨by omega, by omega⟩⟩
      rw [setL_length]
      split
      · exact c1
      · omega
    · exact ⟨ho, Nat.le_refl _, Nat.le_add_right _ _, hi⟩
end Go.Proofs.Ytaffcoiomggpfaa

/- Contracts of package auto (2): put, build, Build. -/
namespace Go.Proofs.Ytaffcoiomggpfaa
open Go.V
attribute [local irreducible] app
set_option linter.constructorNameAsVariable false
set_option linter.unusedVariables false

def BSs (H0 H : Heap) (b : Nat) (pn : OA) (ln cn : Nat) (st : List Nd) : Prop :=
  Ext H0 H ∧ H0 b = none ∧ ∃ p c t, H b = some (.cells #[.slice pn ln cn, .slice p st.length c] t (0, 0)) ∧ Vec H 7 p st.length c (flat st) ∧ ∀ i, blk p i → H0 i = none ∧ i ≠ b
section
variable {H0 H : Heap} {b ln cn : Nat} {pn : OA} {st : List Nd} {Q : QT} {E : ET}
theorem BSs.ext {H' : Heap} (h : BSs H0 H b pn ln cn st) (he : Ext H H') : BSs H0 H' b pn ln cn st := by
  obtain ⟨h1, h2, p, c, t, h5, h6, h7⟩ := h
  exact ⟨h1.trans he, h2, p, c, t, he _ _ h5, h6.ext he, h7⟩
theorem BSs.new {i : Nat} (h : BSs H0 H b pn ln cn st) (hi : H i = none) (o : Obj) : BSs (H0.set i o) (H.set i o) b pn ln cn st := by
  obtain ⟨h1, h2, p, c, t, h5, h6, h7⟩ := h
  have hb : b ≠ i := ne_of h5 hi
  refine ⟨fun j x hj => ?_, by rw [Heap.set_ne _ _ hb]; exact h2, p, c, t, by rw [Heap.set_ne _ _ hb]; exact h5, h6.ext (Ext.new hi o), fun j hj => ⟨?_, (h7 j hj).2⟩⟩
  · by_cases e : j = i
    · subst e; rw [Heap.set_self] at hj ⊢; exact hj
    · rw [Heap.set_ne _ _ e] at hj ⊢; exact h1 j x hj
  · rw [Heap.set_ne _ _ (fun e => by rw [e] at hj; exact h6.known hj hi)]; exact (h7 j hj).1
theorem BSs.old {i : Nat} {o : Obj} (hi : H0 i = none) (h : BSs (H0.set i o) H b pn ln cn st) : BSs H0 H b pn ln cn st := by
  obtain ⟨h1, h2, p, c, t, h5, h6, h7⟩ := h
  have hl : ∀ j, (H0.set i o) j = none → H0 j = none := fun j hj => by
    by_cases e : j = i
    · subst e; exact hi
    · rwa [Heap.set_ne _ _ e] at hj
  exact ⟨h1.of_set hi, hl _ h2, p, c, t, h5, h6, fun j hj => ⟨hl _ (h7 j hj).1, (h7 j hj).2⟩⟩
theorem bput_c {x : Nd} (h : BSs H0 H b pn ln cn st) (hl : st.length < 1048576) (hk : ∀ H', BSs H0 H' b pn ln cn (st ++ [x]) → Q (.int .i64 (st.length : Nat)) H') :
    Does Pr 82 #[.pointer (some ⟨b, 0, none⟩), .agg #[.int .i64 x.k, .int .i64 x.l, .int .i64 x.r, .int .u64 x.a, .int .u64 x.b, .int .u64 x.c, .int .u64 x.d]] H Q E := by
  refine zqf1_fn _ _ _ _ _ _ _ _ Q E H ?_
  unfold zqf1
  refine nw_ext fun i H1 hi he1 hc1 => ?_
  obtain ⟨h1, h2, p, c, t, h5, h6, h7⟩ := h.ext he1
  simp only [ptr_some, add_at]
  refine ldSl_at (p := p) (l := st.length) (m := c) h5 rfl ?_
  refine ⟨x.k, x.l, x.r, x.a, x.b, x.c, x.d, rd_at hc1 _ 0 0 (fun j hj => by simp), ?_⟩
  refine nw_ext fun j H2 hj he2 hc2 => ?_
  refine app_one (sz := 7) (ws := x.cells) sl50 (h6.ext he2) hc2 rfl rfl hl (by omega) fun p' c' H3 hv hs hb' => ?_
  have hbb : ¬ blk p b := fun hb => (h7 b hb).2 rfl
  have h5' : H3 b = some (.cells #[.slice pn ln cn, .slice p st.length c] t (0, 0)) := by rw [hs b hbb (by rw [he2 _ _ h5]; simp)]; exact he2 _ _ h5
  refine wr_new h5' (by simp) rfl (c' := #[.slice pn ln cn, .slice p' (st.length + 1) c']) rfl fun H4 hc4 hb4 => ?_
  refine ldSl_at (p := p') (l := st.length + 1) (m := c') hc4 rfl ?_
  have hw : IntKind.wrap .i64 (((st.length + 1 : Nat) : Int) - 1) = (st.length : Nat) := by rw [IntWalk.i64_in _ (by omega)]; omega
  rw [hw]
  have hnb : ∀ i, blk p' i → H0 i = none ∧ i ≠ b := fun i hi => by
    rcases hb' i hi with h | h
    · exact h7 i h
    · exact ⟨(h1.trans he2).free h, fun e => by rw [e, he2 _ _ h5] at h; cases h⟩
  refine hk H4 ⟨fun j o hj => ?_, h2, p', c', t, by rw [hc4]; simp, ?_, hnb⟩
  · have hjb : j ≠ b := fun e => by rw [e, h2] at hj; cases hj
    rw [hb4 j hjb]
    have hj' := (h1.trans he2) j o hj
    rw [hs j (fun hb => by rw [(h7 j hb).1] at hj; cases hj) (by simp [hj'])]; exact hj'
  · rw [flat_snoc] at hv
    have hv' : Vec H3 7 p' (st ++ [x]).length c' (flat (st ++ [x])) := by simpa using hv
    exact hv'.keep fun i hi _ => hb4 i (hnb i hi).2
theorem flat_setL {n : Nat} {v : Int} : ∀ (st : List Nd) (n : Nat), n < st.length → flat (setL st n v) = (flat st).set (n * 7 + 1) (.int .i64 v)
  | [], n, h => by simp at h
  | x :: st, 0, h => by simp [setL, flat, Nd.cells]
  | x :: st, n + 1, h => by
    have ih := flat_setL (n := n) (v := v) st n (by simpa using h)
    unfold setL at ih ⊢
    rw [List.modify_succ_cons]
    have e : ∀ (y : Nd) (l : List Nd), flat (y :: l) = y.cells ++ flat l := fun y l => by simp [flat]
    rw [e, e, ih, List.set_append_right _ _ (by simp [Nd.cells]; omega)]
    congr 2
    simp [Nd.cells]; omega
theorem setL_c {n : Nat} {v : Int} {K : Heap → Prop} (h : BSs H0 H b pn ln cn st) (hn : n < st.length) (hk : ∀ H', BSs H0 H' b pn ln cn (setL st n v) → K H') :
    ldSl (Addr.add ⟨b, 0, none⟩ 1) H fun p l c => (0 ≤ ((n : Nat) : Int) ∧ ((n : Nat) : Int) < ((l : Nat) : Int)) ∧ ptr p fun q => wr (Addr.add (Addr.add q (((n : Nat) : Int).toNat * 7)) 1) [.int .i64 v] H K := by
  obtain ⟨h1, h2, p, c, t, h5, h6, h7⟩ := h
  rw [add_at]
  refine ldSl_at (p := p) (l := st.length) (m := c) h5 rfl ⟨⟨by omega, by omega⟩, ?_⟩
  obtain ⟨v1, v2, v3⟩ := id h6
  cases p with
  | none => simp only [] at v3; omega
  | some a =>
    obtain ⟨bb, cs, t', rfl, hb, hcs, hget⟩ := v3
    simp only [ptr_some, add_at, Int.toNat_natCast, Nat.zero_add]
    have hbb := h7 bb ⟨_, rfl, rfl⟩
    refine wr_new hb (by simp; omega) rfl (c' := cs.setIfInBounds (n * 7 + 1) (.int .i64 v)) rfl fun H4 hc4 hb4 => ?_
    refine hk H4 ⟨fun j o hj => ?_, h2, some ⟨bb, 0, none⟩, c, t, by rw [hb4 b (Ne.symm hbb.2), setL_length]; exact h5, ?_, h7⟩
    · rw [hb4 j (fun e => by rw [e, hbb.1] at hj; cases hj)]; exact h1 j o hj
    · refine ⟨by rw [flat_length], by rw [setL_length]; exact v2, bb, _, t', rfl, hc4, by simpa using hcs, fun j hj => ?_⟩
      rw [setL_length] at hj
      rw [flat_setL (n := n) st n hn, Array.getElem?_setIfInBounds, List.getElem?_set]
      have hfl := flat_length st
      by_cases e : n * 7 + 1 = j
      · rw [if_pos e, if_pos e, if_pos (by omega), if_pos (by omega)]
      · rw [if_neg e, if_neg e]; exact hget j hj
end
set_option maxHeartbeats 1000000 in
theorem build_c {l : List Nd} {g : Nat → Nat} (hz : Sz l g) : ∀ (f : Nat) {H0 H : Heap} {b cn n out : Nat} {pn : OA} {st : List Nd} {Q : QT} {E : ET}, n < f → n < l.length → out < st.length → InR st →
    st.length + g n ≤ 100000 → BSs H0 H b pn l.length cn st → Nds H0 pn l →
    (∀ H', BSs H0 H' b pn l.length cn (bd l f n out st).2 → Q (.int .i64 ((bd l f n out st).1 : Nat)) H') →
    Does Pr 83 #[.pointer (some ⟨b, 0, none⟩), .int .i64 (n : Nat), .int .i64 (out : Nat)] H Q E
  | 0, _, _, _, _, _, _, _, _, _, _, hf, _, _, _, _, _, _, _ => by omega
  | f + 1, H0, H, b, cn, n, out, pn, st, Q, E, hf, hn, ho, hi, hsz, h, hv, hk => by
    refine zqg1_fn _ _ _ Q E H ?_
    obtain ⟨x, hx⟩ : ∃ x, l[n]? = some x := ⟨_, List.getElem?_eq_getElem hn⟩
    have hxd : l.getD n default = x := by rw [List.getD_eq_getElem?_getD, hx]; rfl
    obtain ⟨g1, g2, g3⟩ := hz n x hx
    unfold zqg1 zqg1_71
    simp only [ptr_some]
    obtain ⟨_, _, p, c, t, h5, _, _⟩ := id h
    refine ldSl_at (p := pn) (l := l.length) (m := cn) h5 rfl ⟨⟨by omega, by omega⟩, ?_⟩
    obtain ⟨a, rfl, hrd⟩ := (hv.ext h.1) n x hx
    simp only [ptr_some, Int.toNat_natCast]
    refine ⟨x.k, x.l, x.r, x.a, x.b, x.c, x.d, hrd, ?_⟩
    refine nw_ext fun i H1 hi1 he1 hc1 => ?_
    refine wr_new hc1 (by simp) rfl (c' := x.cells.toArray) rfl fun H2 hc2 hb2 => ?_
    have hi0 : H0 i = none := h.1.free hi1
    -- the node's copy is in the base
    have h2 : BSs (H0.set i (.cells x.cells.toArray 48 (0, 0))) H2 b (some a) l.length cn st := by
      have := h.new hi1 (.cells x.cells.toArray 48 (0, 0))
      refine this.ext fun j o hj => ?_
      by_cases e : j = i
      · subst e; rw [Heap.set_self] at hj; rw [hc2]; exact hj
      · rw [Heap.set_ne _ _ e] at hj; rw [hb2 j e]; exact he1 j o hj
    have hv2 : Nds (H0.set i (.cells x.cells.toArray 48 (0, 0))) (some a) l := hv.ext (Ext.new hi0 _)
    have hcx : ∀ (H' : Heap), Ext (H0.set i (.cells x.cells.toArray 48 (0, 0))) H' → H' i = some (.cells x.cells.toArray 48 (0, 0)) := fun H' he => he.get
    have hk2 : ∀ H', BSs (H0.set i (.cells x.cells.toArray 48 (0, 0))) H' b (some a) l.length cn (bd l (f + 1) n out st).2 → Q (.int .i64 ((bd l (f + 1) n out st).1 : Nat)) H' := fun H' h' => hk H' (h'.old hi0)
    clear hk
    have hbd : bd l (f + 1) n out st = (
      if x.k = 2 then (st.length, st ++ [⟨1, out, 0, x.a, x.b, x.c, x.d⟩])
      else if x.k = 8 then (st.length, st ++ [⟨3, out, 0, 0, 0, 0, 0⟩])
      else if x.k = 9 then (st.length, st ++ [⟨4, out, 0, 0, 0, 0, 0⟩])
      else if x.k = 3 then
        let y := bd l f x.r.toNat out st
        bd l f x.l.toNat y.1 y.2
      else if x.k = 4 then
        let y := bd l f x.l.toNat out st
        let z := bd l f x.r.toNat out y.2
        (z.2.length, z.2 ++ [⟨2, y.1, z.1, 0, 0, 0, 0⟩])
      else if x.k = 7 then
        let y := bd l f x.l.toNat out st
        (y.2.length, y.2 ++ [⟨2, y.1, out, 0, 0, 0, 0⟩])
      else if x.k = 5 ∨ x.k = 6 then
        let y := bd l f x.l.toNat st.length (st ++ [⟨2, 0, out, 0, 0, 0, 0⟩])
        (if x.k = 6 then y.1 else st.length, setL y.2 st.length y.1)
      else (out, st)) := by
      conv => lhs; unfold bd
      dsimp only
      rw [hxd]
    generalize hB : H0.set i (.cells x.cells.toArray 48 (0, 0)) = HB at h2 hv2 hcx hk2
    have hc2' := hcx H2 h2.1
    have k2 : (x.k = 3 ∨ x.k = 4) → (0 ≤ x.l ∧ x.l < n ∧ 0 ≤ x.r ∧ x.r < n ∧ g n = 1 + g x.l.toNat + g x.r.toNat) := fun h => by
      have : kidsOf x.k = 2 := by unfold kidsOf; rw [if_neg (by omega), if_neg (by omega), if_pos h]
      rcases g3 with g3 | g3 | g3 <;> first | exact g3.2 | omega
    have k1 : (x.k = 5 ∨ x.k = 6 ∨ x.k = 7) → (0 ≤ x.l ∧ x.l < n ∧ g n = 1 + g x.l.toNat) := fun h => by
      have : kidsOf x.k = 1 := by unfold kidsOf; rw [if_neg (by omega), if_pos h]
      rcases g3 with g3 | g3 | g3 <;> first | exact g3.2 | omega
    unfold zqg1_67
    simp only [ptr_some]
    refine ldI_at (n := x.k) hc2' rfl ?_
    unfold zqg1_63 zqg1_61
    refine sel_beq (fun hc => ?_) (fun n2 => ?_)
    · rw [if_pos hc] at hbd
      rw [hbd] at hk2
      unfold zqg1_3
      simp only [ptr_some, add_at]
      refine ⟨x.a, x.b, x.c, x.d, rd_at hc2' _ 3 0 (fun j hj => by
        match j, hj with
        | 0, _ => rfl
        | 1, _ => rfl
        | 2, _ => rfl
        | 3, _ => rfl), ?_⟩
      exact bput_c (x := ⟨1, out, 0, x.a, x.b, x.c, x.d⟩) h2 (by omega) fun H3 h3 => ⟨_, rfl, hk2 H3 h3⟩
    rw [if_neg n2] at hbd
    unfold zqg1_58 zqg1_56
    refine sel_beq (fun hc => ?_) (fun n8 => ?_)
    · rw [if_pos hc] at hbd
      rw [hbd] at hk2
      unfold zqg1_5
      exact bput_c (x := ⟨3, out, 0, 0, 0, 0, 0⟩) h2 (by omega) fun H3 h3 => ⟨_, rfl, hk2 H3 h3⟩
    rw [if_neg n8] at hbd
    unfold zqg1_53 zqg1_51
    refine sel_beq (fun hc => ?_) (fun n9 => ?_)
    · rw [if_pos hc] at hbd
      rw [hbd] at hk2
      unfold zqg1_7
      exact bput_c (x := ⟨4, out, 0, 0, 0, 0, 0⟩) h2 (by omega) fun H3 h3 => ⟨_, rfl, hk2 H3 h3⟩
    rw [if_neg n9] at hbd
    unfold zqg1_48 zqg1_46
    refine sel_beq (fun hc => ?_) (fun n3 => ?_)
    · rw [if_pos hc] at hbd
      rw [hbd] at hk2
      obtain ⟨b1, b2, b3, b4, b5⟩ := k2 (.inl hc)
      obtain ⟨c1, c2, c3, c4⟩ := bd_ok hz f x.r.toNat out st (by omega) (by omega) ho hi
      have er : x.r = ((x.r.toNat : Nat) : Int) := by omega
      have el : x.l = ((x.l.toNat : Nat) : Int) := by omega
      unfold zqg1_9
      refine ⟨fun z => z = i, ?_⟩
      simp only [ptr_some, add_at]
      refine ⟨by trivial, ldI_at (n := x.l) hc2' rfl (ldI_at (n := x.r) hc2' rfl ?_)⟩
      rw [er]
      refine build_c hz f (by omega) (by omega) ho hi (by omega) h2 hv2 fun H3 h3 => ⟨_, rfl, fun z hz' _ => by subst hz'; rw [hcx _ h3.1]; exact hc2'.symm, ?_⟩
      rw [el]
      refine build_c hz f (by omega) (by omega) c1 c4 (by omega) h3 hv2 fun H4 h4 => ⟨_, rfl, hk2 H4 h4⟩
    rw [if_neg n3] at hbd
    unfold zqg1_43 zqg1_41
    refine sel_beq (fun hc => ?_) (fun n4 => ?_)
    · rw [if_pos hc] at hbd
      rw [hbd] at hk2
      obtain ⟨b1, b2, b3, b4, b5⟩ := k2 (.inr hc)
      obtain ⟨c1, c2, c3, c4⟩ := bd_ok hz f x.l.toNat out st (by omega) (by omega) ho hi
      obtain ⟨d1, d2, d3, d4⟩ := bd_ok hz f x.r.toNat out (bd l f x.l.toNat out st).2 (by omega) (by omega) (by omega) c4
      have er : x.r = ((x.r.toNat : Nat) : Int) := by omega
      have el : x.l = ((x.l.toNat : Nat) : Int) := by omega
      unfold zqg1_11
      refine ⟨fun z => z = i, ?_⟩
      simp only [ptr_some, add_at]
      refine ldI_at (n := x.l) hc2' rfl ⟨by trivial, ldI_at (n := x.r) hc2' rfl ?_⟩
      rw [el]
      refine build_c hz f (by omega) (by omega) ho hi (by omega) h2 hv2 fun H3 h3 => ⟨_, rfl, fun z hz' _ => by subst hz'; rw [hcx _ h3.1]; exact hc2'.symm, ?_⟩
      rw [er]
      refine build_c hz f (by omega) (by omega) (by omega) c4 (by omega) h3 hv2 fun H4 h4 => ⟨_, rfl, ?_⟩
      exact bput_c (x := ⟨2, ((bd l f x.l.toNat out st).1 : Nat), ((bd l f x.r.toNat out (bd l f x.l.toNat out st).2).1 : Nat), 0, 0, 0, 0⟩) h4 (by omega) fun H5 h5 => ⟨_, rfl, hk2 H5 h5⟩
    rw [if_neg n4] at hbd
    unfold zqg1_38 zqg1_36
    refine sel_beq (fun hc => ?_) (fun n7 => ?_)
    · rw [if_pos hc] at hbd
      rw [hbd] at hk2
      obtain ⟨b1, b2, b3⟩ := k1 (by omega)
      obtain ⟨c1, c2, c3, c4⟩ := bd_ok hz f x.l.toNat out st (by omega) (by omega) ho hi
      have el : x.l = ((x.l.toNat : Nat) : Int) := by omega
      unfold zqg1_13
      simp only [ptr_some, add_at]
      refine ldI_at (n := x.l) hc2' rfl ?_
      rw [el]
      refine build_c hz f (by omega) (by omega) ho hi (by omega) h2 hv2 fun H3 h3 => ⟨_, rfl, ?_⟩
      exact bput_c (x := ⟨2, ((bd l f x.l.toNat out st).1 : Nat), (out : Nat), 0, 0, 0, 0⟩) h3 (by omega) fun H5 h5 => ⟨_, rfl, hk2 H5 h5⟩
    rw [if_neg n7] at hbd
    have loop : (x.k = 5 ∨ x.k = 6) → zqg1_31 Q E (some ⟨b, 0, none⟩) (out : Nat) (some ⟨i, 0, none⟩) true H2 := by
      intro hc
      rw [if_pos hc] at hbd
      rw [hbd] at hk2
      dsimp only at hk2
      obtain ⟨b1, b2, b3⟩ := k1 (by omega)
      have el : x.l = ((x.l.toNat : Nat) : Int) := by omega
      have hi1 : InR (st ++ [⟨2, 0, out, 0, 0, 0, 0⟩]) := hi.snoc ⟨by simp only []; omega, by simp only []; omega⟩ ⟨by simp only []; omega, by simp only []; omega⟩
      have hl1 : (st ++ [(⟨2, 0, out, 0, 0, 0, 0⟩ : Nd)]).length = st.length + 1 := by simp
      obtain ⟨c1, c2, c3, c4⟩ := bd_ok hz f x.l.toNat st.length (st ++ [⟨2, 0, out, 0, 0, 0, 0⟩]) (by omega) (by omega) (by simp) hi1
      unfold zqg1_31
      refine sel_tt ?_
      unfold zqg1_26
      refine bput_c (x := ⟨2, 0, (out : Nat), 0, 0, 0, 0⟩) h2 (by omega) fun H3 h3 => ⟨_, rfl, ?_⟩
      unfold zqg1_23
      simp only [ptr_some, add_at]
      refine ldI_at (n := x.l) (hcx _ h3.1) rfl ?_
      rw [el]
      refine build_c hz f (by omega) (by omega) (by omega) hi1 (by omega) h3 hv2 fun H4 h4 => ⟨_, rfl, ?_⟩
      unfold zqg1_20
      simp only [ptr_some]
      refine setL_c h4 (by omega) fun H5 h5 => ?_
      unfold zqg1_17
      simp only [ptr_some]
      refine ldI_at (n := x.k) (hcx _ h5.1) rfl (sel_beq (fun h6 => ?_) (fun h6 => ?_))
      · rw [if_pos h6] at hk2; exact hk2 H5 h5
      · rw [if_neg h6] at hk2
        unfold zqg1_15
        exact hk2 H5 h5
    unfold zqg1_33
    refine sel_mk (fun hc => ?_) (fun hc => ?_)
    · rw [hc]; exact loop (.inl (by simpa using hc))
    cases h6 : (x.k == 6) with
    | true => exact loop (.inr (by simpa using h6))
    | false =>
      have hc : x.k ≠ 5 := by simpa using hc
      have h6 : x.k ≠ 6 := by simpa using h6
      rw [if_neg (by omega)] at hbd
      rw [hbd] at hk2
      unfold zqg1_31
      refine sel_ff ?_
      unfold zqg1_29 zqg1_1
      exact hk2 H2 h2
def setLR (st : List Nd) (v : Int) : List Nd := st.modify 0 fun x => { x with l := v, r := v }
theorem setLR_length (st : List Nd) (v : Int) : (setLR st v).length = st.length := by simp [setLR]
theorem InR.setLR {st : List Nd} {v : Int} (h : InR st) (hv : 0 ≤ v ∧ v < st.length) : InR (setLR st v) := fun y hy => by
  rw [setLR_length]
  cases st with
  | nil => simp [Go.Proofs.Ytaffcoiomggpfaa.setLR] at hy
  | cons x st =>
    simp [Go.Proofs.Ytaffcoiomggpfaa.setLR] at hy
    rcases hy with rfl | hy
    · exact ⟨hv.1, hv.2, hv.1, hv.2⟩
    · exact h y (by simp [hy])
def buildOf (l : List Nd) : List Nd :=
  setLR (bd l l.length (l.length - 1) 1 [⟨2, 0, 0, 0, 0, 0, 0⟩, ⟨5, 0, 0, 0, 0, 0, 0⟩]).2 (bd l l.length (l.length - 1) 1 [⟨2, 0, 0, 0, 0, 0, 0⟩, ⟨5, 0, 0, 0, 0, 0, 0⟩]).1
theorem InR2 : InR [⟨2, 0, 0, 0, 0, 0, 0⟩, ⟨5, 0, 0, 0, 0, 0, 0⟩] := fun x hx => by
  simp at hx
  rcases hx with rfl | rfl <;> simp
theorem build_facts {l : List Nd} (h : validOf l = true) : InR (buildOf l) ∧ 2 ≤ (buildOf l).length ∧ (buildOf l).length ≤ l.length + 2 ∧ l.length ≤ 256 := by
  obtain ⟨h1, h2, g, hz⟩ := valid_sz h
  obtain ⟨c1, c2, c3, c4⟩ := bd_ok hz l.length (l.length - 1) 1 [⟨2, 0, 0, 0, 0, 0, 0⟩, ⟨5, 0, 0, 0, 0, 0, 0⟩] (by omega) (by omega) (by simp) InR2
  have hg : g (l.length - 1) ≤ l.length - 1 + 1 := by
    obtain ⟨x, hx⟩ : ∃ x, l[l.length - 1]? = some x := ⟨_, List.getElem?_eq_getElem (by omega)⟩
    exact (hz _ x hx).2.1
  unfold buildOf
  rw [setLR_length]
  simp only [List.length_cons, List.length_nil] at c2 c3
  exact ⟨c4.setLR ⟨by omega, by omega⟩, by omega, by omega, h2⟩
theorem Build_c {H : Heap} {p : OA} {c : Nat} {l : List Nd} {Q : QT} {E : ET} (hv : Nds H p l) (hval : validOf l = true)
    (hk : ∀ H' p' c', Ext H H' → Vec H' 7 p' (buildOf l).length c' (flat (buildOf l)) → (∀ j, blk p' j → H j = none) → Q (.slice p' (buildOf l).length c') H') : Does Pr 51 #[.slice p l.length c] H Q E := by
  obtain ⟨hl1, hl2, g, hz⟩ := valid_sz hval
  refine zqy_fn _ _ _ Q E H ?_
  unfold zqy
  refine nw_ext fun i H1 hi he1 hc1 => ?_
  have h1 : BSs H H1 i p l.length c [] := ⟨he1, hi, none, 0, 132, hc1, Vec.nil _ 7, fun j hj => by obtain ⟨a, ha, _⟩ := hj; cases ha⟩
  refine bput_c (x := ⟨2, 0, 0, 0, 0, 0, 0⟩) h1 (by simp) fun H2 h2 => ⟨_, rfl, ?_⟩
  refine bput_c (x := ⟨5, 0, 0, 0, 0, 0, 0⟩) h2 (by simp) fun H3 h3 => ⟨_, rfl, ?_⟩
  have hw : IntKind.wrap .i64 (((l.length : Nat) : Int) - 1) = ((l.length - 1 : Nat) : Int) := by rw [IntWalk.i64_in _ (by omega)]; omega
  rw [hw]
  have hg : g (l.length - 1) ≤ l.length - 1 + 1 := by
    obtain ⟨x, hx⟩ : ∃ x, l[l.length - 1]? = some x := ⟨_, List.getElem?_eq_getElem (by omega)⟩
    exact (hz _ x hx).2.1
  have hok := bd_ok hz l.length (l.length - 1) 1 [⟨2, 0, 0, 0, 0, 0, 0⟩, ⟨5, 0, 0, 0, 0, 0, 0⟩] (by omega) (by omega) (by simp) InR2
  have hdef : buildOf l = setLR (bd l l.length (l.length - 1) 1 [⟨2, 0, 0, 0, 0, 0, 0⟩, ⟨5, 0, 0, 0, 0, 0, 0⟩]).2 (bd l l.length (l.length - 1) 1 [⟨2, 0, 0, 0, 0, 0, 0⟩, ⟨5, 0, 0, 0, 0, 0, 0⟩]).1 := rfl
  refine build_c hz l.length (n := l.length - 1) (out := 1) (st := [⟨2, 0, 0, 0, 0, 0, 0⟩, ⟨5, 0, 0, 0, 0, 0, 0⟩]) (by omega) (by omega) (by simp) InR2 (by simp only [List.length_cons, List.length_nil]; omega) h3 hv fun H4 h4 => ⟨_, rfl, ?_⟩
  revert hok hdef h4
  generalize bd l l.length (l.length - 1) 1 [⟨2, 0, 0, 0, 0, 0, 0⟩, ⟨5, 0, 0, 0, 0, 0, 0⟩] = Y
  obtain ⟨y, st⟩ := Y
  intro hok hdef h4
  dsimp only at hok hdef h4 ⊢
  obtain ⟨o1, o2, o3, o4⟩ := hok
  simp only [List.length_cons, List.length_nil] at o2
  have hlen : (buildOf l).length = st.length := by rw [hdef, setLR_length]
  obtain ⟨e1, e2, ps, cs, t, e5, e6, e7⟩ := h4
  refine ldSl_at (p := ps) (l := st.length) (m := cs) e5 rfl (ldSl_at (p := ps) (l := st.length) (m := cs) e5 rfl ⟨⟨by omega, by omega⟩, ?_⟩)
  obtain ⟨v1, v2, v3⟩ := e6
  cases ps with
  | none => simp only [] at v3; omega
  | some a =>
    obtain ⟨bb, cc, t', rfl, hb, hcs, hget⟩ := v3
    simp only [ptr_some, add_at, Nat.zero_add]
    have hbb := e7 bb ⟨_, rfl, rfl⟩
    refine wr_new hb (by simp; omega) rfl (c' := cc.setIfInBounds 1 (.int .i64 (y : Nat))) rfl fun H5 hc5 hb5 => ?_
    refine ⟨⟨by omega, by omega⟩, ?_⟩
    refine wr_new hc5 (by simp; omega) rfl (c' := (cc.setIfInBounds 1 (.int .i64 (y : Nat))).setIfInBounds 2 (.int .i64 (y : Nat))) rfl fun H6 hc6 hb6 => ?_
    refine ldSl_at (p := some ⟨bb, 0, none⟩) (l := st.length) (m := cs) (by rw [hb6 i (Ne.symm hbb.2), hb5 i (Ne.symm hbb.2)]; exact e5) rfl ?_
    have := hk H6 (some ⟨bb, 0, none⟩) cs (ext_but (ext_but e1 hbb.1 hb5) hbb.1 hb6)
    rw [hlen] at this
    refine this ⟨by rw [flat_length, hlen], v2, bb, _, t', rfl, hc6, by simpa using hcs, fun j hj => ?_⟩ (fun j hj => by obtain ⟨a, ha, rfl⟩ := hj; cases ha; exact hbb.1)
    rw [hdef]
    cases st with
    | nil => simp at o2
    | cons x st =>
      have ef : flat (setLR (x :: st) (y : Nat)) = ((flat (x :: st)).set 1 (.int .i64 (y : Nat))).set 2 (.int .i64 (y : Nat)) := by simp [setLR, flat, Nd.cells]
      rw [ef, Array.getElem?_setIfInBounds, Array.getElem?_setIfInBounds, List.getElem?_set, List.getElem?_set]
      have hfl := flat_length (x :: st)
      simp only [List.length_set, Array.size_setIfInBounds]
      by_cases q2 : 2 = j
      · rw [if_pos q2, if_pos q2, if_pos (by omega), if_pos (by omega)]
      · rw [if_neg q2, if_neg q2]
        by_cases q1 : 1 = j
        · rw [if_pos q1, if_pos q1, if_pos (by omega), if_pos (by omega)]
        · rw [if_neg q1, if_neg q1]; exact hget j hj
end Go.Proofs.Ytaffcoiomggpfaa

/- Contracts of package auto (3): sets, spread. -/
namespace Go.Proofs.Ytaffcoiomggpfaa
open Go.V
attribute [local irreducible] app
set_option linter.constructorNameAsVariable false
set_option linter.unusedVariables false

theorem sl22 : SlT Pr 22 1 := .of (by kernel_rfl)
def natV (i : Nat) : Value := .int .i64 (i : Nat)
def addL (l : List Nat) (i : Nat) : List Nat := if i ∈ l then l else l ++ [i]
def mkV (n : Nat) (l : List Nat) : List Value := (List.range n).map fun i => Value.bool (decide (i ∈ l))
theorem mkV_length (n : Nat) (l : List Nat) : (mkV n l).length = n := by simp [mkV]
theorem mkV_get {n i : Nat} (l : List Nat) (hi : i < n) : (mkV n l)[i]? = some (.bool (decide (i ∈ l))) := by simp [mkV, hi]
theorem mkV_add {n i : Nat} {l : List Nat} (hi : i < n) (h : i ∉ l) : mkV n (addL l i) = (mkV n l).set i (.bool true) := by
  apply List.ext_getElem?
  intro j
  by_cases hj : j < n
  · rw [mkV_get _ hj, List.getElem?_set]
    unfold addL
    rw [if_neg h]
    by_cases e : i = j
    · subst e; rw [if_pos rfl, if_pos (by rw [mkV_length]; exact hi)]; simp
    · rw [if_neg e, mkV_get _ hj]; simp [Ne.symm e]
  · rw [List.getElem?_eq_none (by rw [mkV_length]; omega), List.getElem?_eq_none (by rw [List.length_set, mkV_length]; omega)]
theorem over_same {C : Array Value} {o : Nat} {v : Value} (h : C[o]? = some v) : over C o [v] = C := by
  simp only [over]
  apply Array.ext
  · simp
  · intro j h1 h2
    rw [Array.getElem_setIfInBounds]
    split
    · rename_i e; subst e; rw [Array.getElem?_eq_getElem h2] at h; exact (Option.some.inj h).symm
    · rfl
theorem sadd_c {H : Heap} {Q : QT} {E : ET} {a o n i b c : Nat} {C : Array Value} {t : TypeId} {p : OA} {l : List Nat} (hC : H a = some (.cells C t (0, 0))) (ho : o + 1 < C.size)
    (h1 : C[o]? = some (.slice p l.length c)) (h2 : C[o + 1]? = some (.slice (some ⟨b, 0, none⟩) n n)) (hv : Vec H 1 p l.length c (l.map natV)) (hm : Vec H 1 (some ⟨b, 0, none⟩) n n (mkV n l))
    (hpa : ¬ blk p a) (hpb : ¬ blk p b) (hab : b ≠ a) (hi : i < n) (hlen : l.length < 1048576)
    (hk : ∀ H' p' c', H' a = some (.cells (over C o [.slice p' (addL l i).length c']) t (0, 0)) → Vec H' 1 p' (addL l i).length c' ((addL l i).map natV) → Vec H' 1 (some ⟨b, 0, none⟩) n n (mkV n (addL l i)) →
      (∀ j, j ≠ a → j ≠ b → ¬ blk p j → H j ≠ none → H' j = H j) → (∀ j, blk p' j → blk p j ∨ H j = none) → Q (.tuple #[]) H') :
    Does Pr 80 #[.pointer (some ⟨a, o, none⟩), .int .i64 (i : Nat)] H Q E := by
  refine zqd1_fn _ _ Q E H ?_
  unfold zqd1
  obtain ⟨m1, m2, b', mc, mt, hbe, hb, hms, hmg⟩ := id hm
  cases hbe
  simp only [ptr_some, add_at, Int.toNat_natCast, Nat.mul_one]
  refine ldSl_at (p := some ⟨b, 0, none⟩) (l := n) (m := n) hC h2 ⟨⟨by omega, by omega⟩, ?_⟩
  simp only [ptr_some, add_at, Nat.zero_add]
  refine ldB_at (n := decide (i ∈ l)) hb (by rw [hmg i (by omega), mkV_get l hi]) ?_
  refine sel_not (fun hn => ?_) (fun hy => ?_)
  · have hn : i ∉ l := of_decide_eq_false hn
    have hadd : addL l i = l ++ [i] := if_neg hn
    refine ldSl_at (p := some ⟨b, 0, none⟩) (l := n) (m := n) hC h2 ⟨⟨by omega, by omega⟩, ?_⟩
    simp only [ptr_some, add_at, Nat.zero_add]
    refine wr_new hb (by simp; omega) rfl (c' := mc.setIfInBounds i (.bool true)) rfl fun H2 hc2 hb2 => ?_
    have hC2 : H2 a = some (.cells C t (0, 0)) := by rw [hb2 a (Ne.symm hab)]; exact hC
    have hv2 : Vec H2 1 p l.length c (l.map natV) := hv.keep fun j hj _ => hb2 j (fun e => hpb (e ▸ hj))
    refine ldSl_at (p := p) (l := l.length) (m := c) hC2 h1 ?_
    refine nw_ext fun k H3 hk3 he3 hc3 => ?_
    refine app_one (sz := 1) (ws := [natV i]) sl22 (hv2.ext he3) hc3 rfl rfl hlen (by omega) fun p' c' H4 hv4 hs4 hb4 => ?_
    have hC4 : H4 a = some (.cells C t (0, 0)) := by rw [hs4 a hpa (by rw [he3 _ _ hC2]; simp)]; exact he3 _ _ hC2
    have hH2 : ∀ j, H2 j = none → H j = none := fun j hj => by
      by_cases e : j = b
      · subst e; rw [hc2] at hj; cases hj
      · rw [hb2 j e] at hj; exact hj
    have hnp : ∀ j, blk p' j → blk p j ∨ H j = none := fun j hj => by
      rcases hb4 j hj with h | h
      · exact .inl h
      · exact .inr (hH2 j (he3.free h))
    have hpa' : ∀ j, blk p' j → j ≠ a := fun j hj e => by
      rcases hnp j hj with h | h
      · exact hpa (e ▸ h)
      · rw [e, hC] at h; cases h
    have hpb' : ∀ j, blk p' j → j ≠ b := fun j hj e => by
      rcases hnp j hj with h | h
      · exact hpb (e ▸ h)
      · rw [e, hb] at h; cases h
    refine wr_new hC4 (by simp; omega) rfl (c' := over C o [.slice p' (l.length + 1) c']) rfl fun H5 hc5 hb5 => ?_
    have hl : (addL l i).length = l.length + 1 := by rw [hadd]; simp
    refine hk H5 p' c' (by rw [hl]; exact hc5) ?_ ?_ (fun j hja hjb hjp hj => ?_) hnp
    · rw [hl, hadd]
      have : Vec H5 1 p' (l.length + 1) c' (l.map natV ++ [natV i]) := hv4.keep fun j hj _ => hb5 j (hpa' j hj)
      simpa using this
    · have hH5b : H5 b = some (.cells (mc.setIfInBounds i (.bool true)) mt (0, 0)) := by
        rw [hb5 b hab, hs4 b hpb (by rw [he3 _ _ hc2]; simp)]; exact he3 _ _ hc2
      refine ⟨by rw [mkV_length]; omega, Nat.le_refl _, b, _, mt, rfl, hH5b, by simpa using hms, fun j hj => ?_⟩
      rw [mkV_add hi hn, Array.getElem?_setIfInBounds, List.getElem?_set, mkV_length]
      by_cases e : i = j
      · rw [if_pos e, if_pos e, if_pos (by omega), if_pos (by omega)]
      · rw [if_neg e, if_neg e]; exact hmg j hj
    · rw [hb5 j hja]
      have h2 : H2 j = H j := hb2 j hjb
      cases hh : H j with
      | none => exact absurd hh hj
      | some x =>
        have h3 := he3 j x (by rw [h2]; exact hh)
        rw [hs4 j hjp (by rw [h3]; simp), h3]
  · have hy : i ∈ l := of_decide_eq_true hy
    have hadd : addL l i = l := if_pos hy
    rw [hadd] at hk
    exact hk H p c (by rw [over_same h1]; exact hC) hv hm (fun j _ _ _ _ => rfl) (fun j hj => .inl hj)

/-! ### The machine -/
structure Ma where
  now : List Nat
  bol : Bool
  at_ : Nat
  found : Int
def MC (ps : OA) (n cs : Nat) (p1 : OA) (l1 c1 b1 : Nat) (p3 : OA) (l3 c3 b3 : Nat) (anch bol : Bool) (at_ found : Int) : Array Value :=
  #[.slice ps n cs, .slice p1 l1 c1, .slice (some ⟨b1, 0, none⟩) n n, .slice p3 l3 c3, .slice (some ⟨b3, 0, none⟩) n n, .bool anch, .bool bol, .int .i64 at_, .int .i64 found]
def OkL (n : Nat) (l : List Nat) : Prop := l.Nodup ∧ ∀ i ∈ l, i < n
theorem OkL.add {n i : Nat} {l : List Nat} (h : OkL n l) (hi : i < n) : OkL n (addL l i) := by
  unfold addL
  split
  · exact h
  · rename_i hn
    refine ⟨List.nodup_append.2 ⟨h.1, by simp, fun x hx y hy e => ?_⟩, fun j hj => ?_⟩
    · simp at hy; subst hy; exact hn (e ▸ hx)
    · rcases List.mem_append.1 hj with h' | h'
      · exact h.2 j h'
      · simp at h'; omega
theorem nodup_len : ∀ (n : Nat) (l : List Nat), l.Nodup → (∀ i ∈ l, i < n) → l.length ≤ n
  | 0, l, h, hb => by
    cases l with
    | nil => simp
    | cons x l => exact absurd (hb x (by simp)) (by omega)
  | n + 1, l, h, hb => by
    have ih := nodup_len n (l.erase n) (h.erase n) fun i hi => by
      have h1 := (List.Nodup.mem_erase_iff h).1 hi
      have := hb i h1.2
      have := h1.1
      omega
    have := List.length_erase (a := n) (l := l)
    split at this <;> omega
theorem OkL.len {n : Nat} {l : List Nat} (h : OkL n l) : l.length ≤ n := nodup_len n l h.1 h.2
theorem OkL.nil (n : Nat) : OkL n [] := ⟨by simp, by simp⟩
def MSt (H0 H : Heap) (a : Nat) (ps : OA) (cs : Nat) (st : List Nd) (anch : Bool) (M : Ma) : Prop :=
  Ext H0 H ∧ H0 a = none ∧ Vec H0 7 ps st.length cs (flat st) ∧ OkL st.length M.now ∧
  ∃ (p1 p3 : OA) (c1 b1 l3 c3 b3 : Nat) (t : TypeId) (xs ys : List Value), H a = some (.cells (MC ps st.length cs p1 M.now.length c1 b1 p3 l3 c3 b3 anch M.bol M.at_ M.found) t (0, 0)) ∧
    Vec H 1 p1 M.now.length c1 (M.now.map natV) ∧ Vec H 1 (some ⟨b1, 0, none⟩) st.length st.length (mkV st.length M.now) ∧
    Vec H 1 p3 l3 c3 xs ∧ Vec H 1 (some ⟨b3, 0, none⟩) st.length st.length ys ∧
    b1 ≠ a ∧ b3 ≠ a ∧ b1 ≠ b3 ∧ H0 b1 = none ∧ H0 b3 = none ∧
    (∀ j, blk p1 j → j ≠ a ∧ j ≠ b1 ∧ j ≠ b3 ∧ ¬ blk p3 j ∧ H0 j = none) ∧ (∀ j, blk p3 j → j ≠ a ∧ j ≠ b1 ∧ j ≠ b3 ∧ H0 j = none)
section
variable {H0 H : Heap} {a cs : Nat} {ps : OA} {st : List Nd} {anch : Bool} {M : Ma} {Q : QT} {E : ET}
theorem MSt.ext {H' : Heap} (h : MSt H0 H a ps cs st anch M) (he : Ext H H') : MSt H0 H' a ps cs st anch M := by
  obtain ⟨h1, h2, h3, h4, p1, p3, c1, b1, l3, c3, b3, t, xs, ys, k1, k2, k3, k4, k5, kk⟩ := h
  exact ⟨h1.trans he, h2, h3, h4, p1, p3, c1, b1, l3, c3, b3, t, xs, ys, he _ _ k1, k2.ext he, k3.ext he, k4.ext he, k5.ext he, kk⟩
theorem blk1 {b : Nat} : blk (some ⟨b, 0, none⟩) b := ⟨_, rfl, rfl⟩
theorem MSt.new {i : Nat} (h : MSt H0 H a ps cs st anch M) (hi : H i = none) (o : Obj) : MSt (H0.set i o) (H.set i o) a ps cs st anch M := by
  obtain ⟨h1, h2, h3, h4, p1, p3, c1, b1, l3, c3, b3, t, xs, ys, k1, k2, k3, k4, k5, d1, d2, d3, d4, d5, d6, d7⟩ := h
  have ha : a ≠ i := ne_of k1 hi
  have he : Ext H (H.set i o) := Ext.new hi o
  have nn : ∀ {j}, j ≠ i → H0 j = none → (H0.set i o) j = none := fun hj h => by rw [Heap.set_ne _ _ hj]; exact h
  have n1 : b1 ≠ i := fun e => (k3.known blk1) (e ▸ hi)
  have n3 : b3 ≠ i := fun e => (k5.known blk1) (e ▸ hi)
  have np1 : ∀ j, blk p1 j → j ≠ i := fun j hj e => (k2.known hj) (e ▸ hi)
  have np3 : ∀ j, blk p3 j → j ≠ i := fun j hj e => (k4.known hj) (e ▸ hi)
  refine ⟨fun j x hj => ?_, nn ha h2, h3.ext (Ext.new (h1.free hi) o), h4, p1, p3, c1, b1, l3, c3, b3, t, xs, ys, he _ _ k1, k2.ext he, k3.ext he, k4.ext he, k5.ext he, d1, d2, d3, nn n1 d4, nn n3 d5, fun j hj => ?_, fun j hj => ?_⟩
  · by_cases e : j = i
    · subst e; rw [Heap.set_self] at hj ⊢; exact hj
    · rw [Heap.set_ne _ _ e] at hj ⊢; exact h1 j x hj
  · obtain ⟨e1, e2, e3, e4, e5⟩ := d6 j hj
    exact ⟨e1, e2, e3, e4, nn (np1 j hj) e5⟩
  · obtain ⟨e1, e2, e3, e4⟩ := d7 j hj
    exact ⟨e1, e2, e3, nn (np3 j hj) e4⟩
theorem MSt.old {i : Nat} {o : Obj} (hv : Vec H0 7 ps st.length cs (flat st)) (hi : H0 i = none) (h : MSt (H0.set i o) H a ps cs st anch M) : MSt H0 H a ps cs st anch M := by
  obtain ⟨h1, h2, h3, h4, p1, p3, c1, b1, l3, c3, b3, t, xs, ys, k1, k2, k3, k4, k5, d1, d2, d3, d4, d5, d6, d7⟩ := h
  have hl : ∀ j, (H0.set i o) j = none → H0 j = none := fun j hj => by
    by_cases e : j = i
    · subst e; exact hi
    · rwa [Heap.set_ne _ _ e] at hj
  exact ⟨h1.of_set hi, hl _ h2, hv, h4, p1, p3, c1, b1, l3, c3, b3, t, xs, ys, k1, k2, k3, k4, k5, d1, d2, d3, hl _ d4, hl _ d5, fun j hj => ⟨(d6 j hj).1, (d6 j hj).2.1, (d6 j hj).2.2.1, (d6 j hj).2.2.2.1, hl _ (d6 j hj).2.2.2.2⟩,
    fun j hj => ⟨(d7 j hj).1, (d7 j hj).2.1, (d7 j hj).2.2.1, hl _ (d7 j hj).2.2.2⟩⟩
theorem nadd_c {i : Nat} (h : MSt H0 H a ps cs st anch M) (hi : i < st.length) (hn : st.length ≤ 100000)
    (hk : ∀ H', MSt H0 H' a ps cs st anch { M with now := addL M.now i } → Q (.tuple #[]) H') : Does Pr 80 #[.pointer (some ⟨a, 1, none⟩), .int .i64 (i : Nat)] H Q E := by
  obtain ⟨h1, h2, h3, h4, p1, p3, c1, b1, l3, c3, b3, t, xs, ys, k1, k2, k3, k4, k5, d1, d2, d3, d4, d5, d6, d7⟩ := h
  have hlen := h4.len
  refine sadd_c (o := 1) k1 (show 1 + 1 < 9 by decide) rfl rfl k2 k3 (fun hb => (d6 a hb).1 rfl) (fun hb => (d6 b1 hb).2.1 rfl) d1 hi (by omega) fun H' p' c' q1 q2 q3 q4 q5 => ?_
  have fr : ∀ j, blk p' j → j ≠ a ∧ j ≠ b1 ∧ j ≠ b3 ∧ ¬ blk p3 j ∧ H0 j = none := fun j hj => by
    rcases q5 j hj with h | h
    · exact d6 j h
    · refine ⟨fun e => (by rw [e, k1] at h; cases h), fun e => (k3.known blk1) (e ▸ h), fun e => (k5.known blk1) (e ▸ h), fun hb => (k4.known hb) h, h1.free h⟩
  refine hk H' ⟨fun j o hj => ?_, h2, h3, h4.add hi, p', p3, c', b1, l3, c3, b3, t, xs, ys, q1, q2, q3, k4.keep fun j hj hn => ?_, k5.keep fun j hj hn => ?_, d1, d2, d3, d4, d5, fr, d7⟩
  · rw [q4 j (fun e => by rw [e, h2] at hj; cases hj) (fun e => by rw [e, d4] at hj; cases hj) (fun hb => by rw [(d6 j hb).2.2.2.2] at hj; cases hj) (by rw [h1 j o hj]; simp)]; exact h1 j o hj
  · obtain ⟨e1, e2, e3, e4⟩ := d7 j hj
    exact q4 j e1 e2 (fun hb => (d6 j hb).2.2.2.1 hj) hn
  · obtain ⟨x, hx, rfl⟩ := hj
    cases hx
    exact q4 b3 d2 (Ne.symm d3) (fun hb => (d6 b3 hb).2.2.1 rfl) hn
end
end Go.Proofs.Ytaffcoiomggpfaa

/- Contracts of package auto (4): spread, Here. -/
namespace Go.Proofs.Ytaffcoiomggpfaa
open Go.V
attribute [local irreducible] app
set_option linter.constructorNameAsVariable false
set_option linter.unusedVariables false

def spreadL (st : List Nd) (bol eol : Bool) : Nat → Nat → Bool → List Nat → List Nat × Bool
  | 0, _, m, l => (l, m)
  | f + 1, i, m, l =>
    if i < l.length then
      let x := st.getD (l.getD i 0) default
      if x.k = 2 then spreadL st bol eol f (i + 1) m (addL (addL l x.r.toNat) x.l.toNat)
      else if (x.k = 3 ∧ bol = true) ∨ (x.k = 4 ∧ eol = true) then spreadL st bol eol f (i + 1) m (addL l x.l.toNat)
      else if x.k = 5 then spreadL st bol eol f (i + 1) true l
      else spreadL st bol eol f (i + 1) m l
    else (l, m)
def spread (st : List Nd) (bol eol : Bool) (l : List Nat) : List Nat × Bool := spreadL st bol eol (st.length + 1) 0 false l
theorem addL_len (l : List Nat) (i : Nat) : l.length ≤ (addL l i).length := by unfold addL; split <;> simp
theorem InR.at {st : List Nd} (hr : InR st) {n : Nat} {x : Nd} (hx : st[n]? = some x) : 0 ≤ x.l ∧ x.l < st.length ∧ 0 ≤ x.r ∧ x.r < st.length := hr x (List.mem_iff_getElem?.2 ⟨n, hx⟩)
theorem getD_some {st : List Nd} {j : Nat} (h : j < st.length) : st[j]? = some (st.getD j default) := by rw [List.getD_eq_getElem?_getD, List.getElem?_eq_getElem h]; rfl
theorem spreadL_ok {st : List Nd} (hr : InR st) (bol eol : Bool) : ∀ (f i : Nat) (m : Bool) (l : List Nat), OkL st.length l → OkL st.length (spreadL st bol eol f i m l).1
  | 0, i, m, l, h => h
  | f + 1, i, m, l, h => by
    unfold spreadL
    split
    · rename_i hi
      have hlt : l.getD i 0 < st.length := h.2 _ (by rw [List.getD_eq_getElem?_getD, List.getElem?_eq_getElem hi]; exact List.getElem_mem hi)
      have hb := hr.at (getD_some hlt)
      dsimp only
      generalize st.getD (l.getD i 0) default = x at hb
      split
      · exact spreadL_ok hr bol eol f _ m _ ((h.add (by omega)).add (by omega))
      split
      · exact spreadL_ok hr bol eol f _ m _ (h.add (by omega))
      split
      · exact spreadL_ok hr bol eol f _ true _ h
      · exact spreadL_ok hr bol eol f _ m _ h
    · exact h
section
variable {H0 H : Heap} {a cs : Nat} {ps : OA} {st : List Nd} {anch : Bool} {M : Ma} {Q : QT} {E : ET}
theorem MSt.ldSt {K : OA → Nat → Nat → Prop} (h : MSt H0 H a ps cs st anch M) (hk : K ps st.length cs) : ldSl ⟨a, 0, none⟩ H K := by
  obtain ⟨h1, h2, h3, h4, p1, p3, c1, b1, l3, c3, b3, t, xs, ys, k1, kk⟩ := h
  exact ldSl_at (p := ps) (l := st.length) (m := cs) k1 rfl hk
theorem MSt.ldNow {K : OA → Nat → Nat → Prop} (h : MSt H0 H a ps cs st anch M) (hk : ∀ p c, Vec H 1 p M.now.length c (M.now.map natV) → K p M.now.length c) : ldSl ⟨a, 1, none⟩ H K := by
  obtain ⟨h1, h2, h3, h4, p1, p3, c1, b1, l3, c3, b3, t, xs, ys, k1, k2, kk⟩ := h
  exact ldSl_at (p := p1) (l := M.now.length) (m := c1) k1 rfl (hk p1 c1 k2)
theorem MSt.ldAnch {K : Bool → Prop} (h : MSt H0 H a ps cs st anch M) (hk : K anch) : ldB ⟨a, 5, none⟩ H K := by
  obtain ⟨h1, h2, h3, h4, p1, p3, c1, b1, l3, c3, b3, t, xs, ys, k1, kk⟩ := h
  exact ldB_at (n := anch) k1 rfl hk
theorem MSt.ldBol {K : Bool → Prop} (h : MSt H0 H a ps cs st anch M) (hk : K M.bol) : ldB ⟨a, 6, none⟩ H K := by
  obtain ⟨h1, h2, h3, h4, p1, p3, c1, b1, l3, c3, b3, t, xs, ys, k1, kk⟩ := h
  exact ldB_at (n := M.bol) k1 rfl hk
theorem MSt.ldAtM {K : Int → Prop} (h : MSt H0 H a ps cs st anch M) (hk : K (M.at_ : Nat)) : ldI .i64 ⟨a, 7, none⟩ H K := by
  obtain ⟨h1, h2, h3, h4, p1, p3, c1, b1, l3, c3, b3, t, xs, ys, k1, kk⟩ := h
  exact ldI_at (n := (M.at_ : Nat)) k1 rfl hk
theorem MSt.ldFound {K : Int → Prop} (h : MSt H0 H a ps cs st anch M) (hk : K M.found) : ldI .i64 ⟨a, 8, none⟩ H K := by
  obtain ⟨h1, h2, h3, h4, p1, p3, c1, b1, l3, c3, b3, t, xs, ys, k1, kk⟩ := h
  exact ldI_at (n := M.found) k1 rfl hk
theorem vec_at1 {p : OA} {l c : Nat} {vs : List Value} {v : Value} (h : Vec H 1 p l c vs) {n : Nat} (hx : vs[n]? = some v) : ∃ b t cs, p = some ⟨b, 0, none⟩ ∧ H b = some (.cells cs t (0, 0)) ∧ cs[n]? = some v := by
  obtain ⟨v1, v2, v3⟩ := h
  have hn := (List.getElem?_eq_some_iff.1 hx).1
  cases p with
  | none => simp only [] at v3; omega
  | some a =>
    obtain ⟨b, cs, t, rfl, hb, hcs, hget⟩ := v3
    exact ⟨b, t, cs, rfl, hb, by rw [hget n (by omega)]; exact hx⟩
set_option maxHeartbeats 1000000 in
theorem spread_c {eol : Bool} (h : MSt H0 H a ps cs st anch M) (hr : InR st) (hn : st.length ≤ 100000)
    (hk : ∀ H', MSt H0 H' a ps cs st anch { M with now := (spread st M.bol eol M.now).1 } → Q (.bool (spread st M.bol eol M.now).2) H') : Does Pr 81 #[.pointer (some ⟨a, 0, none⟩), .bool eol] H Q E := by
  refine zqe1_fn _ _ Q E H ?_
  have hvs := h.2.2.1
  unfold zqe1 zqe1_48 zqe1_44 zqe1_41
  generalize hR : spread st M.bol eol M.now = R at hk
  have hR : spreadL st M.bol eol (st.length + 1) 0 false M.now = R := hR
  refine ⟨fun m x H' => ∃ (f i : Nat) (l : List Nat), x = (i : Nat) ∧ i ≤ l.length ∧ st.length < f + i ∧ spreadL st M.bol eol f i m l = R ∧ MSt H0 H' a ps cs st anch { M with now := l },
    fun _ x _ => (st.length + 1 - x).toNat, ⟨st.length + 1, 0, M.now, rfl, by omega, by omega, hR, h⟩, ?_⟩
  rintro m x H1 ⟨f, i, l, rfl, hi, hf, hr', h1⟩
  have hll := h1.2.2.2.1.len
  dsimp only at hll
  unfold zqe1_38
  simp only [ptr_some, add_at, Nat.zero_add]
  refine h1.ldNow fun p c hv => ?_
  dsimp only at hv ⊢
  cases f with
  | zero => omega
  | succ f =>
    simp only [spreadL] at hr'
    refine sel_dec (fun hlt => ?_) (fun hge => ?_)
    · have hlt : i < l.length := by omega
      rw [if_pos hlt] at hr'
      have hmem : l[i]? = some (l.getD i 0) := by rw [List.getD_eq_getElem?_getD, List.getElem?_eq_getElem hlt]; rfl
      have hsl : l.getD i 0 < st.length := h1.2.2.2.1.2 _ (List.mem_iff_getElem?.2 ⟨i, hmem⟩)
      generalize hj : l.getD i 0 = j at hmem hsl hr'
      have hx : st[j]? = some (st.getD j default) := by rw [List.getD_eq_getElem?_getD, List.getElem?_eq_getElem hsl]; rfl
      have hb := hr.at hx
      generalize st.getD j default = x at hx hb hr'
      unfold zqe1_33
      simp only [ptr_some, add_at, Nat.zero_add]
      refine h1.ldSt (h1.ldNow fun p c hv => ⟨⟨by omega, by dsimp only; omega⟩, ?_⟩)
      dsimp only at hv ⊢
      obtain ⟨bb, tt, cc, rfl, hbb, hcc⟩ := vec_at1 hv (n := i) (v := natV j) (by simp [hmem])
      simp only [ptr_some, add_at, Int.toNat_natCast, Nat.mul_one, Nat.zero_add]
      refine ldI_at (n := (j : Nat)) hbb hcc ⟨⟨by omega, by omega⟩, ?_⟩
      obtain ⟨sa, rfl, hrd⟩ := vec_at7 (h1.2.2.1.ext h1.1) hx
      simp only [ptr_some, Int.toNat_natCast]
      refine ⟨x.k, x.l, x.r, x.a, x.b, x.c, x.d, hrd, ?_⟩
      refine nw_ext fun q H2 hq2 he2 hc2 => ?_
      refine wr_new hc2 (by simp) rfl (c' := x.cells.toArray) rfl fun H3 hc3 hb3 => ?_
      have hq0 : H0 q = none := h1.1.free hq2
      have h3 : MSt (H0.set q (.cells x.cells.toArray 91 (0, 0))) H3 a (some sa) cs st anch { M with now := l } := by
        refine (h1.new hq2 (.cells x.cells.toArray 91 (0, 0))).ext fun y o hy => ?_
        by_cases e : y = q
        · subst e; rw [Heap.set_self] at hy; rw [hc3]; exact hy
        · rw [Heap.set_ne _ _ e] at hy; rw [hb3 y e]; exact he2 y o hy
      have nx : ∀ (m' : Bool) (l' : List Nat) (H' : Heap), spreadL st M.bol eol f (i + 1) m' l' = R → MSt (H0.set q (.cells x.cells.toArray 91 (0, 0))) H' a (some sa) cs st anch { M with now := l' } → l.length ≤ l'.length →
          zqe1_3 (fun m x H1 => (∃ (f i : Nat) (l : List Nat), x = (i : Nat) ∧ i ≤ l.length ∧ st.length < f + i ∧ spreadL st M.bol eol f i m l = R ∧ MSt H0 H1 a (some sa) cs st anch { M with now := l }) ∧ (st.length + 1 - x).toNat < (st.length + 1 - (i : Nat) : Int).toNat) Q E (some ⟨a, 0, none⟩) eol m' (i : Nat) H' := by
        intro m' l' H' hs h' hl'
        unfold zqe1_3
        have hw : IntKind.wrap .i64 ((i : Int) + 1) = ((i + 1 : Nat) : Int) := by rw [IntWalk.i64_in _ (by omega)]; omega
        rw [hw]
        exact ⟨⟨f, i + 1, l', rfl, by omega, by omega, hs, h'.old hvs hq0⟩, by omega⟩
      have hcx : ∀ (H' : Heap), Ext (H0.set q (.cells x.cells.toArray 91 (0, 0))) H' → H' q = some (.cells x.cells.toArray 91 (0, 0)) := fun H' he => he.get
      generalize H0.set q (.cells x.cells.toArray 91 (0, 0)) = HB at h3 nx hcx
      have hc3' := hcx H3 h3.1
      have el : x.l = ((x.l.toNat : Nat) : Int) := by omega
      have er : x.r = ((x.r.toNat : Nat) : Int) := by omega
      -- goes on at Out
      have out : ∀ (l' : List Nat) (H' : Heap), spreadL st M.bol eol f (i + 1) m (addL l' x.l.toNat) = R → MSt HB H' a (some sa) cs st anch { M with now := l' } → l.length ≤ l'.length →
          zqe1_7 (fun m x H1 => (∃ (f i : Nat) (l : List Nat), x = (i : Nat) ∧ i ≤ l.length ∧ st.length < f + i ∧ spreadL st M.bol eol f i m l = R ∧ MSt H0 H1 a (some sa) cs st anch { M with now := l }) ∧ (st.length + 1 - x).toNat < (st.length + 1 - (i : Nat) : Int).toNat) Q E (some ⟨a, 0, none⟩) eol m (i : Nat) (some ⟨q, 0, none⟩) H' := by
        intro l' H' hs h' hl'
        unfold zqe1_7
        simp only [ptr_some, add_at, Nat.zero_add]
        refine ldI_at (n := x.l) (hcx _ h'.1) rfl ?_
        rw [el]
        refine nadd_c h' (by omega) hn fun H4 h4 => ?_
        exact nx m _ H4 hs h4 (Nat.le_trans hl' (addL_len _ _))
      unfold zqe1_22
      simp only [ptr_some]
      refine ldI_at (n := x.k) hc3' rfl (sel_beq (fun c2 => ?_) (fun c2 => ?_))
      · rw [if_pos c2] at hr'
        unfold zqe1_9
        simp only [ptr_some, add_at, Nat.zero_add]
        refine ldI_at (n := x.r) hc3' rfl ?_
        rw [er]
        refine nadd_c h3 (by omega) hn fun H4 h4 => ?_
        exact out _ H4 hr' h4 (addL_len _ _)
      rw [if_neg c2] at hr'
      have stop : ¬ ((x.k = 3 ∧ M.bol = true) ∨ (x.k = 4 ∧ eol = true)) →
          zqe1_13 (fun m x H1 => (∃ (f i : Nat) (l : List Nat), x = (i : Nat) ∧ i ≤ l.length ∧ st.length < f + i ∧ spreadL st M.bol eol f i m l = R ∧ MSt H0 H1 a (some sa) cs st anch { M with now := l }) ∧ (st.length + 1 - x).toNat < (st.length + 1 - (i : Nat) : Int).toNat) Q E (some ⟨a, 0, none⟩) eol m (i : Nat) (some ⟨q, 0, none⟩) false H3 := by
        intro hno
        rw [if_neg hno] at hr'
        unfold zqe1_13
        refine sel_ff ?_
        unfold zqe1_11
        simp only [ptr_some]
        refine ldI_at (n := x.k) hc3' rfl (sel_beq (fun c5 => ?_) (fun c5 => ?_))
        · rw [if_pos c5] at hr'
          unfold zqe1_5
          exact nx true l H3 hr' h3 (Nat.le_refl _)
        · rw [if_neg c5] at hr'
          exact nx m l H3 hr' h3 (Nat.le_refl _)
      have go : ((x.k = 3 ∧ M.bol = true) ∨ (x.k = 4 ∧ eol = true)) →
          zqe1_13 (fun m x H1 => (∃ (f i : Nat) (l : List Nat), x = (i : Nat) ∧ i ≤ l.length ∧ st.length < f + i ∧ spreadL st M.bol eol f i m l = R ∧ MSt H0 H1 a (some sa) cs st anch { M with now := l }) ∧ (st.length + 1 - x).toNat < (st.length + 1 - (i : Nat) : Int).toNat) Q E (some ⟨a, 0, none⟩) eol m (i : Nat) (some ⟨q, 0, none⟩) true H3 := by
        intro hyes
        rw [if_pos hyes] at hr'
        unfold zqe1_13
        exact sel_tt (out l H3 hr' h3 (Nat.le_refl _))
      have off : (x.k = 3 → M.bol = false) → 
          zqe1_15 (fun m x H1 => (∃ (f i : Nat) (l : List Nat), x = (i : Nat) ∧ i ≤ l.length ∧ st.length < f + i ∧ spreadL st M.bol eol f i m l = R ∧ MSt H0 H1 a (some sa) cs st anch { M with now := l }) ∧ (st.length + 1 - x).toNat < (st.length + 1 - (i : Nat) : Int).toNat) Q E (some ⟨a, 0, none⟩) eol m (i : Nat) (some ⟨q, 0, none⟩) false H3 := by
        intro h3b
        unfold zqe1_15
        refine sel_ff ?_
        simp only [ptr_some]
        refine ldI_at (n := x.k) hc3' rfl (sel_beq (fun c4 => ?_) (fun c4 => ?_))
        · cases eol with
          | true => exact go (.inr ⟨c4, rfl⟩)
          | false => exact stop (by simp; intro h; omega)
        · exact stop (by
            rintro (⟨h, hb⟩ | ⟨h, _⟩)
            · rw [h3b h] at hb; cases hb
            · exact c4 h)
      unfold zqe1_17
      simp only [ptr_some, add_at, Nat.zero_add]
      refine ldI_at (n := x.k) hc3' rfl (sel_beq (fun c3 => ?_) (fun c3 => off (fun h => absurd h c3)))
      refine h3.ldBol ?_
      dsimp only
      cases hbol : M.bol with
      | true =>
        unfold zqe1_15
        rw [hbol] at go
        exact sel_tt (go (.inl ⟨c3, rfl⟩))
      | false => rw [hbol] at off; exact off (fun _ => rfl)
    · rw [if_neg (by omega)] at hr'
      unfold zqe1_1
      rw [← hr'] at hk
      exact hk H1 h1
end
end Go.Proofs.Ytaffcoiomggpfaa
