/- Contracts of package jobmuxref08: tree, Valid. -/
import Derived.Test.YtaffcoiomggpfaaFr08
import Derived.Test.YtaffcoiomggpfaaVTree3
import Derived.Test.YtaffcoiomggpfaaVKids
namespace Go.Proofs.Ytaffcoiomggpfaa
open Go.V
attribute [local irreducible] app
set_option linter.unusedVariables false

theorem eqZ (x : Nd) : eqVs [.int .u64 x.a, .int .u64 x.b, .int .u64 x.c, .int .u64 x.d] [.int .u64 0, .int .u64 0, .int .u64 0, .int .u64 0] = setZ x := by
  simp only [eqVs, eqV, Bool.and_true, setZ]
  rw [Bool.eq_iff_iff]; simp
theorem tree_c {p : Option Addr} {c : Nat} {l : List Nd} {E : Chain → Heap → Prop} (hs : l.length ≤ 4096) : ∀ (f : Nat) (n : Int) (H : Heap) (Q : Value → Heap → Prop), n < f → n < l.length → Nds H p l →
    (∀ H', Ext H H' → Q (.int .i64 (treeN f l n)) H') → Does Pr 75 #[.slice p l.length c, .int .i64 n] H Q E
  | 0, n, H, Q, hf, hn, hv, hk => by
    refine zqg_fn _ _ _ _ Q E H ?_
    unfold zqg zqg_46
    exact sel_dec (fun _ => hk H (.refl H)) (fun hd => by omega)
  | f + 1, n, H, Q, hf, hn, hv, hk => by
    refine zqg_fn _ _ _ _ Q E H ?_
    unfold zqg zqg_46
    unfold treeN at hk
    refine sel_dec (fun hd => ?_) (fun hd => ?_)
    · rw [if_pos (by omega)] at hk; exact hk H (.refl H)
    rw [if_neg (by omega)] at hk
    have hlt : n.toNat < l.length := by omega
    have hx : l[n.toNat]? = some l[n.toNat] := List.getElem?_eq_getElem hlt
    have hxd : l.getD n.toNat default = l[n.toNat] := by rw [List.getD_eq_getElem?_getD, hx]; rfl
    rw [hxd] at hk
    obtain ⟨a, rfl, hrd⟩ := hv _ _ hx
    revert hk hrd
    generalize l[n.toNat] = x
    intro hk hrd
    unfold zqg_43
    simp only [ptr_some]
    refine ⟨⟨by omega, by omega⟩, _, _, _, _, _, _, _, hrd, ?_⟩
    refine nw_ext fun i H1 hi he1 hc1 => ?_
    refine wr_new hc1 (by simp) rfl (c' := x.cells.toArray) rfl fun H2 hc2 hb2 => ?_
    have he2 : Ext H H2 := fun j o hj => by rw [hb2 j (fun e => by rw [e, hi] at hj; cases hj)]; exact he1 j o hj
    have hv2 := hv.ext he2
    have bad : ∀ H', Ext H2 H' → (x.k < 1 ∨ 9 < x.k ∨ x.k ≠ 2 ∧ setZ x = false) → Q (.int .i64 (-1)) H' := fun H' he h => by
      rw [if_pos h] at hk; exact hk H' (he2.trans he)
    -- from the kids on
    have rest : ¬ (x.k < 1 ∨ 9 < x.k ∨ x.k ≠ 2 ∧ setZ x = false) → zqg_37 Q E (some a) l.length c n (some ⟨i, 0, none⟩) false H2 := fun hok => by
      rw [if_neg hok] at hk
      unfold zqg_37
      refine sel_ff ?_
      unfold zqg_34
      simp only [ptr_some]
      refine ldI_at (n := x.k) hc2 rfl (Kids2_c ⟨_, rfl, ?_⟩)
      obtain ⟨_, kk⟩ := kids_eq (k := x.k) (by omega) (by omega)
      have good : ¬ (kids2 x.k < 2 ∧ x.r ≠ 0 ∨ kids2 x.k < 1 ∧ x.l ≠ 0) → zqg_28 Q E (some a) l.length c n (some ⟨i, 0, none⟩) (kids2 x.k) false H2 := fun hg => by
        rw [if_neg hg] at hk
        unfold zqg_28
        refine sel_ff ?_
        unfold zqg_25
        refine sel_beq (fun h0 => ?_) (fun h0 => ?_)
        · rw [if_pos h0] at hk; exact hk H2 he2
        rw [if_neg h0] at hk
        unfold zqg_22
        rw [IntWalk.i64_in (n - 1) (by omega)]
        unfold zqg_18 zqg_16
        refine sel_beq (fun h2 => ?_) (fun h2 => ?_)
        · rw [if_pos h2] at hk
          unfold zqg_11
          simp only [ptr_some, add_at, Nat.zero_add]
          refine ldI_at (n := x.r) hc2 rfl ?_
          refine sel_bne (fun hne => ?_) (fun heq => ?_)
          · rw [if_pos hne] at hk; exact hk H2 he2
          rw [if_neg (by omega)] at hk
          unfold zqg_9
          refine tree_c hs f (n - 1) H2 _ (by omega) (by omega) hv2 fun H3 he3 => ⟨_, rfl, ?_⟩
          have hb := treeN_le l f (n - 1)
          generalize treeN f l (n - 1) = G at hk hb
          rw [IntWalk.i64_in (G - 1) (by omega)]
          unfold zqg_5
          refine sel_dec (fun hd2 => ?_) (fun hd2 => ?_)
          · rw [if_pos (.inl hd2)] at hk
            unfold zqg_3
            exact sel_tt (hk H3 (he2.trans he3))
          simp only [ptr_some, add_at, Nat.zero_add]
          refine ldI_at (n := x.l) (he3 _ _ hc2) rfl ?_
          unfold zqg_3
          refine sel_bne (fun hne => ?_) (fun heq2 => ?_)
          · rw [if_pos (.inr hne)] at hk; exact hk H3 (he2.trans he3)
          rw [if_neg (by omega)] at hk
          unfold zqg_1
          refine tree_c hs f (G - 1) H3 _ (by omega) (by omega) (hv2.ext he3) fun H4 he4 => ⟨_, rfl, ?_⟩
          exact hk H4 ((he2.trans he3).trans he4)
        · rw [if_neg h2] at hk
          unfold zqg_14 zqg_5
          refine sel_dec (fun hd2 => ?_) (fun hd2 => ?_)
          · rw [if_pos (.inl hd2)] at hk
            unfold zqg_3
            exact sel_tt (hk H2 he2)
          simp only [ptr_some, add_at, Nat.zero_add]
          refine ldI_at (n := x.l) hc2 rfl ?_
          unfold zqg_3
          refine sel_bne (fun hne => ?_) (fun heq2 => ?_)
          · rw [if_pos (.inr hne)] at hk; exact hk H2 he2
          rw [if_neg (by omega)] at hk
          unfold zqg_1
          refine tree_c hs f (n - 1) H2 _ (by omega) (by omega) hv2 fun H4 he4 => ⟨_, rfl, ?_⟩
          exact hk H4 (he2.trans he4)
      have wrong : (kids2 x.k < 2 ∧ x.r ≠ 0 ∨ kids2 x.k < 1 ∧ x.l ≠ 0) → zqg_28 Q E (some a) l.length c n (some ⟨i, 0, none⟩) (kids2 x.k) true H2 := fun hg => by
        rw [if_pos hg] at hk
        unfold zqg_28
        exact sel_tt (hk H2 he2)
      have last : ∀ b : Bool, (b = true ↔ (kids2 x.k < 2 ∧ x.r ≠ 0 ∨ kids2 x.k < 1 ∧ x.l ≠ 0)) → zqg_28 Q E (some a) l.length c n (some ⟨i, 0, none⟩) (kids2 x.k) b H2 := fun b hb => by
        cases b with
        | true => exact wrong (hb.1 rfl)
        | false => exact good (fun h => absurd (hb.2 h) (by decide))
      unfold zqg_30
      refine sel_dec (fun hd1 => ?_) (fun hd1 => ?_)
      · simp only [ptr_some, add_at, Nat.zero_add]
        refine ldI_at (n := x.r) hc2 rfl ?_
        refine sel_bne (fun hne => wrong (.inl ⟨hd1, hne⟩)) (fun heq => ?_)
        refine sel_dec (fun hd2 => ?_) (fun hd2 => good (by omega))
        refine ldI_at (n := x.l) hc2 rfl (last _ ?_)
        simp only [bne_iff_ne, ne_eq]; omega
      · refine sel_dec (fun hd2 => by omega) (fun hd2 => good (by omega))
    unfold zqg_39
    simp only [ptr_some]
    refine ldI_at (n := x.k) hc2 rfl ?_
    refine sel_dec (fun hd1 => ?_) (fun hd1 => ?_)
    · unfold zqg_37; exact sel_tt (bad H2 (.refl _) (.inl hd1))
    refine ldI_at (n := x.k) hc2 rfl ?_
    refine sel_dec (fun hd2 => ?_) (fun hd2 => ?_)
    · unfold zqg_37; exact sel_tt (bad H2 (.refl _) (.inr (.inl (by omega))))
    refine ldI_at (n := x.k) hc2 rfl ?_
    refine sel_bne (fun hne => ?_) (fun heq => rest (by omega))
    refine ⟨x.a, x.b, x.c, x.d, ?_, ?_⟩
    · rw [add_at]
      exact rd_at hc2 _ _ 0 (fun j hj => by
        have hj : j < 4 := hj
        rcases (by omega : j = 0 ∨ j = 1 ∨ j = 2 ∨ j = 3) with rfl | rfl | rfl | rfl <;> rfl)
    rw [eqZ]
    cases hz : setZ x with
    | true => exact rest (by rintro (h | h | ⟨h, h'⟩); · omega
                             · omega
                             · rw [hz] at h'; cases h')
    | false =>
      show zqg_37 Q E (some a) l.length c n (some ⟨i, 0, none⟩) true H2
      unfold zqg_37; exact sel_tt (bad H2 (.refl _) (.inr (.inr ⟨hne, hz⟩)))
theorem rValid_c {H : Heap} {p : Option Addr} {c : Nat} {l : List Nd} {Q : Value → Heap → Prop} {E : Chain → Heap → Prop} (hs : l.length ≤ 1048576) (hv : Nds H p l)
    (hk : ∀ H', Ext H H' → Q (.bool (validOf l)) H') : Does Pr 41 #[.slice p l.length c] H Q E := by
  rw [valid_eq] at hk
  unfold rValid at hk
  refine zqb_fn _ _ _ Q E H ?_
  unfold zqb
  refine sel_dec (fun h1 => ?_) (fun h1 => ?_)
  · rw [decide_eq_true (show 1 ≤ l.length by omega), Bool.true_and] at hk
    refine sel_dec (fun h2 => ?_) (fun h2 => ?_)
    · rw [decide_eq_true (show l.length ≤ 256 by omega), Bool.true_and] at hk
      rw [IntWalk.i64_in (((l.length : Nat) : Int) - 1) (by omega)]
      refine tree_c (by omega) 300 _ H _ (by omega) (by omega) hv fun H' he => ⟨_, rfl, ?_⟩
      exact hk H' he
    · rw [decide_eq_false (show ¬ l.length ≤ 256 by omega), Bool.false_and] at hk
      exact hk H (.refl H)
  · rw [decide_eq_false (show ¬ 1 ≤ l.length by omega), Bool.false_and] at hk
    exact hk H (.refl H)
end Go.Proofs.Ytaffcoiomggpfaa
