/- The statement RegexSmall: its contract. -/
import Derived.Test.YtaffcoiomggpfaaVL08
namespace Go.Proofs.Ytaffcoiomggpfaa
open Go.V
attribute [local irreducible] app
set_option linter.constructorNameAsVariable false
set_option linter.unusedVariables false
set_option maxHeartbeats 2000000

theorem kidsSum_bound (l : List Nd) : 0 ≤ kidsSum l ∧ kidsSum l ≤ 2 * l.length := by
  induction l with
  | nil => simp [kidsSum]
  | cons x l ih =>
    have : 0 ≤ kids2 x.k ∧ kids2 x.k ≤ 2 := by unfold kids2; repeat' split
                                               all_goals omega
    simp [kidsSum] at ih ⊢; omega
theorem kidsSum_take {l : List Nd} {k : Nat} {x : Nd} (h : l[k]? = some x) : kidsSum (l.take (k + 1)) = kidsSum (l.take k) + kids2 x.k := by
  rw [List.take_add_one, h]; simp [kidsSum]
theorem RegexSmall_c {H : Heap} {p : Option Addr} {n c : Nat} {xs : List Int} {s : ByteArray} {Q : Value → Heap → Prop} {E : Chain → Heap → Prop} (h : Ints H p n xs)
    (hk : ∀ H', Ext H H' → Q (.bool true) H') : Does Pr 13 #[.slice p n c, .string s] H Q E := by
  refine l08_RegexSmall_fn _ _ _ _ Q E H ?_
  unfold l08_RegexSmall l08_RegexSmall_55
  refine sane_c fun H1 he1 => ⟨_, rfl, ?_⟩
  refine sel_ff ?_
  unfold l08_RegexSmall_52
  refine sel_dec (fun _ => hk _ he1) (fun hsz => ?_)
  unfold l08_RegexSmall_48
  refine text_c (h.ext he1) fun s' H2 he2 hs' => ⟨_, rfl, ?_⟩
  refine nw_ext fun i H3 hi he3 hi3 => ?_
  have heb := (he1.trans he2).trans he3
  unfold l08_RegexSmall_45
  refine ⟨fun x H' => ∃ k : Nat, x = (k : Nat) ∧ k ≤ 2 ∧ Ext H3 H', fun x _ => (2 - x).toNat, ⟨0, rfl, by omega, .refl _⟩, ?_⟩
  rintro x H4 ⟨k, rfl, hk2, he4⟩
  unfold l08_RegexSmall_42 l08_RegexSmall_39
  refine sel_dec (fun hlt => ?_) (fun hge => ?_)
  · unfold l08_RegexSmall_34
    have hst : ∃ st, (#[Value.string s', Value.string s] : Array Value)[k]? = some (.string st) ∧ st.size ≤ 140 := by
      match k, hlt with
      | 0, _ => exact ⟨s', rfl, by omega⟩
      | 1, _ => exact ⟨s, rfl, by omega⟩
      | k + 2, hlt => omega
    obtain ⟨st, hst, hss⟩ := hst
    simp only [ptr_some, add_at, Int.toNat_natCast, Nat.mul_one, Nat.zero_add]
    refine ⟨⟨by omega, by omega⟩, ldS_at (he4 _ _ hi3) hst ?_⟩
    have nxt : ∀ H', Ext H4 H' → (∃ k' : Nat, IntKind.wrap .i64 (((k : Nat) : Int) + 1) = (k' : Nat) ∧ k' ≤ 2 ∧ Ext H3 H') ∧ (2 - IntKind.wrap .i64 (((k : Nat) : Int) + 1)).toNat < (2 - ((k : Nat) : Int)).toNat := fun H' he' => by
      have hw : IntKind.wrap .i64 (((k : Nat) : Int) + 1) = ((k + 1 : Nat) : Int) := by rw [IntWalk.i64_in _ (by omega)]; omega
      rw [hw]
      exact ⟨⟨k + 1, rfl, by omega, he4.trans he'⟩, by omega⟩
    unfold l08_RegexSmall_31
    refine Parse_c fun p7 c7 l e H5 hp he5 hv hf => ⟨_, _, _, _, rfl, ?_⟩
    obtain ⟨r1, r2⟩ := rxParse_small hp
    unfold l08_RegexSmall_28
    refine sel_bne (fun hne => ?_) (fun heq => ?_)
    · have := r1 hne
      subst this
      refine sel_bne (fun hne => absurd rfl hne) (fun _ => ?_)
      unfold l08_RegexSmall_3
      exact nxt _ he5
    obtain ⟨q1, q2, q3, q4⟩ := r2 heq
    unfold l08_RegexSmall_25 l08_RegexSmall_21 l08_RegexSmall_18
    refine ⟨fun y z H' => ∃ m : Nat, z = (m : Nat) ∧ m ≤ l.length ∧ y = kidsSum (l.take m) ∧ Ext H5 H', fun _ z _ => (l.length - z).toNat, ⟨0, rfl, by omega, by simp [kidsSum], .refl _⟩, ?_⟩
    rintro y z H6 ⟨m, rfl, hm, rfl, he6⟩
    unfold l08_RegexSmall_15 l08_RegexSmall_12
    refine sel_dec (fun hlm => ?_) (fun hgm => ?_)
    · obtain ⟨x, hx⟩ : ∃ x, l[m]? = some x := ⟨_, List.getElem?_eq_getElem (by omega)⟩
      have hv6 := hv.ext he6
      obtain ⟨v1, v2, v3⟩ := hv6
      cases p7 with
      | none => simp only [] at v3; omega
      | some a =>
        obtain ⟨b, cs, t, rfl, hb, hcs, hget⟩ := v3
        unfold l08_RegexSmall_10
        simp only [ptr_some, add_at, Int.toNat_natCast, Nat.zero_add]
        refine ⟨⟨by omega, by omega⟩, x.k, x.l, x.r, x.a, x.b, x.c, x.d, ?_, ?_⟩
        · refine rd_at hb _ _ 0 fun j hj => ?_
          have hj : j < 7 := hj
          rw [Nat.add_zero, hget _ (by omega), flat_get hx hj]; rfl
        refine nw_ext fun q H7 hq he7 hq7 => ?_
        refine wr_at hq7 (by simp) rfl ?_
        refine ldI_at (n := x.k) (Heap.set_self _ _ _) rfl (Kids2_c ⟨_, rfl, ?_⟩)
        have hkb := kidsSum_bound (l.take m)
        have hkc := kidsSum_bound (l.take (m + 1))
        rw [kidsSum_take hx] at hkc
        simp at hkb hkc
        have hw : IntKind.wrap .i64 (((m : Nat) : Int) + 1) = ((m + 1 : Nat) : Int) := by rw [IntWalk.i64_in _ (by omega)]; omega
        rw [hw, IntWalk.i64_in _ (by omega)]
        exact ⟨⟨m + 1, rfl, by omega, (kidsSum_take hx).symm, (he6.trans he7).set (he6.free hq) _⟩, by omega⟩
    · have hml : m = l.length := by omega
      subst hml
      rw [List.take_length]
      unfold l08_RegexSmall_7
      have hpos : 0 < l.length := by
        cases l with
        | nil => simp [validOf] at q3
        | cons x l => simp
      refine sel_dec (fun hgt => ?_) (fun _ => ?_)
      · rw [IntWalk.i64_in (2 * _) (by omega), IntWalk.i64_in _ (by omega)] at hgt; omega
      refine sel_bne (fun hne => ?_) (fun _ => ?_)
      · rw [IntWalk.i64_in _ (by omega)] at hne; exact absurd q2 hne
      refine Valid_c (hv.ext he6) fun H7 he7 => ⟨_, rfl, ?_⟩
      rw [q3]
      unfold l08_RegexSmall_5 l08_RegexSmall_3
      refine sel_ff ?_
      exact nxt _ ((he5.trans he6).trans he7)
  · unfold l08_RegexSmall_1
    exact hk _ (heb.trans he4)
end Go.Proofs.Ytaffcoiomggpfaa
