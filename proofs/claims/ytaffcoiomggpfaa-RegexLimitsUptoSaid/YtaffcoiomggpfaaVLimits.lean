/- RegexLimits. -/
import Derived.Test.YtaffcoiomggpfaaVL08
import Derived.Test.YtaffcoiomggpfaaVPEq3
import Derived.Test.YtaffcoiomggpfaaVR08g
namespace Go.Proofs.Ytaffcoiomggpfaa
open Go.V
attribute [local irreducible] app
set_option linter.unusedVariables false

theorem dec_pos (s : ByteArray) (pos : Nat) : 1 ≤ (Utf8.decode s pos).2 := by
  unfold Utf8.decode
  dsimp only
  repeat' split
  all_goals (dsimp only; omega)
/-- Where an iterator stands. -/
def posOf (i : Nat) (H : Heap) : Nat := match H i with
  | some (.stringIter _ p) => p
  | _ => 0
theorem one_97 : (⟨[97].toArray⟩ : ByteArray).size = 1 := rfl
theorem one_40 : (⟨[40].toArray⟩ : ByteArray).size = 1 := rfl
theorem one_41 : (⟨[41].toArray⟩ : ByteArray).size = 1 := rfl
theorem two_or : (⟨[124, 97].toArray⟩ : ByteArray).size = 2 := rfl
theorem RegexLimits_c {H : Heap} {n : Int} {Q : Value → Heap → Prop} {E : Chain → Heap → Prop} (hk : ∀ H', Ext H H' → Q (.bool true) H') : Does Pr 7 #[.int .i64 n] H Q E := by
  refine l08_RegexLimits_fn _ Q E H ?_
  unfold l08_RegexLimits l08_RegexLimits_80
  refine sane_c fun H1 he1 => ⟨_, rfl, ?_⟩
  refine sel_ff ?_
  unfold l08_RegexLimits_77
  refine Mod_c (by decide) ⟨_, rfl, ?_⟩
  have hmb := modOf_bounds (a := n) (n := 3) (by omega) (by omega)
  have e3 : ((3 : Nat) : Int) = 3 := rfl
  rw [e3] at hmb
  generalize modOf n 3 = r at hmb
  -- from the three texts on
  have texts : ∀ (x4 x5 x6 : ByteArray) (H2 : Heap), Ext H H2 → x4.size ≤ 1000 → x5.size ≤ 1000 → x6.size ≤ 1000 → l08_RegexLimits_49 Q E x4 x5 x6 H2 := by
    intro x4 x5 x6 H2 he2 b4 b5 b6
    unfold l08_RegexLimits_49 l08_RegexLimits_45
    intro i hi
    have heI : Ext H (H2.set i (.stringIter x5 0)) := he2.trans (Ext.new hi _)
    have hi0 : H i = none := he2.free hi
    unfold l08_RegexLimits_42
    refine ⟨fun x8 H' => ∃ p, H' i = some (.stringIter x5 p) ∧ x8.size ≤ p ∧ x8.size ≤ x5.size ∧ Ext H H', fun _ H' => x5.size - posOf i H', ⟨0, Heap.set_self _ _ _, Nat.le_refl _, Nat.zero_le _, heI⟩, ?_⟩
    rintro x8 H3 ⟨p, hp, b8, b8', he3⟩
    unfold l08_RegexLimits_39
    simp only [ptr_some]
    refine ⟨rfl, x5, p, hp, fun hlt => ?_, fun hge => ?_⟩
    · unfold l08_RegexLimits_36
      refine sel_tt ?_
      unfold l08_RegexLimits_34
      have hd := dec_pos x5 p
      have hsz : (x8 ++ ⟨[41].toArray⟩ : ByteArray).size = x8.size + 1 := by rw [ByteArray.size_append, one_41]
      refine ⟨by rw [one_41]; omega, ⟨_, Heap.set_self _ _ _, by rw [hsz]; omega, by rw [hsz]; omega, he3.set hi0 _⟩, ?_⟩
      have q1 : posOf i H3 = p := by unfold posOf; rw [hp]
      have q2 : posOf i (H3.set i (.stringIter x5 (p + (Utf8.decode x5 p).2))) = p + (Utf8.decode x5 p).2 := by unfold posOf; rw [Heap.set_self]
      rw [q1]
      show x5.size - posOf i (H3.set i (.stringIter x5 (p + (Utf8.decode x5 p).2))) < _
      rw [q2]; omega
    · unfold l08_RegexLimits_36
      refine sel_ff ?_
      unfold l08_RegexLimits_30
      have hcut : ((if (10 : Int) < ((ByteArray.size x6 : Nat) : Int) then 10 else ((ByteArray.size x6 : Nat) : Int)) : Int) ≤ ((ByteArray.size x6 : Nat) : Int) ∧ 0 ≤ ((if (10 : Int) < ((ByteArray.size x6 : Nat) : Int) then 10 else ((ByteArray.size x6 : Nat) : Int)) : Int) := by split <;> omega
      generalize (if (10 : Int) < ((ByteArray.size x6 : Nat) : Int) then (10 : Int) else ((ByteArray.size x6 : Nat) : Int)) = cut at hcut
      have hex : (ByteArray.extract x6 0 cut.toNat).size ≤ 1000 := by rw [ByteArray.size_extract]; omega
      have h97 : (x5 ++ ⟨[97].toArray⟩ : ByteArray).size = x5.size + 1 := by rw [ByteArray.size_append, one_97]
      refine ⟨by rw [one_97]; omega, by rw [h97]; omega, ⟨hcut.2, hcut.1⟩, by omega, ?_⟩
      refine nw_ext fun k H4 hk4 he4 hc4 => ?_
      have heB := he3.trans he4
      unfold l08_RegexLimits_27
      refine ⟨fun x H' => ∃ j : Nat, x = (j : Nat) ∧ j ≤ 5 ∧ Ext H4 H', fun x _ => (5 - x).toNat, ⟨0, rfl, by omega, .refl _⟩, ?_⟩
      rintro x H5 ⟨j, rfl, hj, he5⟩
      unfold l08_RegexLimits_24 l08_RegexLimits_21
      refine sel_dec (fun hlt => ?_) (fun hge => ?_)
      · unfold l08_RegexLimits_16
        have hst : ∃ st, (#[Value.string x4, Value.string ((x5 ++ ⟨[97].toArray⟩) ++ x8), Value.string x5, Value.string x6, Value.string (x6 ++ (ByteArray.extract x6 0 cut.toNat))] : Array Value)[j]? = some (.string st) := by
          match j, hlt with
          | 0, _ => exact ⟨_, rfl⟩
          | 1, _ => exact ⟨_, rfl⟩
          | 2, _ => exact ⟨_, rfl⟩
          | 3, _ => exact ⟨_, rfl⟩
          | 4, _ => exact ⟨_, rfl⟩
          | j + 5, hlt => omega
        obtain ⟨st, hst⟩ := hst
        simp only [ptr_some, add_at, Int.toNat_natCast, Nat.mul_one, Nat.zero_add]
        refine ⟨⟨by omega, by omega⟩, ldS_at (he5 _ _ hc4) hst ?_⟩
        unfold l08_RegexLimits_13
        refine Parse_c fun p7 c7 l e H6 hp6 he6 hv6 _ => ⟨_, _, _, _, rfl, ?_⟩
        unfold l08_RegexLimits_10
        refine rParse_c fun H7 p8 c8 L f hp7 hL he7 hv7 => ⟨_, _, _, _, rfl, ?_⟩
        rw [← parse_eq, hp6] at hp7
        obtain ⟨rfl, rfl⟩ := Prod.mk.inj hp7
        unfold l08_RegexLimits_7
        refine sel_bne (fun hne => absurd rfl hne) (fun _ => ?_)
        refine Same_c (hv6.ext he7) hv7 rfl rfl (by omega) (fun _ => ⟨_, rfl, ?_⟩) (fun h => absurd rfl h)
        unfold l08_RegexLimits_5
        refine sel_ff ?_
        unfold l08_RegexLimits_3
        have hw : IntKind.wrap .i64 (((j : Nat) : Int) + 1) = ((j + 1 : Nat) : Int) := by rw [IntWalk.i64_in _ (by omega)]; omega
        rw [hw]
        exact ⟨⟨j + 1, rfl, by omega, (he5.trans he6).trans he7⟩, by omega⟩
      · unfold l08_RegexLimits_1
        exact hk _ (heB.trans he5)
  unfold l08_RegexLimits_74 l08_RegexLimits_70 l08_RegexLimits_67
  refine ⟨fun x4 x5 x6 x H' => ∃ k : Nat, x = (k : Nat) ∧ k ≤ 130 ∧ x4.size ≤ k ∧ x5.size ≤ k ∧ x6.size ≤ 2 * k ∧ H' = H1, fun _ _ _ x _ => (200 - x).toNat, ⟨0, rfl, by omega, Nat.le_refl _, Nat.le_refl _, Nat.le_refl _, rfl⟩, ?_⟩
  rintro x4 x5 x6 x H2 ⟨k, rfl, hk1, b4, b5, b6, rfl⟩
  unfold l08_RegexLimits_64
  rw [IntWalk.i64_in (127 + r) (by omega)]
  refine sel_dec (fun hlt => ?_) (fun hge => texts _ _ _ _ he1 (by omega) (by omega) (by omega))
  unfold l08_RegexLimits_59
  have h97 : (x4 ++ ⟨[97].toArray⟩ : ByteArray).size = x4.size + 1 := by rw [ByteArray.size_append, one_97]
  refine ⟨by rw [one_97]; omega, ?_⟩
  have nxt : ∀ y5 y6 : ByteArray, y5.size ≤ k + 1 → y6.size ≤ 2 * k + 2 → (∃ k' : Nat, IntKind.wrap .i64 (((k : Nat) : Int) + 1) = (k' : Nat) ∧ k' ≤ 130 ∧ (x4 ++ ⟨[97].toArray⟩ : ByteArray).size ≤ k' ∧ y5.size ≤ k' ∧ y6.size ≤ 2 * k' ∧ H2 = H2) ∧ (200 - IntKind.wrap .i64 (((k : Nat) : Int) + 1)).toNat < (200 - ((k : Nat) : Int)).toNat := by
    intro y5 y6 c5 c6
    have hw : IntKind.wrap .i64 (((k : Nat) : Int) + 1) = ((k + 1 : Nat) : Int) := by rw [IntWalk.i64_in _ (by omega)]; omega
    rw [hw]
    exact ⟨⟨k + 1, rfl, by omega, by rw [h97]; omega, c5, by omega, rfl⟩, by omega⟩
  have next6 : ∀ y5 : ByteArray, y5.size ≤ k + 1 → l08_RegexLimits_54 (fun x4' x5' x6' x7' H1' => (∃ k' : Nat, x7' = (k' : Nat) ∧ k' ≤ 130 ∧ x4'.size ≤ k' ∧ x5'.size ≤ k' ∧ x6'.size ≤ 2 * k' ∧ H1' = H2) ∧ (200 - x7').toNat < (200 - ((k : Nat) : Int)).toNat) Q E r (x4 ++ ⟨[97].toArray⟩) y5 x6 (k : Nat) H2 := by
    intro y5 c5
    unfold l08_RegexLimits_54
    have h2 : (x6 ++ ⟨[124, 97].toArray⟩ : ByteArray).size = x6.size + 2 := by rw [ByteArray.size_append, two_or]
    refine sel_dec (fun _ => ⟨by rw [two_or]; omega, ?_⟩) (fun _ => ?_)
    · unfold l08_RegexLimits_52
      exact nxt _ _ c5 (by rw [h2]; omega)
    · unfold l08_RegexLimits_52
      exact nxt _ _ c5 (by omega)
  unfold l08_RegexLimits_56
  have h40 : (x5 ++ ⟨[40].toArray⟩ : ByteArray).size = x5.size + 1 := by rw [ByteArray.size_append, one_40]
  refine sel_dec (fun _ => ⟨by rw [one_40]; omega, ?_⟩) (fun _ => ?_)
  · exact next6 _ (by rw [h40]; omega)
  · exact next6 _ (by omega)
end Go.Proofs.Ytaffcoiomggpfaa
