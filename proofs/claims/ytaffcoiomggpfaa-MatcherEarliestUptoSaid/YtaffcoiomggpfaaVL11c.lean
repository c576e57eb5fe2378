/- The statement MatcherEarliest: its contract. -/
import Derived.Test.YtaffcoiomggpfaaVL11
import Derived.Test.YtaffcoiomggpfaaVR08f
namespace Go.Proofs.Ytaffcoiomggpfaa
open Go.V
attribute [local irreducible] app
set_option linter.constructorNameAsVariable false
set_option linter.unusedVariables false

theorem Pcs.take {H : Heap} {p : Option Addr} {n c : Nat} {L : List (List UInt8)} (h : Pcs H p n c L) (k : Nat) (hk : k ≤ n) : Pcs H (if c = 0 then p else Option.map (fun a => Addr.add a (0 * 1)) p) (k - 0) (c - 0) (L.take k) := by
  obtain ⟨h1, h2, vs, h3, h4, h5⟩ := h
  have hp : (if c = 0 then p else Option.map (fun a => Addr.add a (0 * 1)) p) = p := by
    split
    · rfl
    · cases p with
      | none => rfl
      | some a => simp [Addr.add]
  rw [hp]
  have tk : ∀ (k : Nat) (a : Addr) (vs : List Value) (i : Nat), H.rd a i vs → H.rd a i (vs.take k) := fun k a => by
    induction k with
    | zero => intro vs i _; simp; trivial
    | succ k ih =>
      intro vs i h
      cases vs with
      | nil => trivial
      | cons v vs => exact ⟨h.1, ih vs (i + 1) h.2⟩
  refine ⟨by rw [List.length_take]; omega, by omega, vs.take k, by rw [List.length_take]; omega, ?_, fun i bs hb => ?_⟩
  · cases p with
    | none =>
      have : vs = [] := h4
      subst this; simp; rfl
    | some a => exact tk k a _ 0 h4
  · rw [List.getElem?_take] at hb
    split at hb
    · obtain ⟨q, m, cc, e1, e2⟩ := h5 i bs hb
      exact ⟨q, m, cc, by rw [List.getElem?_take, if_pos ‹_›]; exact e1, e2⟩
    · cases hb
theorem open_pats : ∀ i, i < 7 → (rxParse (pats.getD i default ++ ⟨[40].toArray⟩)).2 ≠ 0 ∧ (rxParse (pats.getD i default ++ ⟨[40].toArray⟩)).2 = (rParse (pats.getD i default ++ ⟨[40].toArray⟩)).2 ∧ (pats.getD i default).size ≤ 10 := by decide +kernel
theorem take_sum (L : List (List UInt8)) (k : Nat) : ((L.take k).map List.length).sum ≤ (L.map List.length).sum := by
  have h : L.map List.length = (L.take k).map List.length ++ (L.drop k).map List.length := by rw [← List.map_append, List.take_append_drop]
  rw [h, List.sum_append]; omega
set_option maxHeartbeats 2000000 in
theorem MatcherEarliest_c {H : Heap} {p : Option Addr} {n c : Nat} {xs : List Int} {pk : Int} {Q : Value → Heap → Prop} {E : Chain → Heap → Prop} (h : Ints H p n xs)
    (hk : ∀ H', Ext H H' → Q (.bool true) H') : Does Pr 16 #[.slice p n c, .int .i64 pk] H Q E := by
  refine um2_fn _ _ _ _ Q E H ?_
  unfold um2 um2_40
  refine sane11_c fun H1 he1 => ⟨_, rfl, sel_ff ?_⟩
  unfold um2_37
  refine pieces_c (h.ext he1) fun H2 p5 n5 c5 L he2 hL hn5 hb8 => ⟨_, _, _, rfl, ?_⟩
  have he12 := he1.trans he2
  have hLn := hL.1
  have hLc := hL.2.1
  have htot : (L.map List.length).sum ≤ 40 := by rw [sum_flatten]; have := flatten_le L hb8; omega
  unfold um2_34
  refine Patterns_c fun H4 i he4 hi hc4 => ⟨_, _, _, rfl, ?_⟩
  refine Mod_c (by decide) ⟨_, rfl, ?_⟩
  have hmb := modOf_bounds (a := pk) (n := 7) (by omega) (by omega)
  have e7 : (7 : Int) = ((7 : Nat) : Int) := rfl
  rw [e7]
  generalize modOf pk ((7 : Nat) : Int) = r at hmb
  simp only [ptr_some, add_at]
  refine ⟨⟨by omega, by omega⟩, ldS_at hc4 (pats_get (n := 0 + r.toNat * 1) (by omega)) ?_⟩
  obtain ⟨st, hr, hpos, hpl⟩ := playOf_pats (i := 0 + r.toNat * 1) (by omega)
  obtain ⟨o1, o2, o3⟩ := open_pats (0 + r.toNat * 1) (by omega)
  generalize pats.getD (0 + r.toNat * 1) default = s at hpl o1 o2 o3
  obtain ⟨a1, a2, a3, a4⟩ := play_earliest hr hpos L
  unfold um2_31
  refine Play_c (hL.ext he4) (by omega) (by omega) fun H5 he5 => ⟨_, _, _, rfl, ?_⟩
  rw [hpl]
  generalize playSt st L = A at a1 a2 a3 a4
  obtain ⟨i1, v1, r1⟩ := A
  dsimp only at a1 a2 a3 a4 ⊢
  have he25 := he4.trans he5
  unfold um2_27
  refine sel_bne (fun h => absurd a1 h) (fun _ => ?_)
  refine sel_dec (fun h => absurd h (by omega)) (fun _ => ?_)
  unfold um2_25
  refine sel_dec (fun h => absurd h (by omega)) (fun _ => ?_)
  unfold um2_21 um2_18
  refine ⟨fun x H' => ∃ k : Nat, x = (k : Nat) ∧ k ≤ n5 + 1 ∧ Ext H2 H', fun x _ => (n5 + 1 - x).toNat, ⟨0, rfl, by omega, he25⟩, ?_⟩
  rintro x H6 ⟨k, rfl, hkn, he6⟩
  unfold um2_15
  refine sel_dec (fun hle => ?_) (fun hgt => ?_)
  · have hle : k ≤ n5 := by omega
    have hsum := take_sum L k
    obtain ⟨b1, b2, b3⟩ := a4 k (by omega)
    unfold um2_10
    simp only [Int.toNat_natCast]
    refine ⟨⟨by omega, by omega⟩, ?_⟩
    refine Play_c ((hL.ext he6).take k hle) (by omega) (by omega) fun H7 he7 => ⟨_, _, _, rfl, ?_⟩
    rw [hpl]
    generalize playSt st (L.take k) = B at b1 b2 b3
    obtain ⟨i2, v2, r2⟩ := B
    dsimp only at b1 b2 b3 ⊢
    have hw : IntKind.wrap .i64 ((k : Int) + 1) = ((k + 1 : Nat) : Int) := by rw [IntWalk.i64_in _ (by omega)]; omega
    have fin : ∀ (F : Bool), F = false → um2_5 (fun x' H1 => (∃ k : Nat, x' = (k : Nat) ∧ k ≤ n5 + 1 ∧ Ext H2 H1) ∧ (n5 + 1 - x').toNat < ((n5 : Int) + 1 - (k : Nat)).toNat) Q E p5 n5 c5 s i1 v1 (k : Nat) F H7 := by
      intro F hF
      subst hF
      unfold um2_5
      refine sel_ff ?_
      unfold um2_3
      rw [hw]
      exact ⟨⟨k + 1, rfl, by omega, he6.trans he7⟩, by omega⟩
    unfold um2_7
    refine sel_bne (fun h => absurd b1 h) (fun _ => ?_)
    have tail : (k : Int) ≤ i1 → sel (i2 != (k : Nat)) (um2_5 (fun x' H1 => (∃ k : Nat, x' = (k : Nat) ∧ k ≤ n5 + 1 ∧ Ext H2 H1) ∧ (n5 + 1 - x').toNat < ((n5 : Int) + 1 - (k : Nat)).toNat) Q E p5 n5 c5 s i1 v1 (k : Nat) true H7)
        (um2_5 (fun x' H1 => (∃ k : Nat, x' = (k : Nat) ∧ k ≤ n5 + 1 ∧ Ext H2 H1) ∧ (n5 + 1 - x').toNat < ((n5 : Int) + 1 - (k : Nat)).toNat) Q E p5 n5 c5 s i1 v1 (k : Nat) (v2 != (-1)) H7) := by
      intro hki
      obtain ⟨c1, c2⟩ := b3 hki
      refine sel_bne (fun h => absurd c1 h) (fun _ => ?_)
      exact fin _ (by rw [c2]; rfl)
    refine sel_dec (fun hki => ?_) (fun hki => ?_)
    · obtain ⟨c1, c2⟩ := b2 hki
      refine sel_bne (fun h => absurd c1 h) (fun _ => ?_)
      refine sel_bne (fun h => absurd c2 h) (fun _ => ?_)
      exact sel_dec (fun h => absurd h (by omega)) (fun _ => fin _ rfl)
    · exact sel_dec (fun h => tail h) (fun h => absurd (by omega) h)
  · unfold um2_1
    have hsz : (s.size + (⟨[40].toArray⟩ : ByteArray).size : Nat) ≤ 11 := by
      have : (⟨[40].toArray⟩ : ByteArray).size = 1 := rfl
      omega
    refine ⟨by omega, ?_⟩
    refine rParse_c fun H7 p7 c7 L7 e7 hp7 hl7 he7 hv7 => ⟨_, _, _, _, rfl, by omega, ?_⟩
    refine Play_c (hL.ext (he6.trans he7)) (by omega) (by omega) fun H8 he8 => ⟨_, _, _, rfl, ?_⟩
    have hp : playOf (s ++ ⟨[40].toArray⟩) L = (0, 0, (rxParse (s ++ ⟨[40].toArray⟩)).2) := if_pos o1
    rw [hp, o2, hp7]
    have : ((e7 : Int) == e7) = true := by simp
    dsimp only
    rw [this]
    exact hk H8 (he12.trans ((he6.trans he7).trans he8))
end Go.Proofs.Ytaffcoiomggpfaa
