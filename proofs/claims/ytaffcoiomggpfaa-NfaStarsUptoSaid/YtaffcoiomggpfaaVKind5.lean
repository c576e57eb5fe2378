import Derived.Test.YtaffcoiomggpfaaVValid
import Derived.Test.YtaffcoiomggpfaaFr08
import Derived.Test.YtaffcoiomggpfaaVR08h
import Derived.Test.YtaffcoiomggpfaaVAuto4
import Derived.Test.YtaffcoiomggpfaaVPats
/- Contracts of package jobmuxref08 (1): sets, kinds, lists. -/
namespace Go.Proofs.Ytaffcoiomggpfaa
open Go.V
attribute [local irreducible] app
set_option linter.constructorNameAsVariable false
set_option linter.unusedVariables false

theorem With_c {H : Heap} {s : S4} {b : Nat} {Q : QT} {E : ET} (hb : b ≤ 255)
    (hk : ∀ H', Ext H H' → Q (.agg (s.with1 b).cells) H') : Does Pr 108 #[.agg s.cells, .int .u8 b] H Q E := by
  refine zqn_fn _ _ _ _ _ Q E H ?_
  unfold zqn
  refine nw_ext fun i H1 hi he1 hc1 => ?_
  refine nw_ext fun j H2 hj he2 hc2 => ?_
  have hij : i ≠ j := ne_of hc1 hj
  have hc1 : H1 i = some (.cells s.cells 46 (0, 0)) := hc1
  have hc2 : H2 j = some (.cells S4.zero.cells 46 (0, 0)) := hc2
  have hx : IntKind.wrap .u8 (Int.tdiv (b : Int) 64) = ((b / 64 : Nat) : Int) := u8_nat (b / 64) (by omega)
  have hm : Int.tmod (b : Int) 64 = ((b % 64 : Nat) : Int) := rfl
  have h4 : b / 64 < 4 := by omega
  rw [hx, hm]
  simp only [add_at, Int.toNat_natCast, Nat.mul_one, Nat.zero_add]
  refine ⟨by decide, by decide, ⟨by omega, by omega⟩, ldI_at (he2 _ _ hc1) (S4.cells_get _ h4) ⟨by decide, by omega, ⟨by omega, by omega⟩, ?_⟩⟩
  refine wr_at (he2 _ _ hc1) (by simp [S4.cells]; omega) rfl ?_
  rw [S4.cells_put _ h4]
  refine ⟨_, _, _, _, S4.rd (s := s.with1 b) (Heap.set_self _ _ _), ?_⟩
  refine S4.wr (s.with1 b) (by rw [Heap.set_ne _ _ (Ne.symm hij)]; exact hc2) ?_
  refine ⟨_, _, _, _, S4.rd (s := s.with1 b) (Heap.set_self _ _ _), ?_⟩
  exact hk _ (((he1.trans he2).set hi _).set (he1.free hj) _)
theorem Has_c {H : Heap} {s : S4} {b : Nat} {Q : QT} {E : ET} (hb : b ≤ 255)
    (hk : ∀ H', Ext H H' → Q (.bool (s.has b)) H') : Does Pr 73 #[.agg s.cells, .int .u8 b] H Q E := by
  refine zqe_fn _ _ _ _ _ Q E H ?_
  unfold zqe
  refine nw_ext fun i H1 hi he1 hc1 => ?_
  have hc1 : H1 i = some (.cells s.cells 46 (0, 0)) := hc1
  have hx : IntKind.wrap .u8 (Int.tdiv (b : Int) 64) = ((b / 64 : Nat) : Int) := u8_nat (b / 64) (by omega)
  have hm : Int.tmod (b : Int) 64 = ((b % 64 : Nat) : Int) := rfl
  have h4 : b / 64 < 4 := by omega
  rw [hx, hm]
  simp only [add_at, Int.toNat_natCast, Nat.mul_one, Nat.zero_add]
  exact ⟨by decide, ⟨by omega, by omega⟩, ldI_at hc1 (S4.cells_get _ h4) ⟨by decide, by omega, hk _ he1⟩⟩
theorem Range_c {H : Heap} {a b : Nat} {Q : QT} {E : ET} (ha : a ≤ 255) (hb : b ≤ 255)
    (hk : ∀ H', Ext H H' → Q (.agg (S4.zero.with_ a b).cells) H') : Does Pr 122 #[.int .i64 a, .int .i64 b] H Q E := by
  refine zqt1_fn _ _ Q E H ?_
  unfold zqt1 zqt1_15
  refine nw_ext fun j H1 hj he1 hc1 => ?_
  refine nw_ext fun i H2 hi he2 hc2 => ?_
  have hij : j ≠ i := ne_of hc1 hi
  unfold zqt1_11 zqt1_8
  refine ⟨fun x Hc => ∃ n : Nat, x = ((a + n : Nat) : Int) ∧ n ≤ b + 1 - a ∧ Ext H Hc ∧ Hc i = some (.cells (S4.zero.withN a n).cells 46 (0, 0)) ∧ Hc j = some (.cells S4.zero.cells 46 (0, 0)),
    fun x _ => (b + 1 - x).toNat, ⟨0, by simp, by omega, he1.trans he2, hc2, he2 _ _ hc1⟩, ?_⟩
  rintro x Hc ⟨n, rfl, hn, he, hci, hcj⟩
  unfold zqt1_5
  refine sel_dec (fun hd => ?_) (fun hd => ?_)
  · unfold zqt1_3
    simp only [ptr_some]
    refine ⟨_, _, _, _, S4.rd hci, ?_⟩
    rw [u8_nat (a + n) (by omega)]
    refine With_c (s := S4.zero.withN a n) (b := a + n) (by omega) fun H5 he5 => ?_
    refine ⟨_, _, _, _, rfl, ?_⟩
    refine S4.wr (S4.zero.withN a (n + 1)) (he5 _ _ hci) ?_
    have hw : IntKind.wrap .i64 (((a + n : Nat) : Int) + 1) = ((a + (n + 1) : Nat) : Int) := by rw [IntWalk.i64_in _ (by omega)]; omega
    rw [hw]
    exact ⟨⟨n + 1, rfl, by omega, (he.trans he5).set (he1.free hi) _, Heap.set_self _ _ _, by rw [Heap.set_ne _ _ hij]; exact he5 _ _ hcj⟩, by omega⟩
  · have hn' : n = b + 1 - a := by omega
    subst hn'
    unfold zqt1_1
    simp only [ptr_some]
    refine ⟨_, _, _, _, S4.rd hci, S4.wr (S4.zero.with_ a b) hcj ⟨_, _, _, _, S4.rd (s := S4.zero.with_ a b) (Heap.set_self _ _ _), ?_⟩⟩
    exact hk _ (he.set hj _)
theorem Union_c {H : Heap} {s t : S4} {Q : QT} {E : ET}
    (hk : ∀ H', Ext H H' → Q (.agg (s.or t).cells) H') : Does Pr 117 #[.agg s.cells, .agg t.cells] H Q E := by
  refine zqr_fn _ _ _ _ _ _ _ _ Q E H ?_
  unfold zqr
  refine nw_ext fun i H1 hi he1 hc1 => ?_
  refine nw_ext fun j H2 hj he2 hc2 => ?_
  refine nw_ext fun k H3 hk3 he3 hc3 => ?_
  have hij : i ≠ j := ne_of hc1 hj
  have hik : i ≠ k := ne_of (he2 _ _ hc1) hk3
  have hc3 : H3 k = some (.cells S4.zero.cells 46 (0, 0)) := hc3
  have hjk : j ≠ k := ne_of hc2 hk3
  unfold zqr_11 zqr_8
  refine ⟨fun x Hc => ∃ n : Nat, x = (n : Nat) ∧ n ≤ 4 ∧ Ext H Hc ∧ Hc i = some (.cells (s.orN t n).cells 46 (0, 0)) ∧ Hc j = some (.cells t.cells 46 (0, 0)) ∧ Hc k = some (.cells S4.zero.cells 46 (0, 0)),
    fun x _ => (4 - x).toNat, ⟨0, by simp, by omega, (he1.trans he2).trans he3, he3 _ _ (he2 _ _ hc1), he3 _ _ hc2, hc3⟩, ?_⟩
  rintro x Hc ⟨n, rfl, hn, he, hci, hcj, hck⟩
  unfold zqr_5
  refine sel_dec (fun hd => ?_) (fun hd => ?_)
  · have h4 : n < 4 := by omega
    unfold zqr_3
    simp only [ptr_some, add_at, Int.toNat_natCast, Nat.mul_one, Nat.zero_add]
    refine ⟨⟨by omega, by omega⟩, ldI_at hci (S4.cells_get _ h4) ⟨⟨by omega, by omega⟩, ldI_at hcj (S4.cells_get _ h4) ⟨⟨by omega, by omega⟩, ?_⟩⟩⟩
    refine wr_at hci (by simp [S4.cells]; omega) rfl ?_
    rw [S4.cells_put _ h4]
    have hw : IntKind.wrap .i64 ((n : Int) + 1) = ((n + 1 : Nat) : Int) := by rw [IntWalk.i64_in _ (by omega)]; omega
    rw [hw]
    exact ⟨⟨n + 1, rfl, by omega, he.set hi _, Heap.set_self _ _ _, by rw [Heap.set_ne _ _ (Ne.symm hij)]; exact hcj, by rw [Heap.set_ne _ _ (Ne.symm hik)]; exact hck⟩, by omega⟩
  · obtain rfl : n = 4 := by omega
    unfold zqr_1
    simp only [ptr_some]
    refine ⟨_, _, _, _, S4.rd hci, S4.wr (s.or t) hck ⟨_, _, _, _, S4.rd (s := s.or t) (Heap.set_self _ _ _), ?_⟩⟩
    exact hk _ (he.set ((he1.trans he2).free hk3) _)
theorem Not_c {H : Heap} {s : S4} {Q : QT} {E : ET}
    (hk : ∀ H', Ext H H' → Q (.agg s.not.cells) H') : Does Pr 107 #[.agg s.cells] H Q E := by
  refine zqm_fn _ _ _ _ Q E H ?_
  unfold zqm
  refine nw_ext fun i H1 hi he1 hc1 => ?_
  refine nw_ext fun j H2 hj he2 hc2 => ?_
  have hij : i ≠ j := ne_of hc1 hj
  have hc2 : H2 j = some (.cells S4.zero.cells 46 (0, 0)) := hc2
  unfold zqm_11 zqm_8
  refine ⟨fun x Hc => ∃ n : Nat, x = (n : Nat) ∧ n ≤ 4 ∧ Ext H Hc ∧ Hc i = some (.cells (s.notN n).cells 46 (0, 0)) ∧ Hc j = some (.cells S4.zero.cells 46 (0, 0)),
    fun x _ => (4 - x).toNat, ⟨0, by simp, by omega, he1.trans he2, he2 _ _ hc1, hc2⟩, ?_⟩
  rintro x Hc ⟨n, rfl, hn, he, hci, hcj⟩
  unfold zqm_5
  refine sel_dec (fun hd => ?_) (fun hd => ?_)
  · have h4 : n < 4 := by omega
    unfold zqm_3
    simp only [ptr_some, add_at, Int.toNat_natCast, Nat.mul_one, Nat.zero_add]
    refine ⟨⟨by omega, by omega⟩, ldI_at hci (S4.cells_get _ h4) ⟨⟨by omega, by omega⟩, ?_⟩⟩
    refine wr_at hci (by simp [S4.cells]; omega) rfl ?_
    rw [S4.cells_put _ h4]
    have hw : IntKind.wrap .i64 ((n : Int) + 1) = ((n + 1 : Nat) : Int) := by rw [IntWalk.i64_in _ (by omega)]; omega
    rw [hw]
    exact ⟨⟨n + 1, rfl, by omega, he.set hi _, Heap.set_self _ _ _, by rw [Heap.set_ne _ _ (Ne.symm hij)]; exact hcj⟩, by omega⟩
  · obtain rfl : n = 4 := by omega
    unfold zqm_1
    simp only [ptr_some]
    refine ⟨_, _, _, _, S4.rd hci, S4.wr s.not hcj ⟨_, _, _, _, S4.rd (s := s.not) (Heap.set_self _ _ _), ?_⟩⟩
    exact hk _ (he.set (he1.free hj) _)
def markB (b : Nat) : Bool := decide (33 ≤ b ∧ b ≤ 47 ∨ 58 ≤ b ∧ b ≤ 64 ∨ 91 ≤ b ∧ b ≤ 96 ∨ 123 ≤ b ∧ b ≤ 126)
theorem mark_c {H : Heap} {b : Nat} {Q : QT} {E : ET} (hk : Q (.bool (markB b)) H) : Does Pr 123 #[.int .u8 b] H Q E := by
  refine zqu1_fn _ Q E H ?_
  have yes : (33 ≤ b ∧ b ≤ 47 ∨ 58 ≤ b ∧ b ≤ 64 ∨ 91 ≤ b ∧ b ≤ 96 ∨ 123 ≤ b ∧ b ≤ 126) → Q (.bool true) H := fun h => by
    have e : markB b = true := decide_eq_true h
    rwa [e] at hk
  have no : ¬ (33 ≤ b ∧ b ≤ 47 ∨ 58 ≤ b ∧ b ≤ 64 ∨ 91 ≤ b ∧ b ≤ 96 ∨ 123 ≤ b ∧ b ≤ 126) → Q (.bool false) H := fun h => by
    have e : markB b = false := decide_eq_false h
    rwa [e] at hk
  have last : ¬ (33 ≤ b ∧ b ≤ 47 ∨ 58 ≤ b ∧ b ≤ 64 ∨ 91 ≤ b ∧ b ≤ 96) → 123 ≤ b → Q (.bool (decide ((b : Int) ≤ 126))) H := fun h h' => by
    have e : markB b = decide ((b : Int) ≤ 126) := by unfold markB; exact decide_eq_decide.2 (by omega)
    rwa [e] at hk
  unfold zqu1
  repeat' (refine sel_dec (fun _ => ?_) (fun _ => ?_))
  all_goals first | exact yes (by omega) | exact no (by omega) | exact last (by omega) (by omega) | (exfalso; omega)
def named8 (c : Nat) : S4 × Bool × Bool :=
  if c = 110 then (S4.zero.with1 10, true, true) else if c = 116 then (S4.zero.with1 9, true, true) else if c = 114 then (S4.zero.with1 13, true, true)
  else if c = 100 then (S4.zero.with_ 48 57, false, true)
  else if c = 119 then (((S4.zero.with_ 97 122).or (S4.zero.with_ 65 90)).or ((S4.zero.with_ 48 57).or (S4.zero.with1 95)), false, true)
  else if c = 115 then (((S4.zero.with1 32).or (S4.zero.with_ 9 10)).or (S4.zero.with1 13), false, true)
  else if markB c = true then (S4.zero.with1 c, true, true) else (S4.zero, false, false)
theorem named8_c {H : Heap} {b : Nat} {Q : QT} {E : ET} (hb : b ≤ 255)
    (hk : ∀ H' s x y, Ext H H' → named8 b = (s, x, y) → Q (.tuple #[.agg s.cells, .bool x, .bool y]) H') : Does Pr 116 #[.int .u8 b] H Q E := by
  refine zqq_fn _ Q E H ?_
  unfold zqq
  refine nw_ext fun i H1 hi he1 hc1 => ?_
  have hc1 : H1 i = some (.cells S4.zero.cells 46 (0, 0)) := hc1
  have fin : ∀ (s : S4) (x y : Bool) (H5 : Heap), named8 b = (s, x, y) → Ext H1 H5 → wr ⟨i, 0, none⟩ [.int .u64 s.a, .int .u64 s.b, .int .u64 s.c, .int .u64 s.d] H5 fun H6 =>
      ∃ n1 n2 n3 n4 : Int, H6.rd ⟨i, 0, none⟩ 0 [(.int .u64 n1), (.int .u64 n2), (.int .u64 n3), (.int .u64 n4)] ∧ Q (.tuple #[.agg #[(.int .u64 n1), (.int .u64 n2), (.int .u64 n3), (.int .u64 n4)], .bool x, .bool y]) H6 := by
    intro s x y H5 hs he5
    exact S4.wr s (he5 _ _ hc1) ⟨_, _, _, _, S4.rd (s := s) (Heap.set_self _ _ _), hk _ s x y ((he1.trans he5).set hi _) hs⟩
  unfold zqq_6
  simp only [ptr_some]
  refine sel_beq (fun _ => ?_) (fun _ => ?_)
  · refine With_c (s := S4.zero) (b := 10) (by omega) fun H5 he5 => ?_
    exact ⟨_, _, _, _, rfl, fin (S4.zero.with1 10) true true H5 (by unfold named8; rw [if_pos (by omega)]) he5⟩
  refine sel_beq (fun _ => ?_) (fun _ => ?_)
  · refine With_c (s := S4.zero) (b := 9) (by omega) fun H5 he5 => ?_
    exact ⟨_, _, _, _, rfl, fin (S4.zero.with1 9) true true H5 (by unfold named8; rw [if_neg (by omega), if_pos (by omega)]) he5⟩
  refine sel_beq (fun _ => ?_) (fun _ => ?_)
  · refine With_c (s := S4.zero) (b := 13) (by omega) fun H5 he5 => ?_
    exact ⟨_, _, _, _, rfl, fin (S4.zero.with1 13) true true H5 (by unfold named8; rw [if_neg (by omega), if_neg (by omega), if_pos (by omega)]) he5⟩
  refine sel_beq (fun _ => ?_) (fun _ => ?_)
  · refine Range_c (a := 48) (b := 57) (by omega) (by omega) fun H5 he5 => ?_
    exact ⟨_, _, _, _, rfl, fin (S4.zero.with_ 48 57) false true H5 (by unfold named8; rw [if_neg (by omega), if_neg (by omega), if_neg (by omega), if_pos (by omega)]) he5⟩
  refine sel_beq (fun _ => ?_) (fun _ => ?_)
  · refine Range_c (a := 97) (b := 122) (by omega) (by omega) fun H5 he5 => ⟨_, _, _, _, rfl, ?_⟩
    refine Range_c (a := 65) (b := 90) (by omega) (by omega) fun H6 he6 => ⟨_, _, _, _, rfl, ?_⟩
    refine Union_c (s := S4.zero.with_ 97 122) (t := S4.zero.with_ 65 90) fun H7 he7 => ⟨_, _, _, _, rfl, ?_⟩
    refine Range_c (a := 48) (b := 57) (by omega) (by omega) fun H8 he8 => ⟨_, _, _, _, rfl, ?_⟩
    refine With_c (s := S4.zero) (b := 95) (by omega) fun H9 he9 => ⟨_, _, _, _, rfl, ?_⟩
    refine Union_c (s := S4.zero.with_ 48 57) (t := S4.zero.with1 95) fun H10 he10 => ⟨_, _, _, _, rfl, ?_⟩
    refine Union_c (s := (S4.zero.with_ 97 122).or (S4.zero.with_ 65 90)) (t := (S4.zero.with_ 48 57).or (S4.zero.with1 95)) fun H11 he11 => ⟨_, _, _, _, rfl, ?_⟩
    exact fin (((S4.zero.with_ 97 122).or (S4.zero.with_ 65 90)).or ((S4.zero.with_ 48 57).or (S4.zero.with1 95))) false true H11
      (by unfold named8; rw [if_neg (by omega), if_neg (by omega), if_neg (by omega), if_neg (by omega), if_pos (by omega)]) ((((((he5.trans he6).trans he7).trans he8).trans he9).trans he10).trans he11)
  refine sel_beq (fun _ => ?_) (fun _ => ?_)
  · refine With_c (s := S4.zero) (b := 32) (by omega) fun H5 he5 => ⟨_, _, _, _, rfl, ?_⟩
    refine Range_c (a := 9) (b := 10) (by omega) (by omega) fun H6 he6 => ⟨_, _, _, _, rfl, ?_⟩
    refine Union_c (s := S4.zero.with1 32) (t := S4.zero.with_ 9 10) fun H7 he7 => ⟨_, _, _, _, rfl, ?_⟩
    refine With_c (s := S4.zero) (b := 13) (by omega) fun H8 he8 => ⟨_, _, _, _, rfl, ?_⟩
    refine Union_c (s := (S4.zero.with1 32).or (S4.zero.with_ 9 10)) (t := S4.zero.with1 13) fun H9 he9 => ⟨_, _, _, _, rfl, ?_⟩
    exact fin (((S4.zero.with1 32).or (S4.zero.with_ 9 10)).or (S4.zero.with1 13)) false true H9
      (by unfold named8; rw [if_neg (by omega), if_neg (by omega), if_neg (by omega), if_neg (by omega), if_neg (by omega), if_pos (by omega)]) ((((he5.trans he6).trans he7).trans he8).trans he9)
  unfold zqq_3
  have base : named8 b = if markB b = true then (S4.zero.with1 b, true, true) else (S4.zero, false, false) := by
    unfold named8; rw [if_neg (by omega), if_neg (by omega), if_neg (by omega), if_neg (by omega), if_neg (by omega), if_neg (by omega)]
  refine mark_c ⟨_, rfl, sel_mk (fun hm => ?_) (fun hm => ?_)⟩
  · refine With_c (s := S4.zero) (b := b) hb fun H5 he5 => ⟨_, _, _, _, rfl, ?_⟩
    simp only [ptr_some]
    exact fin (S4.zero.with1 b) true true H5 (by rw [base, if_pos hm]) he5
  · unfold zqq_1
    simp only [ptr_some]
    exact fin S4.zero false false H1 (by rw [base, if_neg (by simp [hm])]) (Ext.refl _)
def only8 (s : S4) : Nat := ((List.range 256).find? s.has).getD 0
theorem only8_le (s : S4) : only8 s ≤ 255 := by
  unfold only8
  cases h : (List.range 256).find? s.has with
  | none => simp
  | some x => have := List.mem_of_find?_eq_some h; simp at this ⊢; omega
theorem range_find {p : Nat → Bool} {n m : Nat} (hn : ∀ k, k < n → p k = false) (h : p n = true) (hm : n < m) : (List.range m).find? p = some n := by
  rw [List.find?_eq_some_iff_getElem]
  refine ⟨h, n, by simpa using hm, by simp, fun j hj => by simp [hn j hj]⟩
set_option maxRecDepth 20000 in
theorem only8_c {H : Heap} {s : S4} {Q : QT} {E : ET}
    (hk : ∀ H', Ext H H' → Q (.int .i64 (only8 s : Nat)) H') : Does Pr 125 #[.agg s.cells] H Q E := by
  refine zqw1_fn _ _ _ _ Q E H ?_
  unfold zqw1
  refine nw_ext fun i H1 hi he1 hc1 => ?_
  have hc1 : H1 i = some (.cells s.cells 46 (0, 0)) := hc1
  unfold zqw1_14 zqw1_11
  refine ⟨fun x Hc => ∃ n : Nat, x = (n : Nat) ∧ n ≤ 256 ∧ Ext H1 Hc ∧ ∀ k, k < n → s.has k = false, fun x _ => (256 - x).toNat, ⟨0, rfl, by omega, Ext.refl _, by intro k hk; omega⟩, ?_⟩
  rintro x Hc ⟨n, rfl, hn, he, hf⟩
  unfold zqw1_8
  refine sel_dec (fun hd => ?_) (fun hd => ?_)
  · unfold zqw1_5
    simp only [ptr_some]
    refine ⟨_, _, _, _, S4.rd (he _ _ hc1), ?_⟩
    rw [u8_nat n (by omega)]
    refine Has_c (s := s) (by omega) fun H5 he5 => ⟨_, rfl, sel_mk (fun hh => ?_) (fun hh => ?_)⟩
    · have : only8 s = n := by unfold only8; rw [range_find hf hh (by omega)]; rfl
      rw [this] at hk
      exact hk _ ((he1.trans he).trans he5)
    · unfold zqw1_3
      have hw : IntKind.wrap .i64 ((n : Int) + 1) = ((n + 1 : Nat) : Int) := by rw [IntWalk.i64_in _ (by omega)]; omega
      rw [hw]
      refine ⟨⟨n + 1, rfl, by omega, he.trans he5, fun k hk => ?_⟩, by omega⟩
      by_cases h : k = n
      · subst h; exact hh
      · exact hf k (by omega)
  · unfold zqw1_1
    have : only8 s = 0 := by
      unfold only8
      rw [List.find?_eq_none.2 (fun x hx => by have := hf x (by simp at hx; omega); simp [this])]; rfl
    rw [this] at hk
    exact hk _ (he1.trans he)
end Go.Proofs.Ytaffcoiomggpfaa

/- Relations between places: package r09 (3): leaf; what nodes mean, without fuel. -/
namespace Go.Proofs.Ytaffcoiomggpfaa
open Go.V
attribute [local irreducible] app
set_option linter.constructorNameAsVariable false
set_option linter.unusedVariables false

end Go.Proofs.Ytaffcoiomggpfaa

/- Spreading reaches what can be reached without a byte. -/
namespace Go.Proofs.Ytaffcoiomggpfaa
open Go.V
attribute [local irreducible] app
set_option linter.unusedVariables false

inductive Rch (st : List Nd) (bol eol : Bool) : Nat → Nat → Prop where
  | here (j : Nat) : Rch st bol eol j j
  | more {j s k : Nat} : s ∈ goes st bol eol j → Rch st bol eol s k → Rch st bol eol j k
theorem Rch.snoc {st : List Nd} {bol eol : Bool} {j s k : Nat} (h : Rch st bol eol j s) (hk : k ∈ goes st bol eol s) : Rch st bol eol j k := by
  induction h with
  | here j => exact .more hk (.here _)
  | more h1 _ ih => exact .more h1 (ih hk)
theorem spreadL_from {st : List Nd} (bol eol : Bool) {P : Nat → Prop} (hP : ∀ j, P j → ∀ s ∈ goes st bol eol j, P s) : ∀ (f i : Nat) (m : Bool) (l : List Nat), (∀ j ∈ l, P j) → ∀ j ∈ (spreadL st bol eol f i m l).1, P j
  | 0, i, m, l, hl, j, hj => hl j hj
  | f + 1, i, m, l, hl, j, hj => by
    rw [spreadL_step] at hj
    split at hj
    · rename_i hlt
      refine spreadL_from bol eol hP f (i + 1) _ _ (fun k hk => ?_) j hj
      rcases ((foldl_addL _ l).2 k).1 hk with hk | hk
      · exact hl k hk
      · refine hP _ (hl _ ?_) k hk
        rw [List.getD_eq_getElem?_getD, List.getElem?_eq_getElem hlt]
        exact List.getElem_mem hlt
    · exact hl j hj
theorem spread_mem {st : List Nd} (hr : InR st) (bol eol : Bool) {l : List Nat} (ho : OkL st.length l) (k : Nat) : k ∈ (spread st bol eol l).1 ↔ ∃ j ∈ l, Rch st bol eol j k := by
  have h1 := spreadL_spec hr bol eol (st.length + 1) 0 false l ho (by omega) (by omega) (by simp) (by simp)
  change (∃ r, (spread st bol eol l).1 = l ++ r) ∧ (∀ j ∈ (spread st bol eol l).1, ∀ s ∈ goes st bol eol j, s ∈ (spread st bol eol l).1) ∧ (spread st bol eol l).2 = (spread st bol eol l).1.any (isM st) at h1
  obtain ⟨⟨r, e⟩, hc, _⟩ := h1
  constructor
  · exact fun hk => spreadL_from bol eol (P := fun k => ∃ j ∈ l, Rch st bol eol j k) (fun j ⟨j0, h0, hr0⟩ s hs => ⟨j0, h0, hr0.snoc hs⟩) _ _ _ _ (fun j hj => ⟨j, hj, .here j⟩) k hk
  · rintro ⟨j, hj, hrch⟩
    have hj' : j ∈ (spread st bol eol l).1 := by rw [e]; exact List.mem_append_left _ hj
    clear hj
    induction hrch with
    | here j => exact hj'
    | more h1 _ ih => exact ih (hc _ hj' _ h1)
theorem spread_match {st : List Nd} (hr : InR st) (bol eol : Bool) {l : List Nat} (ho : OkL st.length l) : (spread st bol eol l).2 = (spread st bol eol l).1.any (isM st) := by
  have h1 := spreadL_spec hr bol eol (st.length + 1) 0 false l ho (by omega) (by omega) (by simp) (by simp)
  exact h1.2.2
end Go.Proofs.Ytaffcoiomggpfaa

/- The automaton of a pattern leads where the pattern leads. -/
namespace Go.Proofs.Ytaffcoiomggpfaa
open Go.V
attribute [local irreducible] app
set_option linter.unusedVariables false

def Has (st st1 : List Nd) (lo : Nat) : Prop := ∀ i, lo ≤ i → i < st1.length → st.getD i default = st1.getD i default
theorem getD_left {a b : List Nd} {i : Nat} (h : i < a.length) : (a ++ b).getD i default = a.getD i default := by
  rw [List.getD_eq_getElem?_getD, List.getD_eq_getElem?_getD, List.getElem?_append_left h]
theorem getD_last (a : List Nd) (x : Nd) : (a ++ [x]).getD a.length default = x := by simp [List.getD_eq_getElem?_getD]
theorem Has.part {st a b : List Nd} {lo : Nat} (h : Has st (a ++ b) lo) : Has st a lo := fun i h1 h2 => by
  rw [h i h1 (by rw [List.length_append]; omega), getD_left h2]
theorem Has.from {st a : List Nd} {lo lo' : Nat} (h : Has st a lo) (hl : lo ≤ lo') : Has st a lo' := fun i h1 h2 => h i (Nat.le_trans hl h1) h2
theorem Has.last {st a : List Nd} {x : Nd} {lo : Nat} (h : Has st (a ++ [x]) lo) (hl : lo ≤ a.length) : st.getD a.length default = x := by
  rw [h a.length hl (by simp), getD_last]
theorem bd_len (l : List Nd) (f n out : Nat) (st : List Nd) : st.length ≤ (bd l f n out st).2.length := by
  obtain ⟨a, ha⟩ := bd_app l f n out st
  rw [ha, List.length_append]; omega
theorem setL_get (st : List Nd) (n : Nat) (v : Int) (i : Nat) : (setL st n v).getD i default = if i = n ∧ i < st.length then { st.getD i default with l := v } else st.getD i default := by
  unfold setL
  rw [List.getD_eq_getElem?_getD, List.getD_eq_getElem?_getD, List.getElem?_modify]
  by_cases h : n = i
  · subst h
    by_cases hl : n < st.length
    · rw [if_pos ⟨rfl, hl⟩, List.getElem?_eq_getElem hl]; simp
    · rw [if_neg (fun h => hl h.2), List.getElem?_eq_none (by omega)]; simp
  · rw [if_neg (fun h' => h h'.1.symm)]; simp [h]
theorem Has.loop {st st0 y : List Nd} {out first : Nat} {new : List Nd} (hy : y = (st0 ++ [⟨2, 0, out, 0, 0, 0, 0⟩]) ++ new) (h : Has st (setL y st0.length first) st0.length) :
    st.getD st0.length default = ⟨2, first, out, 0, 0, 0, 0⟩ ∧ Has st y (st0 ++ [(⟨2, 0, out, 0, 0, 0, 0⟩ : Nd)]).length := by
  have hl : (setL y st0.length first).length = y.length := by simp [setL]
  have hyl : st0.length < y.length := by rw [hy]; simp
  refine ⟨?_, fun i h1 h2 => ?_⟩
  · rw [h st0.length (Nat.le_refl _) (by omega), setL_get, if_pos ⟨rfl, hyl⟩, hy, getD_left (by simp), getD_last]
  · rw [List.length_append, List.length_singleton] at h1
    rw [h i (by omega) (by omega), setL_get, if_neg (by omega)]
variable {st : List Nd} {t : List Nat} {l : List Nd} {g k : Nat}
theorem up : ∀ (f n out : Nat) (st0 : List Nd) (i j : Nat), Has st (bd l f n out st0).2 st0.length → mean t l f n i j → (∃ m, Acc st t g k m out j) → ∃ m, Acc st t g k m (bd l f n out st0).1 i
  | 0, n, out, st0, i, j, _, hm, ha => by
    have hm : j = i := hm
    subst hm; exact ha
  | f + 1, n, out, st0, i, j, hh, hm, ha => by
    unfold mean at hm
    unfold bd at hh ⊢
    dsimp only at hm hh ⊢
    generalize l.getD n default = x at hm hh ⊢
    obtain ⟨m, ha⟩ := ha
    by_cases c2 : x.k = 2
    · rw [if_pos (.inl c2)] at hm
      rw [if_pos c2] at hh ⊢
      unfold leafR at hm
      rw [if_pos c2] at hm
      have hq := hh.last (Nat.le_refl _)
      obtain ⟨rfl, b, hb, hb'⟩ := hm
      refine ⟨m + 1, .step (.inr (.inr (.inr ?_))) ha⟩
      rw [hq]; exact ⟨rfl, rfl, rfl, b, hb, hb'⟩
    rw [if_neg c2] at hh ⊢
    by_cases c8 : x.k = 8
    · rw [if_pos (.inr (.inl c8))] at hm
      rw [if_pos c8] at hh ⊢
      unfold leafR at hm
      rw [if_neg c2, if_pos c8] at hm
      have hq := hh.last (Nat.le_refl _)
      obtain ⟨rfl, hb⟩ := hm
      refine ⟨m + 1, .step (.inr (.inl ?_)) ha⟩
      rw [hq]; exact ⟨rfl, hb, rfl, rfl⟩
    rw [if_neg c8] at hh ⊢
    by_cases c9 : x.k = 9
    · rw [if_pos (.inr (.inr c9))] at hm
      rw [if_pos c9] at hh ⊢
      unfold leafR at hm
      rw [if_neg c2, if_neg c8, if_pos c9] at hm
      have hq := hh.last (Nat.le_refl _)
      obtain ⟨rfl, hb⟩ := hm
      refine ⟨m + 1, .step (.inr (.inr (.inl ?_))) ha⟩
      rw [hq]; exact ⟨rfl, hb, rfl, rfl⟩
    rw [if_neg c9] at hh ⊢
    rw [if_neg (by rintro (h | h | h); · exact c2 h
                   · exact c8 h
                   · exact c9 h)] at hm
    by_cases c3 : x.k = 3
    · rw [if_pos c3] at hm hh ⊢
      obtain ⟨m', h1, h2⟩ := hm
      obtain ⟨nz, hz⟩ := bd_app l f x.l.toNat (bd l f x.r.toNat out st0).1 (bd l f x.r.toNat out st0).2
      have hl := bd_len l f x.r.toNat out st0
      refine up f x.l.toNat _ _ i m' (hh.from hl) h1 (up f x.r.toNat out st0 m' j ?_ h2 ⟨m, ha⟩)
      rw [hz] at hh; exact hh.part
    rw [if_neg c3] at hm hh ⊢
    by_cases c4 : x.k = 4
    · rw [if_pos c4] at hm hh ⊢
      obtain ⟨nz, hz⟩ := bd_app l f x.r.toNat out (bd l f x.l.toNat out st0).2
      have hl := bd_len l f x.l.toNat out st0
      have hl2 := bd_len l f x.r.toNat out (bd l f x.l.toNat out st0).2
      have hq := hh.last (Nat.le_trans hl hl2)
      have h2 := hh.part
      rcases hm with hm | hm
      · obtain ⟨m2, h3⟩ := up f x.l.toNat out st0 i j (by rw [hz] at h2; exact h2.part) hm ⟨m, ha⟩
        refine ⟨m2 + 1, .step (.inl ?_) h3⟩
        rw [hq]; exact ⟨rfl, rfl, .inl rfl⟩
      · obtain ⟨m2, h3⟩ := up f x.r.toNat out _ i j (h2.from hl) hm ⟨m, ha⟩
        refine ⟨m2 + 1, .step (.inl ?_) h3⟩
        rw [hq]; exact ⟨rfl, rfl, .inr rfl⟩
    rw [if_neg c4] at hm hh ⊢
    by_cases c7 : x.k = 7
    · rw [if_pos c7] at hm hh ⊢
      have hl := bd_len l f x.l.toNat out st0
      have hq := hh.last hl
      rcases hm with hm | rfl
      · obtain ⟨m2, h3⟩ := up f x.l.toNat out st0 i j hh.part hm ⟨m, ha⟩
        refine ⟨m2 + 1, .step (.inl ?_) h3⟩
        rw [hq]; exact ⟨rfl, rfl, .inl rfl⟩
      · refine ⟨m + 1, .step (.inl ?_) ha⟩
        rw [hq]; exact ⟨rfl, rfl, .inr rfl⟩
    rw [if_neg c7] at hm hh ⊢
    by_cases c56 : x.k = 5 ∨ x.k = 6
    · rw [if_pos c56] at hh ⊢
      obtain ⟨new, hnew⟩ := bd_app l f x.l.toNat st0.length (st0 ++ [⟨2, 0, out, 0, 0, 0, 0⟩])
      obtain ⟨hq, hin⟩ := Has.loop hnew hh
      have loop : ∀ i j, Star (mean t l f x.l.toNat) i j → (∃ m, Acc st t g k m out j) → ∃ m, Acc st t g k m st0.length i := by
        intro i j hs
        clear hm ha
        induction hs with
        | none i =>
          intro ⟨m, ha⟩
          refine ⟨m + 1, .step (.inl ?_) ha⟩
          rw [hq]; exact ⟨rfl, rfl, .inr rfl⟩
        | more h1 h2 ih =>
          intro ha
          obtain ⟨m2, h3⟩ := up f x.l.toNat st0.length (st0 ++ [⟨2, 0, out, 0, 0, 0, 0⟩]) _ _ hin h1 (ih ha)
          refine ⟨m2 + 1, .step (.inl ?_) h3⟩
          rw [hq]; exact ⟨rfl, rfl, .inl rfl⟩
      by_cases c5 : x.k = 5
      · rw [if_pos c5] at hm
        rw [if_neg (by omega)]
        exact loop i j hm ⟨m, ha⟩
      · rw [if_neg c5, if_pos (by omega)] at hm
        rw [if_pos (by omega)]
        obtain ⟨m', h1, h2⟩ := hm
        exact up f x.l.toNat st0.length _ i m' hin h1 (loop m' j h2 ⟨m, ha⟩)
    · rw [if_neg c56] at hh ⊢
      rw [if_neg (by omega), if_neg (by omega)] at hm
      subst hm; exact ⟨m, ha⟩
theorem step_split {a b : Int} {q i q' i' : Nat} (hq : st.getD q default = ⟨2, a, b, 0, 0, 0, 0⟩) (h : Step st t q i q' i') : i' = i ∧ (q' = a.toNat ∨ q' = b.toNat) := by
  unfold Step at h
  dsimp only at h
  rw [hq] at h
  rcases h with ⟨_, h1, h2⟩ | ⟨h, _⟩ | ⟨h, _⟩ | ⟨h, _⟩
  · exact ⟨h1, h2⟩
  all_goals simp at h
theorem down : ∀ (f n out : Nat) (st0 : List Nd) (i N : Nat), Has st (bd l f n out st0).2 st0.length → g < st0.length → Acc st t g k N (bd l f n out st0).1 i →
    ∃ j m, m ≤ N ∧ mean t l f n i j ∧ Acc st t g k m out j
  | 0, n, out, st0, i, N, _, _, ha => ⟨i, N, Nat.le_refl _, rfl, ha⟩
  | f + 1, n, out, st0, i, N, hh, hg, ha => by
    unfold mean
    unfold bd at hh ha
    dsimp only at hh ha ⊢
    generalize l.getD n default = x at hh ha ⊢
    by_cases c2 : x.k = 2
    · rw [if_pos c2] at hh ha
      have hq := hh.last (Nat.le_refl _)
      obtain ⟨m, q', i', rfl, hs, ha2⟩ := acc_step ha (by dsimp only; omega)
      unfold Step at hs
      dsimp only at hs
      rw [hq] at hs
      rcases hs with ⟨h, _⟩ | ⟨h, _⟩ | ⟨h, _⟩ | ⟨_, rfl, rfl, b, hb, hb'⟩
      · simp at h
      · simp at h
      · simp at h
      · refine ⟨i + 1, m, by omega, ?_, ha2⟩
        rw [if_pos (.inl c2)]; unfold leafR; rw [if_pos c2]
        exact ⟨rfl, b, hb, hb'⟩
    rw [if_neg c2] at hh ha
    by_cases c8 : x.k = 8
    · rw [if_pos c8] at hh ha
      have hq := hh.last (Nat.le_refl _)
      obtain ⟨m, q', i', rfl, hs, ha2⟩ := acc_step ha (by dsimp only; omega)
      unfold Step at hs
      dsimp only at hs
      rw [hq] at hs
      rcases hs with ⟨h, _⟩ | ⟨_, hb, rfl, rfl⟩ | ⟨h, _⟩ | ⟨h, _⟩
      · simp at h
      · refine ⟨i', m, by omega, ?_, ha2⟩
        rw [if_pos (.inr (.inl c8))]; unfold leafR; rw [if_neg c2, if_pos c8]
        exact ⟨rfl, hb⟩
      · simp at h
      · simp at h
    rw [if_neg c8] at hh ha
    by_cases c9 : x.k = 9
    · rw [if_pos c9] at hh ha
      have hq := hh.last (Nat.le_refl _)
      obtain ⟨m, q', i', rfl, hs, ha2⟩ := acc_step ha (by dsimp only; omega)
      unfold Step at hs
      dsimp only at hs
      rw [hq] at hs
      rcases hs with ⟨h, _⟩ | ⟨h, _⟩ | ⟨_, hb, rfl, rfl⟩ | ⟨h, _⟩
      · simp at h
      · simp at h
      · refine ⟨i', m, by omega, ?_, ha2⟩
        rw [if_pos (.inr (.inr c9))]; unfold leafR; rw [if_neg c2, if_neg c8, if_pos c9]
        exact ⟨rfl, hb⟩
      · simp at h
    rw [if_neg c9] at hh ha
    have hno : ¬ (x.k = 2 ∨ x.k = 8 ∨ x.k = 9) := by
      rintro (h | h | h)
      · exact c2 h
      · exact c8 h
      · exact c9 h
    simp only [if_neg hno]
    by_cases c3 : x.k = 3
    · rw [if_pos c3] at hh ha
      simp only [if_pos c3]
      obtain ⟨nz, hz⟩ := bd_app l f x.l.toNat (bd l f x.r.toNat out st0).1 (bd l f x.r.toNat out st0).2
      have hl := bd_len l f x.r.toNat out st0
      obtain ⟨j1, m1, h1, h2, h3⟩ := down f x.l.toNat _ _ i N (hh.from hl) (by omega) ha
      obtain ⟨j2, m2, h4, h5, h6⟩ := down f x.r.toNat out st0 j1 m1 (by rw [hz] at hh; exact hh.part) hg h3
      exact ⟨j2, m2, by omega, ⟨j1, h2, h5⟩, h6⟩
    rw [if_neg c3] at hh ha
    simp only [if_neg c3]
    by_cases c4 : x.k = 4
    · rw [if_pos c4] at hh ha
      simp only [if_pos c4]
      obtain ⟨nz, hz⟩ := bd_app l f x.r.toNat out (bd l f x.l.toNat out st0).2
      have hl := bd_len l f x.l.toNat out st0
      have hl2 := bd_len l f x.r.toNat out (bd l f x.l.toNat out st0).2
      have hq := hh.last (Nat.le_trans hl hl2)
      have h2 := hh.part
      obtain ⟨m, q', i', rfl, hs, ha2⟩ := acc_step ha (by dsimp only; omega)
      obtain ⟨rfl, hs2⟩ := step_split hq hs
      rcases hs2 with rfl | rfl
      · obtain ⟨j, m2, h3, h4, h5⟩ := down f x.l.toNat out st0 i' m (by rw [hz] at h2; exact h2.part) hg ha2
        exact ⟨j, m2, by omega, .inl h4, h5⟩
      · obtain ⟨j, m2, h3, h4, h5⟩ := down f x.r.toNat out _ i' m (h2.from hl) (by omega) ha2
        exact ⟨j, m2, by omega, .inr h4, h5⟩
    rw [if_neg c4] at hh ha
    simp only [if_neg c4]
    by_cases c7 : x.k = 7
    · rw [if_pos c7] at hh ha
      simp only [if_pos c7]
      have hl := bd_len l f x.l.toNat out st0
      have hq := hh.last hl
      obtain ⟨m, q', i', rfl, hs, ha2⟩ := acc_step ha (by dsimp only; omega)
      obtain ⟨rfl, hs2⟩ := step_split hq hs
      rcases hs2 with rfl | rfl
      · obtain ⟨j, m2, h3, h4, h5⟩ := down f x.l.toNat out st0 i' m hh.part hg ha2
        exact ⟨j, m2, by omega, .inl h4, h5⟩
      · exact ⟨i', m, by omega, .inr rfl, ha2⟩
    rw [if_neg c7] at hh ha
    simp only [if_neg c7]
    by_cases c56 : x.k = 5 ∨ x.k = 6
    · rw [if_pos c56] at hh ha
      obtain ⟨new, hnew⟩ := bd_app l f x.l.toNat st0.length (st0 ++ [⟨2, 0, out, 0, 0, 0, 0⟩])
      obtain ⟨hq, hin⟩ := Has.loop hnew hh
      have loop : ∀ N i, Acc st t g k N st0.length i → ∃ j m, m ≤ N ∧ Star (mean t l f x.l.toNat) i j ∧ Acc st t g k m out j := by
        intro N
        induction N using Nat.strongRecOn with
        | _ N ih =>
          intro i ha
          obtain ⟨m, q', i', rfl, hs, ha2⟩ := acc_step ha (by omega)
          obtain ⟨rfl, hs2⟩ := step_split hq hs
          rcases hs2 with rfl | rfl
          · obtain ⟨j1, m1, h1, h2, h3⟩ := down f x.l.toNat st0.length _ i' m hin (by simp; omega) ha2
            obtain ⟨j2, m2, h4, h5, h6⟩ := ih m1 (by omega) j1 h3
            exact ⟨j2, m2, by omega, .more h2 h5, h6⟩
          · exact ⟨i', m, by omega, .none _, ha2⟩
      by_cases c5 : x.k = 5
      · simp only [if_pos c5]
        rw [if_neg (by omega)] at ha
        exact loop N i ha
      · have c6 : x.k = 6 := by omega
        simp only [if_neg c5, if_pos c6]
        rw [if_pos c6] at ha
        obtain ⟨j1, m1, h1, h2, h3⟩ := down f x.l.toNat st0.length _ i N hin (by simp; omega) ha
        obtain ⟨j2, m2, h4, h5, h6⟩ := loop m1 j1 h3
        exact ⟨j2, m2, by omega, ⟨j1, h2, h5⟩, h6⟩
    · rw [if_neg c56] at hh ha
      have c5 : ¬ x.k = 5 := by omega
      have c6 : ¬ x.k = 6 := by omega
      simp only [if_neg c5, if_neg c6]
      exact ⟨i, N, Nat.le_refl _, rfl, ha⟩
end Go.Proofs.Ytaffcoiomggpfaa

/- The whole automaton of a pattern. -/
namespace Go.Proofs.Ytaffcoiomggpfaa
open Go.V
attribute [local irreducible] app
set_option linter.unusedVariables false

theorem setLR_get (st : List Nd) (v : Int) (i : Nat) : (setLR st v).getD i default = if i = 0 ∧ i < st.length then { st.getD i default with l := v, r := v } else st.getD i default := by
  unfold setLR
  rw [List.getD_eq_getElem?_getD, List.getD_eq_getElem?_getD, List.getElem?_modify]
  by_cases h : 0 = i
  · subst h
    by_cases hl : 0 < st.length
    · rw [if_pos ⟨rfl, hl⟩, List.getElem?_eq_getElem hl]; simp
    · rw [if_neg (fun h => hl h.2), List.getElem?_eq_none (by omega)]; simp
  · rw [if_neg (fun h' => h h'.1.symm)]; simp [h]
theorem acc_build {t : List Nat} (l : List Nd) (i k : Nat) : (∃ m, Acc (buildOf l) t 1 k m 0 i) ↔ mean t l l.length (l.length - 1) i k := by
  obtain ⟨new, hnew⟩ := bd_app l l.length (l.length - 1) 1 [⟨2, 0, 0, 0, 0, 0, 0⟩, ⟨5, 0, 0, 0, 0, 0, 0⟩]
  have hb : buildOf l = setLR (bd l l.length (l.length - 1) 1 [⟨2, 0, 0, 0, 0, 0, 0⟩, ⟨5, 0, 0, 0, 0, 0, 0⟩]).2 (bd l l.length (l.length - 1) 1 [⟨2, 0, 0, 0, 0, 0, 0⟩, ⟨5, 0, 0, 0, 0, 0, 0⟩]).1 := rfl
  have hup := up (st := buildOf l) (t := t) (l := l) (g := 1) (k := k) l.length (l.length - 1) 1 [⟨2, 0, 0, 0, 0, 0, 0⟩, ⟨5, 0, 0, 0, 0, 0, 0⟩] i
  have hdn := fun N => down (st := buildOf l) (t := t) (l := l) (g := 1) (k := k) l.length (l.length - 1) 1 [⟨2, 0, 0, 0, 0, 0, 0⟩, ⟨5, 0, 0, 0, 0, 0, 0⟩] i N
  generalize bd l l.length (l.length - 1) 1 [⟨2, 0, 0, 0, 0, 0, 0⟩, ⟨5, 0, 0, 0, 0, 0, 0⟩] = X at hnew hb hup hdn
  obtain ⟨first, T⟩ := X
  dsimp only at hnew hb hup hdn
  have hlen : 2 ≤ T.length := by rw [hnew]; simp
  have hhas : Has (buildOf l) T ([⟨2, 0, 0, 0, 0, 0, 0⟩, ⟨5, 0, 0, 0, 0, 0, 0⟩] : List Nd).length := fun j h1 h2 => by
    have h1 : 2 ≤ j := h1
    rw [hb, setLR_get, if_neg (by omega)]
  have h0 : (buildOf l).getD 0 default = ⟨2, first, first, 0, 0, 0, 0⟩ := by
    rw [hb, setLR_get, if_pos ⟨rfl, by omega⟩, hnew]; rfl
  have h1 : (buildOf l).getD 1 default = ⟨5, 0, 0, 0, 0, 0, 0⟩ := by
    rw [hb, setLR_get, if_neg (by omega), hnew]; rfl
  constructor
  · rintro ⟨N, ha⟩
    obtain ⟨m, q', i', rfl, hs, ha2⟩ := acc_step ha (by decide)
    obtain ⟨rfl, hs2⟩ := step_split h0 hs
    have hq : q' = first := by rcases hs2 with h | h <;> simpa using h
    subst hq
    obtain ⟨j, m2, _, hm, ha3⟩ := hdn m hhas (by decide) ha2
    cases ha3 with
    | here => exact hm
    | step hs _ =>
      unfold Step at hs
      dsimp only at hs
      rw [h1] at hs
      rcases hs with ⟨h, _⟩ | ⟨h, _⟩ | ⟨h, _⟩ | ⟨h, _⟩ <;> simp at h
  · intro hm
    obtain ⟨m, ha⟩ := hup k hhas hm ⟨0, .here⟩
    refine ⟨m + 1, .step (.inl ?_) ha⟩
    rw [h0]; exact ⟨rfl, rfl, .inl rfl⟩
end Go.Proofs.Ytaffcoiomggpfaa

/- What a set of states accepts. -/
namespace Go.Proofs.Ytaffcoiomggpfaa
open Go.V
attribute [local irreducible] app
set_option linter.unusedVariables false

theorem goes_step {st : List Nd} {t : List Nat} {bol eol : Bool} {i j s : Nat} (hb : bol = true → bolAt t i) (he : eol = true → eolAt t i) (h : s ∈ goes st bol eol j) : Step st t j i s i := by
  unfold goes at h
  unfold Step
  dsimp only
  split at h
  · rename_i h2
    simp only [List.mem_cons, List.not_mem_nil, or_false] at h
    exact .inl ⟨h2, rfl, h.symm⟩
  · split at h
    · rename_i h3
      simp only [List.mem_cons, List.not_mem_nil, or_false] at h
      rcases h3 with ⟨h3, hb'⟩ | ⟨h3, he'⟩
      · exact .inr (.inl ⟨h3, hb hb', rfl, h⟩)
      · exact .inr (.inr (.inl ⟨h3, he he', rfl, h⟩))
    · simp at h
theorem mem_readL {st : List Nd} {b : Nat} {k : Nat} (l : List Nat) : k ∈ readL st b l ↔ ∃ q ∈ l, (st.getD q default).k = 1 ∧ (st.getD q default).set.has b = true ∧ k = (st.getD q default).l.toNat := by
  have key : ∀ (l acc : List Nat), k ∈ l.foldl (fun acc i => if (st.getD i default).k = 1 ∧ (st.getD i default).set.has b = true then addL acc (st.getD i default).l.toNat else acc) acc ↔
      k ∈ acc ∨ ∃ q ∈ l, (st.getD q default).k = 1 ∧ (st.getD q default).set.has b = true ∧ k = (st.getD q default).l.toNat := by
    intro l
    induction l with
    | nil => intro acc; simp
    | cons x l ih =>
      intro acc
      rw [List.foldl_cons, ih]
      by_cases hx : (st.getD x default).k = 1 ∧ (st.getD x default).set.has b = true
      · rw [if_pos hx, mem_addL]
        constructor
        · rintro ((h | h) | ⟨q, hq, h⟩)
          · exact .inl h
          · exact .inr ⟨x, by simp, hx.1, hx.2, h⟩
          · exact .inr ⟨q, by simp [hq], h⟩
        · rintro (h | ⟨q, hq, h⟩)
          · exact .inl (.inl h)
          · rcases List.mem_cons.1 hq with rfl | hq
            · exact .inl (.inr h.2.2)
            · exact .inr ⟨q, hq, h⟩
      · rw [if_neg hx]
        constructor
        · rintro (h | ⟨q, hq, h⟩)
          · exact .inl h
          · exact .inr ⟨q, by simp [hq], h⟩
        · rintro (h | ⟨q, hq, h⟩)
          · exact .inl h
          · rcases List.mem_cons.1 hq with rfl | hq
            · exact absurd ⟨h.1, h.2.1⟩ hx
            · exact .inr ⟨q, hq, h⟩
  have := key l []
  unfold readL
  rw [this]
  simp
end Go.Proofs.Ytaffcoiomggpfaa

/- To which places the automaton leads. -/
namespace Go.Proofs.Ytaffcoiomggpfaa
open Go.V
attribute [local irreducible] app
set_option linter.unusedVariables false

theorem spread_one {st : List Nd} (hr : InR st) (h5 : ∀ j, j < st.length → ((st.getD j default).k = 5 ↔ j = 1)) (bol eol : Bool) {l : List Nat} (ho : OkL st.length l) : (spread st bol eol l).2 = true ↔ 1 ∈ (spread st bol eol l).1 := by
  have hok := spread_ok hr bol eol ho
  rw [spread_match hr bol eol ho, List.any_eq_true]
  constructor
  · rintro ⟨j, hj, hm⟩
    have : j = 1 := (h5 j (hok.2 j hj)).1 (of_decide_eq_true hm)
    rw [← this]; exact hj
  · exact fun h => ⟨1, h, decide_eq_true ((h5 1 (hok.2 1 h)).2 rfl)⟩
end Go.Proofs.Ytaffcoiomggpfaa

/- Searching a text with the states of an automaton: sets of states as predicates. -/
namespace Go.Proofs.Ytaffcoiomggpfaa
open Go.V
attribute [local irreducible] app
set_option linter.unusedVariables false

theorem step_le {st : List Nd} {t : List Nat} {q i q' i' : Nat} (h : Step st t q i q' i') : i ≤ i' := by
  unfold Step at h; dsimp only at h
  rcases h with ⟨_, rfl, _⟩ | ⟨_, _, rfl, _⟩ | ⟨_, _, rfl, _⟩ | ⟨_, rfl, _⟩ <;> omega
theorem acc_le {st : List Nd} {t : List Nat} {g k m q i : Nat} (h : Acc st t g k m q i) : i ≤ k := by
  induction h with
  | here => omega
  | step h1 _ ih => have := step_le h1; omega
theorem step_agree {st : List Nd} {t u : List Nat} {q i q' i' : Nat} (h : Step st t q i q' i') (hu : ∀ p, p ≤ i → u[p]? = t[p]?) : Step st u q i q' i' := by
  unfold Step at h ⊢; dsimp only at h ⊢
  rcases h with h | ⟨h1, h2, h3⟩ | ⟨h1, h2, h3⟩ | ⟨h1, h2, h3, h4⟩
  · exact .inl h
  · refine .inr (.inl ⟨h1, ?_, h3⟩)
    unfold bolAt at h2 ⊢
    rw [hu _ (by omega)]; exact h2
  · refine .inr (.inr (.inl ⟨h1, ?_, h3⟩))
    unfold eolAt at h2 ⊢
    rw [hu _ (by omega)]; exact h2
  · refine .inr (.inr (.inr ⟨h1, h2, h3, ?_⟩))
    rw [hu _ (by omega)]; exact h4
theorem acc_agree {st : List Nd} {t u : List Nat} {g k m q i : Nat} (h : Acc st t g k m q i) (hu : ∀ p, p ≤ k → u[p]? = t[p]?) : Acc st u g k m q i := by
  induction h with
  | here => exact .here
  | step h1 h2 ih =>
    have := step_le h1; have := acc_le h2
    exact .step (step_agree h1 fun p hp => hu p (by omega)) ih
def Cl (st : List Nd) (bol eol : Bool) (P : Nat → Prop) (q : Nat) : Prop := ∃ j, P j ∧ Rch st bol eol j q
def Rd (st : List Nd) (c : Nat) (P : Nat → Prop) (q' : Nat) : Prop := ∃ q, P q ∧ (st.getD q default).k = 1 ∧ (st.getD q default).set.has c = true ∧ q' = (st.getD q default).l.toNat
def CanP (st : List Nd) (t : List Nat) (g k i : Nat) (P : Nat → Prop) : Prop := ∃ q, P q ∧ ∃ m, Acc st t g k m q i
theorem Cl.closed {st : List Nd} {bol eol : Bool} {P : Nat → Prop} {j s : Nat} (h : Cl st bol eol P j) (hs : s ∈ goes st bol eol j) : Cl st bol eol P s := by
  obtain ⟨a, h1, h2⟩ := h
  exact ⟨a, h1, h2.snoc hs⟩
theorem Rch.trans {st : List Nd} {bol eol : Bool} {a b c : Nat} (h : Rch st bol eol a b) (h2 : Rch st bol eol b c) : Rch st bol eol a c := by
  induction h with
  | here j => exact h2
  | more h1 _ ih => exact .more h1 (ih h2)
theorem goes_mono {st : List Nd} {bol : Bool} {e e' : Bool} (h : e = true → e' = true) {j s : Nat} (hs : s ∈ goes st bol e j) : s ∈ goes st bol e' j := by
  unfold goes at hs ⊢
  by_cases h2 : (st.getD j default).k = 2
  · rw [if_pos h2] at hs ⊢; exact hs
  · rw [if_neg h2] at hs ⊢
    by_cases h3 : ((st.getD j default).k = 3 ∧ bol = true) ∨ ((st.getD j default).k = 4 ∧ e = true)
    · rw [if_pos h3] at hs
      rw [if_pos (h3.imp id fun h4 => ⟨h4.1, h h4.2⟩)]; exact hs
    · rw [if_neg h3] at hs; simp at hs
theorem Rch.mono {st : List Nd} {bol : Bool} {e e' : Bool} (h : e = true → e' = true) {a b : Nat} (hr : Rch st bol e a b) : Rch st bol e' a b := by
  induction hr with
  | here j => exact .here j
  | more h1 _ ih => exact .more (goes_mono h h1) ih
theorem Cl.twice {st : List Nd} {bol : Bool} {e e' : Bool} (h : e = true → e' = true) {P : Nat → Prop} {q : Nat} : Cl st bol e' (Cl st bol e P) q ↔ Cl st bol e' P q :=
  ⟨fun ⟨a, ⟨b, h1, h2⟩, h3⟩ => ⟨b, h1, (h2.mono h).trans h3⟩, fun ⟨b, h1, h2⟩ => ⟨b, ⟨b, h1, .here _⟩, h2⟩⟩
theorem canP_cl {st : List Nd} {t : List Nat} {g : Nat} {bol eol : Bool} {i k : Nat} {P : Nat → Prop} (hb : bol = true → bolAt t i) (he : eol = true → eolAt t i) :
    CanP st t g k i (Cl st bol eol P) ↔ CanP st t g k i P := by
  constructor
  · rintro ⟨q, ⟨j, hj, hrch⟩, m, ha⟩
    refine ⟨j, hj, ?_⟩
    clear hj
    induction hrch with
    | here j => exact ⟨m, ha⟩
    | more h1 _ ih =>
      obtain ⟨m2, h2⟩ := ih ha
      exact ⟨m2 + 1, .step (goes_step hb he h1) h2⟩
  · rintro ⟨q, hq, m, ha⟩
    exact ⟨q, ⟨q, hq, .here q⟩, m, ha⟩
theorem canP_read {st : List Nd} {t : List Nat} {g : Nat} {bol eol : Bool} {i k : Nat} {P : Nat → Prop} (hc : ∀ j, P j → ∀ s ∈ goes st bol eol j, P s) (hb : bolAt t i → bol = true) (he : eolAt t i → eol = true) :
    CanP st t g k i P ↔ (P g ∧ k = i) ∨ ∃ c, t[i]? = some c ∧ CanP st t g k (i + 1) (Rd st c P) := by
  constructor
  · rintro ⟨q, hq, m, ha⟩
    induction m generalizing q with
    | zero =>
      cases ha with
      | here => exact .inl ⟨hq, rfl⟩
    | succ m ih =>
      cases ha with
      | step hs ha =>
        rename_i q' i'
        unfold Step at hs
        dsimp only at hs
        rcases hs with ⟨h2, rfl, h⟩ | ⟨h3, hb', rfl, rfl⟩ | ⟨h4, he', rfl, rfl⟩ | ⟨h1, rfl, rfl, c, hc', hh⟩
        · refine ih q' (hc q hq _ ?_) ha
          unfold goes
          rw [if_pos h2]
          simp only [List.mem_cons, List.not_mem_nil, or_false]
          exact h.symm
        · refine ih _ (hc q hq _ ?_) ha
          unfold goes
          rw [if_neg (by omega), if_pos (.inl ⟨h3, hb hb'⟩)]
          simp
        · refine ih _ (hc q hq _ ?_) ha
          unfold goes
          rw [if_neg (by omega), if_pos (.inr ⟨h4, he he'⟩)]
          simp
        · exact .inr ⟨c, hc', _, ⟨q, hq, h1, hh, rfl⟩, m, ha⟩
  · rintro (⟨h, rfl⟩ | ⟨c, hc', q', hq', m, ha⟩)
    · exact ⟨g, h, 0, .here⟩
    · obtain ⟨q, hq, h1, hh, rfl⟩ := hq'
      exact ⟨q, hq, m + 1, .step (.inr (.inr (.inr ⟨h1, rfl, rfl, c, hc', hh⟩))) ha⟩
def Mt (st : List Nd) (g : Nat) (t : List Nat) (n : Nat) : Prop := ∃ j, j ≤ n ∧ ∃ k m, Acc st (t.take n) g k m 0 j
def Trk (st : List Nd) (g : Nat) (t : List Nat) (i : Nat) (P : Nat → Prop) : Prop :=
  ∀ u : List Nat, (∀ p, p < i → u[p]? = t[p]?) → ∀ k, i ≤ k → (CanP st u g k i P ↔ ∃ j, j ≤ i ∧ ∃ m, Acc st u g k m 0 j)
def Old (st : List Nd) (g : Nat) (t : List Nat) (i : Nat) : Prop := ∀ j k m, k < i → ¬ Acc st t g k m 0 j
theorem trk_0 {st : List Nd} {g : Nat} {t : List Nat} {P : Nat → Prop} (h : ∀ q, P q ↔ q = 0) : Trk st g t 0 P := fun u _ k _ =>
  ⟨fun ⟨q, hq, m, ha⟩ => ⟨0, by omega, m, by rw [(h q).1 hq] at ha; exact ha⟩, fun ⟨j, hj, m, ha⟩ => ⟨0, (h 0).2 rfl, m, by rw [show j = 0 by omega] at ha; exact ha⟩⟩
theorem trk_congr {st : List Nd} {g : Nat} {t : List Nat} {i : Nat} {P P' : Nat → Prop} (h : Trk st g t i P) (e : ∀ q, P' q ↔ P q) : Trk st g t i P' := by
  have : P' = P := funext fun q => propext (e q)
  rw [this]; exact h
theorem bol_agree {t u : List Nat} {i : Nat} (h : ∀ p, p < i → u[p]? = t[p]?) : bolAt u i ↔ bolAt t i := by
  unfold bolAt
  by_cases h0 : i = 0
  · simp [h0]
  · rw [h _ (by omega)]
theorem trk_cl {st : List Nd} {g : Nat} {t : List Nat} {i : Nat} {bol : Bool} {P : Nat → Prop} (h : Trk st g t i P) (hb : bol = true ↔ bolAt t i) : Trk st g t i (Cl st bol false P) := fun u hu k hk => by
  rw [canP_cl (fun hh => (bol_agree hu).2 (hb.1 hh)) (fun hh => absurd hh (by decide))]
  exact h u hu k hk
theorem trk_step {st : List Nd} {g : Nat} {t : List Nat} {i c : Nat} {bol eol : Bool} {P P' : Nat → Prop} (h : Trk st g t i P) (hb : bol = true ↔ bolAt t i) (hc : t[i]? = some c) (he : eol = true ↔ c = 10)
    (hP' : ∀ q, P' q ↔ Rd st c (Cl st bol eol P) q ∨ q = 0) : Trk st g t (i + 1) P' := fun u hu k hk => by
  have hui : u[i]? = some c := by rw [hu i (by omega), hc]
  have hu' : ∀ p, p < i → u[p]? = t[p]? := fun p hp => hu p (by omega)
  have heol : eol = true ↔ eolAt u i := by unfold eolAt; rw [hui, he]; simp
  have hbol : bol = true ↔ bolAt u i := hb.trans (bol_agree hu').symm
  have h1 := h u hu' k (by omega)
  rw [← canP_cl (bol := bol) (eol := eol) hbol.1 heol.1, canP_read (fun j hj s hs => hj.closed hs) hbol.2 heol.2] at h1
  constructor
  · rintro ⟨q, hq, m, ha⟩
    rcases (hP' q).1 hq with hr | rfl
    · obtain ⟨j, hj, h2⟩ := h1.1 (.inr ⟨c, hui, q, hr, m, ha⟩)
      exact ⟨j, by omega, h2⟩
    · exact ⟨i + 1, by omega, m, ha⟩
  · rintro ⟨j, hj, m, ha⟩
    by_cases hji : j = i + 1
    · subst hji; exact ⟨0, (hP' 0).2 (.inr rfl), m, ha⟩
    · rcases h1.2 ⟨j, by omega, m, ha⟩ with ⟨_, rfl⟩ | ⟨c', hc', q, hq, h2⟩
      · omega
      · rw [hui] at hc'; cases hc'
        exact ⟨q, (hP' q).2 (.inl hq), h2⟩
theorem take_get {t : List Nat} {n p : Nat} : (t.take n)[p]? = if p < n then t[p]? else none := List.getElem?_take
theorem old_0 {st : List Nd} {g : Nat} {t : List Nat} : Old st g t 0 := fun j k m hk => by omega
theorem hit_here {st : List Nd} {g : Nat} {t : List Nat} {i : Nat} {bol : Bool} {P : Nat → Prop} (h : Trk st g t i P) (hb : bol = true ↔ bolAt t i) (hg : Cl st bol false P g) : Mt st g t i := by
  have hu : ∀ p, p < i → (t.take i)[p]? = t[p]? := fun p hp => by rw [take_get, if_pos hp]
  obtain ⟨j, hj, m, ha⟩ := ((trk_cl h hb) (t.take i) hu i (Nat.le_refl _)).1 ⟨g, hg, 0, .here⟩
  exact ⟨j, hj, i, m, ha⟩
theorem hit_eol {st : List Nd} {g : Nat} {t : List Nat} {i : Nat} {bol eol : Bool} {P : Nat → Prop} (h : Trk st g t i P) (hb : bol = true ↔ bolAt t i) (hc : t[i]? = some 10) (hg : Cl st bol eol P g) : Mt st g t (i + 1) := by
  have hu : ∀ p, p < i → (t.take (i + 1))[p]? = t[p]? := fun p hp => by rw [take_get, if_pos (by omega)]
  have he : eolAt (t.take (i + 1)) i := by unfold eolAt; rw [take_get, if_pos (by omega), hc]
  have h1 : CanP st (t.take (i + 1)) g i i P := (canP_cl (bol := bol) (eol := eol) (fun hh => (bol_agree hu).2 (hb.1 hh)) (fun _ => he)).1 ⟨g, hg, 0, .here⟩
  obtain ⟨j, hj, m, ha⟩ := (h _ hu i (Nat.le_refl _)).1 h1
  exact ⟨j, by omega, i, m, ha⟩
theorem miss_at {st : List Nd} {g : Nat} {t u : List Nat} {i : Nat} {bol eol : Bool} {P : Nat → Prop} (h : Trk st g t i P) (hb : bol = true ↔ bolAt t i) (hu : ∀ p, p < i → u[p]? = t[p]?) (he : eolAt u i → eol = true)
    (he2 : eol = true → eolAt u i) (hg : ¬ Cl st bol eol P g) : ∀ j m, ¬ Acc st u g i m 0 j := fun j m ha => by
  have hji := acc_le ha
  have hbol : bol = true ↔ bolAt u i := hb.trans (bol_agree hu).symm
  have h1 := (h u hu i (Nat.le_refl _)).2 ⟨j, hji, m, ha⟩
  rw [← canP_cl (bol := bol) (eol := eol) hbol.1 he2, canP_read (fun j hj s hs => hj.closed hs) hbol.2 he] at h1
  rcases h1 with ⟨h2, _⟩ | ⟨c, _, q, _, m2, ha2⟩
  · exact hg h2
  · have := acc_le ha2; omega
theorem miss_here {st : List Nd} {g : Nat} {t : List Nat} {i : Nat} {bol : Bool} {P : Nat → Prop} (ho : Old st g t i) (h : Trk st g t i P) (hb : bol = true ↔ bolAt t i) (hg : ¬ Cl st bol false P g) : ¬ Mt st g t i := by
  rintro ⟨j, hj, k, m, ha⟩
  have hu : ∀ p, p < i → (t.take i)[p]? = t[p]? := fun p hp => by rw [take_get, if_pos hp]
  have hne : ¬ eolAt (t.take i) i := fun h => by unfold eolAt at h; rw [take_get, if_neg (by omega)] at h; cases h
  by_cases hk : k < i
  · exact ho j k m hk (acc_agree ha fun p hp => by rw [take_get, if_pos (by omega)])
  · have hki : k ≤ i ∨ i < k := by omega
    rcases hki with hki | hki
    · obtain rfl : k = i := by omega
      exact miss_at h hb hu (fun h => absurd h hne) (fun h => absurd h (by decide)) hg j m ha
    · have h1 := (h _ hu k (by omega)).2 ⟨j, hj, m, ha⟩
      have hbol : bol = true ↔ bolAt (t.take i) i := hb.trans (bol_agree hu).symm
      rw [← canP_cl (bol := bol) (eol := false) hbol.1 (fun h => absurd h (by decide)), canP_read (fun j hj s hs => hj.closed hs) hbol.2 (fun h => absurd h hne)] at h1
      rcases h1 with ⟨_, rfl⟩ | ⟨c, hc, _⟩
      · omega
      · rw [take_get, if_neg (by omega)] at hc; cases hc
theorem old_step {st : List Nd} {g : Nat} {t : List Nat} {i c : Nat} {bol eol : Bool} {P : Nat → Prop} (ho : Old st g t i) (h : Trk st g t i P) (hb : bol = true ↔ bolAt t i) (hc : t[i]? = some c) (he : eol = true ↔ c = 10) (hg : ¬ Cl st bol eol P g) : Old st g t (i + 1) := fun j k m hk ha => by
  by_cases hki : k < i
  · exact ho j k m hki ha
  · obtain rfl : k = i := by omega
    have heol : eol = true ↔ eolAt t k := by unfold eolAt; rw [hc, he]; simp
    exact miss_at h hb (fun p _ => rfl) heol.2 heol.1 hg j m ha
end Go.Proofs.Ytaffcoiomggpfaa

/- Plain laws of lang: LangStays, LangLines. -/
namespace Go.Proofs.Ytaffcoiomggpfaa
open Go.V
set_option linter.constructorNameAsVariable false
set_option linter.unusedVariables false

theorem firstOf_feed {l : List Nd} {bs : List UInt8} (hv : validOf l = true) : firstOf l bs = (feed (buildOf l) false (bs.map UInt8.toNat) (startM (buildOf l) true)).found := by
  obtain ⟨b1, b2, b3, b4⟩ := build_facts hv
  unfold firstOf
  rw [if_pos hv]
  unfold feed
  rw [matched_again b1 (feedL_ok b1 (by omega) false _ _ (start_ok b1 (by omega) true))]
end Go.Proofs.Ytaffcoiomggpfaa

/- Only state 1 of an automaton is its match. -/
namespace Go.Proofs.Ytaffcoiomggpfaa
open Go.V
attribute [local irreducible] app
set_option linter.unusedVariables false

theorem setL_kinds {n : Nat} {v : Int} {st : List Nd} (h : ∀ x ∈ st, x.k ≠ 5) : ∀ x ∈ setL st n v, x.k ≠ 5 := by
  intro x hx
  obtain ⟨i, hi⟩ := List.mem_iff_getElem?.1 hx
  unfold setL at hi
  rw [List.getElem?_modify] at hi
  cases hs : st[i]? with
  | none => rw [hs] at hi; simp at hi
  | some y =>
    rw [hs] at hi
    have hy := h y (List.mem_iff_getElem?.2 ⟨i, hs⟩)
    simp at hi
    subst hi
    split <;> exact hy
theorem bd_app5 (l : List Nd) : ∀ (f n out : Nat) (st : List Nd), ∃ new, (bd l f n out st).2 = st ++ new ∧ ∀ x ∈ new, x.k ≠ 5
  | 0, n, out, st => ⟨[], by simp [bd], by simp⟩
  | f + 1, n, out, st => by
    unfold bd
    dsimp only
    split
    · exact ⟨_, rfl, by simp⟩
    split
    · exact ⟨_, rfl, by simp⟩
    split
    · exact ⟨_, rfl, by simp⟩
    split
    · obtain ⟨a, ha, ka⟩ := bd_app5 l f (l.getD n default).r.toNat out st
      obtain ⟨b, hb, kb⟩ := bd_app5 l f (l.getD n default).l.toNat (bd l f (l.getD n default).r.toNat out st).1 (bd l f (l.getD n default).r.toNat out st).2
      exact ⟨a ++ b, by rw [hb, ha, List.append_assoc], fun x hx => (List.mem_append.1 hx).elim (ka x) (kb x)⟩
    split
    · obtain ⟨a, ha, ka⟩ := bd_app5 l f (l.getD n default).l.toNat out st
      obtain ⟨b, hb, kb⟩ := bd_app5 l f (l.getD n default).r.toNat out (bd l f (l.getD n default).l.toNat out st).2
      refine ⟨a ++ (b ++ [⟨2, (bd l f (l.getD n default).l.toNat out st).1, (bd l f (l.getD n default).r.toNat out (bd l f (l.getD n default).l.toNat out st).2).1, 0, 0, 0, 0⟩]), ?_, fun x hx => ?_⟩
      · show _ ++ [_] = _
        rw [hb, ha, List.append_assoc, List.append_assoc]
      · rcases List.mem_append.1 hx with hx | hx
        · exact ka x hx
        · rcases List.mem_append.1 hx with hx | hx
          · exact kb x hx
          · obtain rfl := List.mem_singleton.1 hx; simp
    split
    · obtain ⟨a, ha, ka⟩ := bd_app5 l f (l.getD n default).l.toNat out st
      refine ⟨a ++ [_], by rw [ha, List.append_assoc], fun x hx => ?_⟩
      rcases List.mem_append.1 hx with hx | hx
      · exact ka x hx
      · obtain rfl := List.mem_singleton.1 hx; simp
    split
    · obtain ⟨a, ha, ka⟩ := bd_app5 l f (l.getD n default).l.toNat st.length (st ++ [⟨2, 0, out, 0, 0, 0, 0⟩])
      refine ⟨setL ([⟨2, 0, out, 0, 0, 0, 0⟩] ++ a) 0 ((bd l f (l.getD n default).l.toNat st.length (st ++ [⟨2, 0, out, 0, 0, 0, 0⟩])).1 : Nat), ?_, setL_kinds fun x hx => ?_⟩
      · rw [ha, List.append_assoc]
        exact setL_end st _ _
      · rcases List.mem_append.1 hx with hx | hx
        · obtain rfl := List.mem_singleton.1 hx; simp
        · exact ka x hx
    · exact ⟨[], by simp, by simp⟩
theorem build_five (l : List Nd) : ∀ j, j < (buildOf l).length → (((buildOf l).getD j default).k = 5 ↔ j = 1) := by
  obtain ⟨new, hnew, hk⟩ := bd_app5 l l.length (l.length - 1) 1 [⟨2, 0, 0, 0, 0, 0, 0⟩, ⟨5, 0, 0, 0, 0, 0, 0⟩]
  intro j hj
  unfold buildOf at hj ⊢
  rw [setLR_length] at hj
  rw [setLR_get]
  generalize bd l l.length (l.length - 1) 1 [⟨2, 0, 0, 0, 0, 0, 0⟩, ⟨5, 0, 0, 0, 0, 0, 0⟩] = X at hnew hj
  obtain ⟨first, T⟩ := X
  dsimp only at hnew hj ⊢
  subst hnew
  match j, hj with
  | 0, hj => rw [if_pos ⟨rfl, hj⟩]; simp
  | 1, hj => rw [if_neg (by omega)]; simp
  | j + 2, hj =>
    rw [if_neg (by omega)]
    have : (([⟨2, 0, 0, 0, 0, 0, 0⟩, ⟨5, 0, 0, 0, 0, 0, 0⟩] : List Nd) ++ new).getD (j + 2) default = new.getD j default := by simp [List.getD_eq_getElem?_getD]
    rw [this]
    have hjn : j < new.length := by simp at hj; omega
    have hx : new.getD j default = new[j] := by rw [List.getD_eq_getElem?_getD, List.getElem?_eq_getElem hjn]; rfl
    rw [hx]
    constructor
    · intro h; exact absurd h (hk _ (List.getElem_mem hjn))
    · intro h; omega
end Go.Proofs.Ytaffcoiomggpfaa
