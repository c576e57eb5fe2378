import Derived.Test.YtaffcoiomggpfaaVAuto2
import Derived.Test.YtaffcoiomggpfaaFr08
import Derived.Test.YtaffcoiomggpfaaVR08h
import Derived.Test.YtaffcoiomggpfaaVRegex3
import Derived.Test.YtaffcoiomggpfaaVMean
import Derived.Test.YtaffcoiomggpfaaVLang
/- Contracts of package jobmuxref08 (1): sets, kinds, lists. -/
namespace Go.Proofs.Ytaffcoiomggpfaa
open Go.V
attribute [local irreducible] app
set_option linter.constructorNameAsVariable false
set_option linter.unusedVariables false

theorem With_c {H : Heap} {s : S4} {b : Nat} {Q : QT} {E : ET} (hb : b ≤ 255)
    (hk : ∀ H', Ext H H' → Q (.agg (s.with1 b).cells) H') : Does Pr 108 #[.agg s.cells, .int .u8 b] H Q E := by
  refine zqp_fn _ _ _ _ _ Q E H ?_
  unfold zqp
  refine nw_ext fun i H1 hi he1 hc1 => ?_
  refine nw_ext fun j H2 hj he2 hc2 => ?_
  have hij : i ≠ j := ne_of hc1 hj
  have hc1 : H1 i = some (.cells s.cells 46 (0, 0)) := hc1
  have hc2 : H2 j = some (.cells S4.zero.cells 46 (0, 0)) := hc2
  have hx : IntKind.wrap .u8 (Int.tdiv (b : Int) 64) = ((b / 64 : Nat) : Int) := u8_nat (b / 64) (by omega)
  have hm : Int.tmod (b : Int) 64 = ((b % 64 : Nat) : Int) := rfl
  have h4 : b / 64 < 4 := by omega
  rw [hx, hm]
  simp only [add_at, Int.toNat_natCast, Nat.mul_one, Nat.zero_add]
  refine ⟨by decide, by decide, ⟨by omega, by omega⟩, ldI_at (he2 _ _ hc1) (S4.cells_get _ h4) ⟨by decide, by omega, ⟨by omega, by omega⟩, ?_⟩⟩
  refine wr_at (he2 _ _ hc1) (by simp [S4.cells]; omega) rfl ?_
  rw [S4.cells_put _ h4]
  refine ⟨_, _, _, _, S4.rd (s := s.with1 b) (Heap.set_self _ _ _), ?_⟩
  refine S4.wr (s.with1 b) (by rw [Heap.set_ne _ _ (Ne.symm hij)]; exact hc2) ?_
  refine ⟨_, _, _, _, S4.rd (s := s.with1 b) (Heap.set_self _ _ _), ?_⟩
  exact hk _ (((he1.trans he2).set hi _).set (he1.free hj) _)
theorem Has_c {H : Heap} {s : S4} {b : Nat} {Q : QT} {E : ET} (hb : b ≤ 255)
    (hk : ∀ H', Ext H H' → Q (.bool (s.has b)) H') : Does Pr 73 #[.agg s.cells, .int .u8 b] H Q E := by
  refine zqf_fn _ _ _ _ _ Q E H ?_
  unfold zqf
  refine nw_ext fun i H1 hi he1 hc1 => ?_
  have hc1 : H1 i = some (.cells s.cells 46 (0, 0)) := hc1
  have hx : IntKind.wrap .u8 (Int.tdiv (b : Int) 64) = ((b / 64 : Nat) : Int) := u8_nat (b / 64) (by omega)
  have hm : Int.tmod (b : Int) 64 = ((b % 64 : Nat) : Int) := rfl
  have h4 : b / 64 < 4 := by omega
  rw [hx, hm]
  simp only [add_at, Int.toNat_natCast, Nat.mul_one, Nat.zero_add]
  exact ⟨by decide, ⟨by omega, by omega⟩, ldI_at hc1 (S4.cells_get _ h4) ⟨by decide, by omega, hk _ he1⟩⟩
theorem Range_c {H : Heap} {a b : Nat} {Q : QT} {E : ET} (ha : a ≤ 255) (hb : b ≤ 255)
    (hk : ∀ H', Ext H H' → Q (.agg (S4.zero.with_ a b).cells) H') : Does Pr 122 #[.int .i64 a, .int .i64 b] H Q E := by
  refine zqk2_fn _ _ Q E H ?_
  unfold zqk2 zqk2_15
  refine nw_ext fun j H1 hj he1 hc1 => ?_
  refine nw_ext fun i H2 hi he2 hc2 => ?_
  have hij : j ≠ i := ne_of hc1 hi
  unfold zqk2_11 zqk2_8
  refine ⟨fun x Hc => ∃ n : Nat, x = ((a + n : Nat) : Int) ∧ n ≤ b + 1 - a ∧ Ext H Hc ∧ Hc i = some (.cells (S4.zero.withN a n).cells 46 (0, 0)) ∧ Hc j = some (.cells S4.zero.cells 46 (0, 0)),
    fun x _ => (b + 1 - x).toNat, ⟨0, by simp, by omega, he1.trans he2, hc2, he2 _ _ hc1⟩, ?_⟩
  rintro x Hc ⟨n, rfl, hn, he, hci, hcj⟩
  unfold zqk2_5
  refine sel_dec (fun hd => ?_) (fun hd => ?_)
  · unfold zqk2_3
    simp only [ptr_some]
    refine ⟨_, _, _, _, S4.rd hci, ?_⟩
    rw [u8_nat (a + n) (by omega)]
    refine With_c (s := S4.zero.withN a n) (b := a + n) (by omega) fun H5 he5 => ?_
    refine ⟨_, _, _, _, rfl, ?_⟩
    refine S4.wr (S4.zero.withN a (n + 1)) (he5 _ _ hci) ?_
    have hw : IntKind.wrap .i64 (((a + n : Nat) : Int) + 1) = ((a + (n + 1) : Nat) : Int) := by rw [IntWalk.i64_in _ (by omega)]; omega
    rw [hw]
    exact ⟨⟨n + 1, rfl, by omega, (he.trans he5).set (he1.free hi) _, Heap.set_self _ _ _, by rw [Heap.set_ne _ _ hij]; exact he5 _ _ hcj⟩, by omega⟩
  · have hn' : n = b + 1 - a := by omega
    subst hn'
    unfold zqk2_1
    simp only [ptr_some]
    refine ⟨_, _, _, _, S4.rd hci, S4.wr (S4.zero.with_ a b) hcj ⟨_, _, _, _, S4.rd (s := S4.zero.with_ a b) (Heap.set_self _ _ _), ?_⟩⟩
    exact hk _ (he.set hj _)
theorem Union_c {H : Heap} {s t : S4} {Q : QT} {E : ET}
    (hk : ∀ H', Ext H H' → Q (.agg (s.or t).cells) H') : Does Pr 117 #[.agg s.cells, .agg t.cells] H Q E := by
  refine zqt_fn _ _ _ _ _ _ _ _ Q E H ?_
  unfold zqt
  refine nw_ext fun i H1 hi he1 hc1 => ?_
  refine nw_ext fun j H2 hj he2 hc2 => ?_
  refine nw_ext fun k H3 hk3 he3 hc3 => ?_
  have hij : i ≠ j := ne_of hc1 hj
  have hik : i ≠ k := ne_of (he2 _ _ hc1) hk3
  have hc3 : H3 k = some (.cells S4.zero.cells 46 (0, 0)) := hc3
  have hjk : j ≠ k := ne_of hc2 hk3
  unfold zqt_11 zqt_8
  refine ⟨fun x Hc => ∃ n : Nat, x = (n : Nat) ∧ n ≤ 4 ∧ Ext H Hc ∧ Hc i = some (.cells (s.orN t n).cells 46 (0, 0)) ∧ Hc j = some (.cells t.cells 46 (0, 0)) ∧ Hc k = some (.cells S4.zero.cells 46 (0, 0)),
    fun x _ => (4 - x).toNat, ⟨0, by simp, by omega, (he1.trans he2).trans he3, he3 _ _ (he2 _ _ hc1), he3 _ _ hc2, hc3⟩, ?_⟩
  rintro x Hc ⟨n, rfl, hn, he, hci, hcj, hck⟩
  unfold zqt_5
  refine sel_dec (fun hd => ?_) (fun hd => ?_)
  · have h4 : n < 4 := by omega
    unfold zqt_3
    simp only [ptr_some, add_at, Int.toNat_natCast, Nat.mul_one, Nat.zero_add]
    refine ⟨⟨by omega, by omega⟩, ldI_at hci (S4.cells_get _ h4) ⟨⟨by omega, by omega⟩, ldI_at hcj (S4.cells_get _ h4) ⟨⟨by omega, by omega⟩, ?_⟩⟩⟩
    refine wr_at hci (by simp [S4.cells]; omega) rfl ?_
    rw [S4.cells_put _ h4]
    have hw : IntKind.wrap .i64 ((n : Int) + 1) = ((n + 1 : Nat) : Int) := by rw [IntWalk.i64_in _ (by omega)]; omega
    rw [hw]
    exact ⟨⟨n + 1, rfl, by omega, he.set hi _, Heap.set_self _ _ _, by rw [Heap.set_ne _ _ (Ne.symm hij)]; exact hcj, by rw [Heap.set_ne _ _ (Ne.symm hik)]; exact hck⟩, by omega⟩
  · obtain rfl : n = 4 := by omega
    unfold zqt_1
    simp only [ptr_some]
    refine ⟨_, _, _, _, S4.rd hci, S4.wr (s.or t) hck ⟨_, _, _, _, S4.rd (s := s.or t) (Heap.set_self _ _ _), ?_⟩⟩
    exact hk _ (he.set ((he1.trans he2).free hk3) _)
theorem Not_c {H : Heap} {s : S4} {Q : QT} {E : ET}
    (hk : ∀ H', Ext H H' → Q (.agg s.not.cells) H') : Does Pr 107 #[.agg s.cells] H Q E := by
  refine zqo_fn _ _ _ _ Q E H ?_
  unfold zqo
  refine nw_ext fun i H1 hi he1 hc1 => ?_
  refine nw_ext fun j H2 hj he2 hc2 => ?_
  have hij : i ≠ j := ne_of hc1 hj
  have hc2 : H2 j = some (.cells S4.zero.cells 46 (0, 0)) := hc2
  unfold zqo_11 zqo_8
  refine ⟨fun x Hc => ∃ n : Nat, x = (n : Nat) ∧ n ≤ 4 ∧ Ext H Hc ∧ Hc i = some (.cells (s.notN n).cells 46 (0, 0)) ∧ Hc j = some (.cells S4.zero.cells 46 (0, 0)),
    fun x _ => (4 - x).toNat, ⟨0, by simp, by omega, he1.trans he2, he2 _ _ hc1, hc2⟩, ?_⟩
  rintro x Hc ⟨n, rfl, hn, he, hci, hcj⟩
  unfold zqo_5
  refine sel_dec (fun hd => ?_) (fun hd => ?_)
  · have h4 : n < 4 := by omega
    unfold zqo_3
    simp only [ptr_some, add_at, Int.toNat_natCast, Nat.mul_one, Nat.zero_add]
    refine ⟨⟨by omega, by omega⟩, ldI_at hci (S4.cells_get _ h4) ⟨⟨by omega, by omega⟩, ?_⟩⟩
    refine wr_at hci (by simp [S4.cells]; omega) rfl ?_
    rw [S4.cells_put _ h4]
    have hw : IntKind.wrap .i64 ((n : Int) + 1) = ((n + 1 : Nat) : Int) := by rw [IntWalk.i64_in _ (by omega)]; omega
    rw [hw]
    exact ⟨⟨n + 1, rfl, by omega, he.set hi _, Heap.set_self _ _ _, by rw [Heap.set_ne _ _ (Ne.symm hij)]; exact hcj⟩, by omega⟩
  · obtain rfl : n = 4 := by omega
    unfold zqo_1
    simp only [ptr_some]
    refine ⟨_, _, _, _, S4.rd hci, S4.wr s.not hcj ⟨_, _, _, _, S4.rd (s := s.not) (Heap.set_self _ _ _), ?_⟩⟩
    exact hk _ (he.set (he1.free hj) _)
def markB (b : Nat) : Bool := decide (33 ≤ b ∧ b ≤ 47 ∨ 58 ≤ b ∧ b ≤ 64 ∨ 91 ≤ b ∧ b ≤ 96 ∨ 123 ≤ b ∧ b ≤ 126)
theorem mark_c {H : Heap} {b : Nat} {Q : QT} {E : ET} (hk : Q (.bool (markB b)) H) : Does Pr 123 #[.int .u8 b] H Q E := by
  refine zql2_fn _ Q E H ?_
  have yes : (33 ≤ b ∧ b ≤ 47 ∨ 58 ≤ b ∧ b ≤ 64 ∨ 91 ≤ b ∧ b ≤ 96 ∨ 123 ≤ b ∧ b ≤ 126) → Q (.bool true) H := fun h => by
    have e : markB b = true := decide_eq_true h
    rwa [e] at hk
  have no : ¬ (33 ≤ b ∧ b ≤ 47 ∨ 58 ≤ b ∧ b ≤ 64 ∨ 91 ≤ b ∧ b ≤ 96 ∨ 123 ≤ b ∧ b ≤ 126) → Q (.bool false) H := fun h => by
    have e : markB b = false := decide_eq_false h
    rwa [e] at hk
  have last : ¬ (33 ≤ b ∧ b ≤ 47 ∨ 58 ≤ b ∧ b ≤ 64 ∨ 91 ≤ b ∧ b ≤ 96) → 123 ≤ b → Q (.bool (decide ((b : Int) ≤ 126))) H := fun h h' => by
    have e : markB b = decide ((b : Int) ≤ 126) := by unfold markB; exact decide_eq_decide.2 (by omega)
    rwa [e] at hk
  unfold zql2
  repeat' (refine sel_dec (fun _ => ?_) (fun _ => ?_))
  all_goals first | exact yes (by omega) | exact no (by omega) | exact last (by omega) (by omega) | (exfalso; omega)
def named8 (c : Nat) : S4 × Bool × Bool :=
  if c = 110 then (S4.zero.with1 10, true, true) else if c = 116 then (S4.zero.with1 9, true, true) else if c = 114 then (S4.zero.with1 13, true, true)
  else if c = 100 then (S4.zero.with_ 48 57, false, true)
  else if c = 119 then (((S4.zero.with_ 97 122).or (S4.zero.with_ 65 90)).or ((S4.zero.with_ 48 57).or (S4.zero.with1 95)), false, true)
  else if c = 115 then (((S4.zero.with1 32).or (S4.zero.with_ 9 10)).or (S4.zero.with1 13), false, true)
  else if markB c = true then (S4.zero.with1 c, true, true) else (S4.zero, false, false)
theorem named8_c {H : Heap} {b : Nat} {Q : QT} {E : ET} (hb : b ≤ 255)
    (hk : ∀ H' s x y, Ext H H' → named8 b = (s, x, y) → Q (.tuple #[.agg s.cells, .bool x, .bool y]) H') : Does Pr 116 #[.int .u8 b] H Q E := by
  refine zqs_fn _ Q E H ?_
  unfold zqs
  refine nw_ext fun i H1 hi he1 hc1 => ?_
  have hc1 : H1 i = some (.cells S4.zero.cells 46 (0, 0)) := hc1
  have fin : ∀ (s : S4) (x y : Bool) (H5 : Heap), named8 b = (s, x, y) → Ext H1 H5 → wr ⟨i, 0, none⟩ [.int .u64 s.a, .int .u64 s.b, .int .u64 s.c, .int .u64 s.d] H5 fun H6 =>
      ∃ n1 n2 n3 n4 : Int, H6.rd ⟨i, 0, none⟩ 0 [(.int .u64 n1), (.int .u64 n2), (.int .u64 n3), (.int .u64 n4)] ∧ Q (.tuple #[.agg #[(.int .u64 n1), (.int .u64 n2), (.int .u64 n3), (.int .u64 n4)], .bool x, .bool y]) H6 := by
    intro s x y H5 hs he5
    exact S4.wr s (he5 _ _ hc1) ⟨_, _, _, _, S4.rd (s := s) (Heap.set_self _ _ _), hk _ s x y ((he1.trans he5).set hi _) hs⟩
  unfold zqs_6
  simp only [ptr_some]
  refine sel_beq (fun _ => ?_) (fun _ => ?_)
  · refine With_c (s := S4.zero) (b := 10) (by omega) fun H5 he5 => ?_
    exact ⟨_, _, _, _, rfl, fin (S4.zero.with1 10) true true H5 (by unfold named8; rw [if_pos (by omega)]) he5⟩
  refine sel_beq (fun _ => ?_) (fun _ => ?_)
  · refine With_c (s := S4.zero) (b := 9) (by omega) fun H5 he5 => ?_
    exact ⟨_, _, _, _, rfl, fin (S4.zero.with1 9) true true H5 (by unfold named8; rw [if_neg (by omega), if_pos (by omega)]) he5⟩
  refine sel_beq (fun _ => ?_) (fun _ => ?_)
  · refine With_c (s := S4.zero) (b := 13) (by omega) fun H5 he5 => ?_
    exact ⟨_, _, _, _, rfl, fin (S4.zero.with1 13) true true H5 (by unfold named8; rw [if_neg (by omega), if_neg (by omega), if_pos (by omega)]) he5⟩
  refine sel_beq (fun _ => ?_) (fun _ => ?_)
  · refine Range_c (a := 48) (b := 57) (by omega) (by omega) fun H5 he5 => ?_
    exact ⟨_, _, _, _, rfl, fin (S4.zero.with_ 48 57) false true H5 (by unfold named8; rw [if_neg (by omega), if_neg (by omega), if_neg (by omega), if_pos (by omega)]) he5⟩
  refine sel_beq (fun _ => ?_) (fun _ => ?_)
  · refine Range_c (a := 97) (b := 122) (by omega) (by omega) fun H5 he5 => ⟨_, _, _, _, rfl, ?_⟩
    refine Range_c (a := 65) (b := 90) (by omega) (by omega) fun H6 he6 => ⟨_, _, _, _, rfl, ?_⟩
    refine Union_c (s := S4.zero.with_ 97 122) (t := S4.zero.with_ 65 90) fun H7 he7 => ⟨_, _, _, _, rfl, ?_⟩
    refine Range_c (a := 48) (b := 57) (by omega) (by omega) fun H8 he8 => ⟨_, _, _, _, rfl, ?_⟩
    refine With_c (s := S4.zero) (b := 95) (by omega) fun H9 he9 => ⟨_, _, _, _, rfl, ?_⟩
    refine Union_c (s := S4.zero.with_ 48 57) (t := S4.zero.with1 95) fun H10 he10 => ⟨_, _, _, _, rfl, ?_⟩
    refine Union_c (s := (S4.zero.with_ 97 122).or (S4.zero.with_ 65 90)) (t := (S4.zero.with_ 48 57).or (S4.zero.with1 95)) fun H11 he11 => ⟨_, _, _, _, rfl, ?_⟩
    exact fin (((S4.zero.with_ 97 122).or (S4.zero.with_ 65 90)).or ((S4.zero.with_ 48 57).or (S4.zero.with1 95))) false true H11
      (by unfold named8; rw [if_neg (by omega), if_neg (by omega), if_neg (by omega), if_neg (by omega), if_pos (by omega)]) ((((((he5.trans he6).trans he7).trans he8).trans he9).trans he10).trans he11)
  refine sel_beq (fun _ => ?_) (fun _ => ?_)
  · refine With_c (s := S4.zero) (b := 32) (by omega) fun H5 he5 => ⟨_, _, _, _, rfl, ?_⟩
    refine Range_c (a := 9) (b := 10) (by omega) (by omega) fun H6 he6 => ⟨_, _, _, _, rfl, ?_⟩
    refine Union_c (s := S4.zero.with1 32) (t := S4.zero.with_ 9 10) fun H7 he7 => ⟨_, _, _, _, rfl, ?_⟩
    refine With_c (s := S4.zero) (b := 13) (by omega) fun H8 he8 => ⟨_, _, _, _, rfl, ?_⟩
    refine Union_c (s := (S4.zero.with1 32).or (S4.zero.with_ 9 10)) (t := S4.zero.with1 13) fun H9 he9 => ⟨_, _, _, _, rfl, ?_⟩
    exact fin (((S4.zero.with1 32).or (S4.zero.with_ 9 10)).or (S4.zero.with1 13)) false true H9
      (by unfold named8; rw [if_neg (by omega), if_neg (by omega), if_neg (by omega), if_neg (by omega), if_neg (by omega), if_pos (by omega)]) ((((he5.trans he6).trans he7).trans he8).trans he9)
  unfold zqs_3
  have base : named8 b = if markB b = true then (S4.zero.with1 b, true, true) else (S4.zero, false, false) := by
    unfold named8; rw [if_neg (by omega), if_neg (by omega), if_neg (by omega), if_neg (by omega), if_neg (by omega), if_neg (by omega)]
  refine mark_c ⟨_, rfl, sel_mk (fun hm => ?_) (fun hm => ?_)⟩
  · refine With_c (s := S4.zero) (b := b) hb fun H5 he5 => ⟨_, _, _, _, rfl, ?_⟩
    simp only [ptr_some]
    exact fin (S4.zero.with1 b) true true H5 (by rw [base, if_pos hm]) he5
  · unfold zqs_1
    simp only [ptr_some]
    exact fin S4.zero false false H1 (by rw [base, if_neg (by simp [hm])]) (Ext.refl _)
def only8 (s : S4) : Nat := ((List.range 256).find? s.has).getD 0
theorem only8_le (s : S4) : only8 s ≤ 255 := by
  unfold only8
  cases h : (List.range 256).find? s.has with
  | none => simp
  | some x => have := List.mem_of_find?_eq_some h; simp at this ⊢; omega
theorem range_find {p : Nat → Bool} {n m : Nat} (hn : ∀ k, k < n → p k = false) (h : p n = true) (hm : n < m) : (List.range m).find? p = some n := by
  rw [List.find?_eq_some_iff_getElem]
  refine ⟨h, n, by simpa using hm, by simp, fun j hj => by simp [hn j hj]⟩
set_option maxRecDepth 20000 in
theorem only8_c {H : Heap} {s : S4} {Q : QT} {E : ET}
    (hk : ∀ H', Ext H H' → Q (.int .i64 (only8 s : Nat)) H') : Does Pr 125 #[.agg s.cells] H Q E := by
  refine zqn2_fn _ _ _ _ Q E H ?_
  unfold zqn2
  refine nw_ext fun i H1 hi he1 hc1 => ?_
  have hc1 : H1 i = some (.cells s.cells 46 (0, 0)) := hc1
  unfold zqn2_14 zqn2_11
  refine ⟨fun x Hc => ∃ n : Nat, x = (n : Nat) ∧ n ≤ 256 ∧ Ext H1 Hc ∧ ∀ k, k < n → s.has k = false, fun x _ => (256 - x).toNat, ⟨0, rfl, by omega, Ext.refl _, by intro k hk; omega⟩, ?_⟩
  rintro x Hc ⟨n, rfl, hn, he, hf⟩
  unfold zqn2_8
  refine sel_dec (fun hd => ?_) (fun hd => ?_)
  · unfold zqn2_5
    simp only [ptr_some]
    refine ⟨_, _, _, _, S4.rd (he _ _ hc1), ?_⟩
    rw [u8_nat n (by omega)]
    refine Has_c (s := s) (by omega) fun H5 he5 => ⟨_, rfl, sel_mk (fun hh => ?_) (fun hh => ?_)⟩
    · have : only8 s = n := by unfold only8; rw [range_find hf hh (by omega)]; rfl
      rw [this] at hk
      exact hk _ ((he1.trans he).trans he5)
    · unfold zqn2_3
      have hw : IntKind.wrap .i64 ((n : Int) + 1) = ((n + 1 : Nat) : Int) := by rw [IntWalk.i64_in _ (by omega)]; omega
      rw [hw]
      refine ⟨⟨n + 1, rfl, by omega, he.trans he5, fun k hk => ?_⟩, by omega⟩
      by_cases h : k = n
      · subst h; exact hh
      · exact hf k (by omega)
  · unfold zqn2_1
    have : only8 s = 0 := by
      unfold only8
      rw [List.find?_eq_none.2 (fun x hx => by have := hf x (by simp at hx; omega); simp [this])]; rfl
    rw [this] at hk
    exact hk _ (he1.trans he)
end Go.Proofs.Ytaffcoiomggpfaa

/- Relations between places: package r09 (3): leaf; what nodes mean, without fuel. -/
namespace Go.Proofs.Ytaffcoiomggpfaa
open Go.V
attribute [local irreducible] app
set_option linter.constructorNameAsVariable false
set_option linter.unusedVariables false

theorem byt_get {H : Heap} {p : OA} {n c i : Nat} {bs : List UInt8} {w : UInt8} {K : Int → Prop} (h : Byt H p n c bs) (hw : bs[i]? = some w) (hK : K (w.toNat : Nat)) :
    (0 ≤ (i : Int) ∧ (i : Int) < ((n : Nat) : Int)) ∧ ptr p fun q => ldI .u8 (Addr.add q ((i : Int).toNat * 1)) H K := by
  obtain ⟨h1, h2, h3⟩ := h
  have hlt := (List.getElem?_eq_some_iff.1 hw).1
  refine ⟨⟨by omega, by omega⟩, ?_⟩
  cases p with
  | none =>
    have : bs.map byteV = [] := h3
    simp at this; subst this; simp at hlt
  | some ad =>
    have hcell : H.cell? (ad.add (0 + i)) = some (byteV w) := rd_get h3 (by simp [hw])
    rw [Nat.zero_add] at hcell
    simp only [ptr_some, Int.toNat_natCast, Nat.mul_one]
    exact ⟨(w.toNat : Nat), hcell, hK⟩
theorem byte_ten (w : UInt8) : (((w.toNat : Nat) : Int) == 10) = true ↔ w.toNat = 10 := by simp; omega
theorem text_at {bs : List UInt8} {i : Nat} {w : UInt8} (h : bs[i]? = some w) : (bs.map UInt8.toNat)[i]? = some w.toNat := by simp [h]
set_option maxHeartbeats 1000000 in
theorem rleaf_c {H : Heap} {x : Nd} {pt : OA} {nt ct : Nat} {bs : List UInt8} {Q : QT} {E : ET} (hn : nt < 65536) (hb : Byt H pt nt ct bs) (hkind : x.k = 1 ∨ x.k = 2 ∨ x.k = 8 ∨ x.k = 9)
    (hk : ∀ H' p c ad, RelA H H' p (nt + 1) (nt + 1) c ad (leafR x (bs.map UInt8.toNat)) → Q (.slice p (nt + 1) c) H') :
    Does Pr 88 #[.agg #[.int .i64 x.k, .int .i64 x.l, .int .i64 x.r, .int .u64 x.a, .int .u64 x.b, .int .u64 x.c, .int .u64 x.d], .slice pt nt ct] H Q E := by
  refine zqb1_fn _ _ _ _ _ _ _ _ _ _ Q E H ?_
  unfold zqb1
  refine nw_ext fun m H1 hm he1 hc1 => ?_
  replace hb := hb.ext he1
  have hlen := hb.1
  unfold zqb1_57 zqb1_54
  rw [wrap_succ (by omega)]
  refine rempty_c (n := nt + 1) (by omega) fun H2 p c ad h2 => ⟨_, _, _, rfl, ?_⟩
  unfold zqb1_50 zqb1_47
  refine ⟨fun y H' => ∃ i : Nat, y = (i : Nat) ∧ i ≤ nt + 1 ∧ RelA H1 H' p (nt + 1) (nt + 1) c ad (fun i' j' => i' < i ∧ leafR x (bs.map UInt8.toNat) i' j'), fun y _ => ((nt : Int) + 1 - y).toNat, ⟨0, rfl, by omega, h2.congr fun i k _ _ => by simp⟩, ?_⟩
  rintro y H3 ⟨i, rfl, hin, h3⟩
  unfold zqb1_44
  refine sel_dec (fun hle => ?_) (fun hgt => ?_)
  · have hlt : i < nt + 1 := by omega
    have hb3 := hb.ext h3.1
    have hc3 : H3 m = some (.cells #[.int .i64 x.k, .int .i64 x.l, .int .i64 x.r, .int .u64 x.a, .int .u64 x.b, .int .u64 x.c, .int .u64 x.d] 48 (0, 0)) := h3.1 _ _ hc1
    have step : ∀ (R : Nat → Nat → Prop) (H' : Heap), RelA H1 H' p (nt + 1) (nt + 1) c ad R → (∀ i' j', i' < nt + 1 → j' < nt + 1 → (R i' j' ↔ i' < i + 1 ∧ leafR x (bs.map UInt8.toNat) i' j')) →
        zqb1_3 (fun x7' H1' => (∃ i : Nat, x7' = (i : Nat) ∧ i ≤ nt + 1 ∧ RelA H1 H1' p (nt + 1) (nt + 1) c ad (fun i' j' => i' < i ∧ leafR x (bs.map UInt8.toNat) i' j')) ∧ ((nt : Int) + 1 - x7').toNat < ((nt : Int) + 1 - (i : Nat)).toNat)
          Q E pt nt ct (some ⟨m, 0, none⟩) nt p (nt + 1) c i H' := by
      intro R H' h' e
      unfold zqb1_3
      rw [wrap_succ (by omega)]
      exact ⟨⟨i + 1, rfl, by omega, h'.congr e⟩, by omega⟩
    -- one pair on the diagonal is set
    have diag : ∀ (v : Bool) (H' : Heap), (∀ j', leafR x (bs.map UInt8.toNat) i j' ↔ j' = i ∧ v = true) → RelA H1 H' p (nt + 1) (nt + 1) c ad (upd (fun i' j' => i' < i ∧ leafR x (bs.map UInt8.toNat) i' j') i i v) →
        zqb1_3 (fun x7' H1' => (∃ i : Nat, x7' = (i : Nat) ∧ i ≤ nt + 1 ∧ RelA H1 H1' p (nt + 1) (nt + 1) c ad (fun i' j' => i' < i ∧ leafR x (bs.map UInt8.toNat) i' j')) ∧ ((nt : Int) + 1 - x7').toNat < ((nt : Int) + 1 - (i : Nat)).toNat)
          Q E pt nt ct (some ⟨m, 0, none⟩) nt p (nt + 1) c i H' := by
      intro v H' hv h'
      refine step _ H' h' fun i' j' _ _ => ?_
      unfold upd
      by_cases e : i' = i
      · subst e
        rw [hv]
        constructor
        · rintro (h | h)
          · exact ⟨by omega, h.2⟩
          · omega
        · rintro ⟨_, h⟩; exact .inl ⟨rfl, h⟩
      · constructor
        · rintro (h | h)
          · exact absurd h.1 e
          · exact ⟨by omega, h.2.2⟩
        · rintro ⟨h1, h2⟩; exact .inr ⟨fun h => e h.1, by omega, h2⟩
    unfold zqb1_39
    simp only [ptr_some]
    refine ldI_at (n := x.k) hc3 rfl ?_
    unfold zqb1_35 zqb1_33
    refine sel_beq (fun h1 => ?_) (fun h1 => ?_)
    · unfold zqb1_5
      refine vec_row h3.2.1 hlt (h3.put hlt hlt fun H4 h4 => diag true H4 (fun j' => ?_) h4)
      unfold leafR
      rw [if_neg (by omega), if_neg (by omega), if_neg (by omega)]; simp
    unfold zqb1_30 zqb1_28
    refine sel_beq (fun h8 => ?_) (fun h8 => ?_)
    · have hl : ∀ j', leafR x (bs.map UInt8.toNat) i j' ↔ j' = i ∧ bolAt (bs.map UInt8.toNat) i := fun j' => by
        unfold leafR
        rw [if_neg (by omega), if_pos h8]
      unfold zqb1_7
      refine vec_row h3.2.1 hlt (sel_beq (fun h0 => ?_) (fun h0 => ?_))
      · refine h3.put hlt hlt fun H4 h4 => diag true H4 (fun j' => ?_) h4
        rw [hl]
        exact and_congr_right fun _ => ⟨fun _ => rfl, fun _ => .inl (by omega)⟩
      · have hi1 : i - 1 < bs.length := by omega
        have hw : IntKind.wrap .i64 ((i : Int) - 1) = ((i - 1 : Nat) : Int) := by rw [IntWalk.i64_in _ (by omega)]; omega
        rw [hw]
        have hbk : bs[i - 1]? = some bs[i - 1] := List.getElem?_eq_getElem hi1
        generalize bs[i - 1] = w at hbk
        refine byt_get hb3 hbk (h3.put hlt hlt fun H4 h4 => diag _ H4 (fun j' => ?_) h4)
        rw [hl, byte_ten]
        refine and_congr_right fun _ => ?_
        unfold bolAt
        rw [text_at hbk]
        constructor
        · rintro (h | h)
          · omega
          · exact Option.some.inj h
        · intro h; exact .inr (by rw [h])
    unfold zqb1_25 zqb1_23
    refine sel_beq (fun h9 => ?_) (fun h9 => ?_)
    · have hl : ∀ j', leafR x (bs.map UInt8.toNat) i j' ↔ j' = i ∧ eolAt (bs.map UInt8.toNat) i := fun j' => by
        unfold leafR
        rw [if_neg (by omega), if_neg (by omega), if_pos h9]
      unfold zqb1_9
      refine vec_row h3.2.1 hlt (sel_dec (fun hi => ?_) (fun hi => ?_))
      · have hi1 : i < bs.length := by omega
        have hbk : bs[i]? = some bs[i] := List.getElem?_eq_getElem hi1
        generalize bs[i] = w at hbk
        refine byt_get hb3 hbk (h3.put hlt hlt fun H4 h4 => diag _ H4 (fun j' => ?_) h4)
        rw [hl, byte_ten]
        refine and_congr_right fun _ => ?_
        unfold eolAt
        rw [text_at hbk]; simp
      · refine h3.put hlt hlt fun H4 h4 => diag false H4 (fun j' => ?_) h4
        rw [hl]
        refine and_congr_right fun _ => ?_
        unfold eolAt
        rw [List.getElem?_eq_none (by simp; omega)]; simp
    unfold zqb1_20 zqb1_18
    refine sel_beq (fun h2 => ?_) (fun h2 => by omega)
    unfold zqb1_13
    have hl : ∀ i' j', leafR x (bs.map UInt8.toNat) i' j' ↔ j' = i' + 1 ∧ ∃ b, (bs.map UInt8.toNat)[i']? = some b ∧ x.set.has b = true := fun i' j' => by
      unfold leafR
      rw [if_pos h2]
    refine sel_dec (fun hi => ?_) (fun hi => ?_)
    · have hi1 : i < bs.length := by omega
      have hbk : bs[i]? = some bs[i] := List.getElem?_eq_getElem hi1
      generalize bs[i] = w at hbk
      have hw255 : w.toNat ≤ 255 := by have := w.toNat_lt; omega
      simp only [ptr_some]
      refine ⟨x.a, x.b, x.c, x.d, rd_at hc3 _ 3 0 fun j hj => by
        simp only [List.length_cons, List.length_nil] at hj
        match j, hj with
        | 0, _ => rfl
        | 1, _ => rfl
        | 2, _ => rfl
        | 3, _ => rfl, ?_⟩
      refine byt_get hb3 hbk ?_
      refine Has_c (s := x.set) hw255 fun H4 he4 => ⟨_, rfl, ?_⟩
      have h4 : RelA H1 H4 p (nt + 1) (nt + 1) c ad (fun i' j' => i' < i ∧ leafR x (bs.map UInt8.toNat) i' j') :=
        ⟨h3.1.trans he4, h3.2.1.ext he4, fun j hj => ⟨he4 _ _ (h3.2.2.1 j hj).1, (h3.2.2.1 j hj).2⟩, h3.2.2.2.1, h3.2.2.2.2⟩
      unfold zqb1_11
      refine sel_mk (fun ht => ?_) (fun hf => ?_)
      · rw [wrap_succ (by omega)]
        refine vec_row h4.2.1 hlt (h4.put (k := i + 1) hlt (by omega) fun H5 h5 => step _ H5 h5 fun i' j' _ _ => ?_)
        unfold upd
        by_cases e : i' = i
        · subst e
          rw [hl, text_at hbk]
          constructor
          · rintro (h | h)
            · exact ⟨by omega, h.2.1, _, rfl, ht⟩
            · omega
          · rintro ⟨_, h, _⟩; exact .inl ⟨rfl, h, rfl⟩
        · constructor
          · rintro (h | h)
            · exact absurd h.1 e
            · exact ⟨by omega, h.2.2⟩
          · rintro ⟨h1, h2⟩; exact .inr ⟨fun h => e h.1, by omega, h2⟩
      · refine step _ H4 h4 fun i' j' _ _ => ?_
        by_cases e : i' = i
        · subst e
          rw [hl, text_at hbk]
          constructor
          · rintro ⟨h, _⟩; omega
          · rintro ⟨_, _, b, hb1, hb2⟩
            rw [Option.some.inj hb1] at hf
            rw [hf] at hb2; cases hb2
        · have : i' < i ↔ i' < i + 1 := by omega
          rw [this]
    · unfold zqb1_11
      refine sel_ff (step _ H3 h3 fun i' j' _ _ => ?_)
      by_cases e : i' = i
      · subst e
        rw [hl, List.getElem?_eq_none (by simp; omega)]
        constructor
        · rintro ⟨h, _⟩; omega
        · rintro ⟨_, _, b, hb1, _⟩; cases hb1
      · have : i' < i ↔ i' < i + 1 := by omega
        rw [this]
  · obtain rfl : i = nt + 1 := by omega
    unfold zqb1_1
    exact hk H3 p c ad ((h3.base he1).congr fun i' j' hi' _ => ⟨fun h => h.2, fun h => ⟨hi', h⟩⟩)
/-! ### The meaning without fuel -/
theorem kids_of {l : List Nd} {g : Nat → Nat} (hz : Sz l g) {n : Nat} (hn : n < l.length) :
    ((l.getD n default).k = 3 ∨ (l.getD n default).k = 4 → (l.getD n default).l.toNat < n ∧ (l.getD n default).r.toNat < n ∧ 0 ≤ (l.getD n default).l ∧ 0 ≤ (l.getD n default).r) ∧
    ((l.getD n default).k = 5 ∨ (l.getD n default).k = 6 ∨ (l.getD n default).k = 7 → (l.getD n default).l.toNat < n ∧ 0 ≤ (l.getD n default).l) ∧
    (¬ ((l.getD n default).k = 3 ∨ (l.getD n default).k = 4 ∨ (l.getD n default).k = 5 ∨ (l.getD n default).k = 6 ∨ (l.getD n default).k = 7) → (l.getD n default).k = 1 ∨ (l.getD n default).k = 2 ∨ (l.getD n default).k = 8 ∨ (l.getD n default).k = 9) := by
  obtain ⟨x, hx⟩ : ∃ x, l[n]? = some x := ⟨_, List.getElem?_eq_getElem hn⟩
  have hxd : l.getD n default = x := by rw [List.getD_eq_getElem?_getD, hx]; rfl
  obtain ⟨g1, g2, g3⟩ := hz n x hx
  rw [hxd]
  have hkk : (kidsOf x.k = 0 → x.k = 1 ∨ x.k = 2 ∨ x.k = 8 ∨ x.k = 9) ∧ (kidsOf x.k = 1 → x.k = 5 ∨ x.k = 6 ∨ x.k = 7) ∧ (kidsOf x.k = 2 → x.k = 3 ∨ x.k = 4) := by
    unfold kidsOf
    split
    · simp; omega
    · split
      · simp; omega
      · split <;> simp <;> omega
  refine ⟨fun h => ?_, fun h => ?_, fun h => ?_⟩
  · rcases g3 with g3 | g3 | g3
    · have := hkk.1 g3; omega
    · have := hkk.2.1 g3.1; omega
    · omega
  · rcases g3 with g3 | g3 | g3
    · have := hkk.1 g3; omega
    · omega
    · have := hkk.2.2 g3.1; omega
  · rcases g3 with g3 | g3 | g3
    · exact hkk.1 g3
    · have := hkk.2.1 g3.1; omega
    · have := hkk.2.2 g3.1; omega
theorem mean_fuel {t : List Nat} {l : List Nd} {g : Nat → Nat} (hz : Sz l g) : ∀ (f f' n : Nat), n < l.length → n < f → n < f' → mean t l f n = mean t l f' n
  | 0, _, _, _, h, _ => by omega
  | f + 1, 0, _, _, _, h => by omega
  | f + 1, f' + 1, n, hn, h1, h2 => by
    obtain ⟨k2, k1, _⟩ := kids_of hz hn
    funext i j
    unfold mean
    dsimp only
    have ih : ∀ c, c < n → mean t l f c = mean t l f' c := fun c hc => mean_fuel hz f f' c (by omega) (by omega) (by omega)
    split
    · rfl
    split
    · obtain ⟨a, b, _⟩ := k2 (.inl ‹_›); rw [ih _ a, ih _ b]
    split
    · obtain ⟨a, b, _⟩ := k2 (.inr ‹_›); rw [ih _ a, ih _ b]
    split
    · rw [ih _ (k1 (.inr (.inr ‹_›))).1]
    split
    · rw [ih _ (k1 (.inl ‹_›)).1]
    split
    · rw [ih _ (k1 (.inr (.inl ‹_›))).1]
    · rfl
def mn (t : List Nat) (l : List Nd) (n : Nat) : Nat → Nat → Prop := mean t l (n + 1) n
theorem mean_mn {t : List Nat} {l : List Nd} {g : Nat → Nat} (hz : Sz l g) {f n : Nat} (hn : n < l.length) (hf : n < f) : mean t l f n = mn t l n := mean_fuel hz f (n + 1) n hn hf (by omega)
theorem mn_eq {t : List Nat} {l : List Nd} {g : Nat → Nat} (hz : Sz l g) {n : Nat} (hn : n < l.length) (i j : Nat) : mn t l n i j =
    if (l.getD n default).k = 2 ∨ (l.getD n default).k = 8 ∨ (l.getD n default).k = 9 then leafR (l.getD n default) t i j
    else if (l.getD n default).k = 3 then ∃ m, mn t l (l.getD n default).l.toNat i m ∧ mn t l (l.getD n default).r.toNat m j
    else if (l.getD n default).k = 4 then mn t l (l.getD n default).l.toNat i j ∨ mn t l (l.getD n default).r.toNat i j
    else if (l.getD n default).k = 7 then mn t l (l.getD n default).l.toNat i j ∨ j = i
    else if (l.getD n default).k = 5 then Star (mn t l (l.getD n default).l.toNat) i j
    else if (l.getD n default).k = 6 then ∃ m, mn t l (l.getD n default).l.toNat i m ∧ Star (mn t l (l.getD n default).l.toNat) m j
    else j = i := by
  obtain ⟨k2, k1, _⟩ := kids_of hz hn
  have ih : ∀ c, c < n → mean t l n c = mn t l c := fun c hc => mean_mn hz (by omega) hc
  unfold mn
  conv => lhs; unfold mean
  dsimp only
  split
  · rfl
  split
  · obtain ⟨a, b, _⟩ := k2 (.inl ‹_›); rw [ih _ a, ih _ b]; rfl
  split
  · obtain ⟨a, b, _⟩ := k2 (.inr ‹_›); rw [ih _ a, ih _ b]; rfl
  split
  · rw [ih _ (k1 (.inr (.inr ‹_›))).1]; rfl
  split
  · rw [ih _ (k1 (.inl ‹_›)).1]; rfl
  split
  · rw [ih _ (k1 (.inr (.inl ‹_›))).1]; rfl
  · rfl
theorem star_le {R : Nat → Nat → Prop} {N : Nat} (hR : ∀ i j, R i j → i ≤ j ∧ (i ≤ N → j ≤ N)) {i j : Nat} (h : Star R i j) : i ≤ j ∧ (i ≤ N → j ≤ N) := by
  induction h with
  | none i => exact ⟨Nat.le_refl _, id⟩
  | more h1 _ ih =>
    have := hR _ _ h1
    exact ⟨by omega, fun h => ih.2 (this.2 h)⟩
theorem leafR_le {x : Nd} {t : List Nat} {i j : Nat} (h : leafR x t i j) : i ≤ j ∧ (i ≤ t.length → j ≤ t.length) := by
  unfold leafR at h
  split at h
  · obtain ⟨rfl, b, hb, _⟩ := h
    have := (List.getElem?_eq_some_iff.1 hb).1
    exact ⟨by omega, fun _ => by omega⟩
  · split at h
    · exact ⟨by omega, fun _ => by omega⟩
    · split at h <;> exact ⟨by omega, fun _ => by omega⟩
theorem mean_le {t : List Nat} {l : List Nd} : ∀ (f n i j : Nat), mean t l f n i j → i ≤ j ∧ (i ≤ t.length → j ≤ t.length)
  | 0, n, i, j, h => by
    have h : j = i := h
    exact ⟨by omega, fun _ => by omega⟩
  | f + 1, n, i, j, h => by
    unfold mean at h
    dsimp only at h
    split at h
    · exact leafR_le h
    split at h
    · obtain ⟨m, h1, h2⟩ := h
      have a := mean_le f _ i m h1
      have b := mean_le f _ m j h2
      exact ⟨by omega, fun h => b.2 (a.2 h)⟩
    split at h
    · exact h.elim (mean_le f _ i j) (mean_le f _ i j)
    split at h
    · exact h.elim (mean_le f _ i j) (fun h => ⟨by omega, fun _ => by omega⟩)
    split at h
    · exact star_le (fun i j h => mean_le f _ i j h) h
    split at h
    · obtain ⟨m, h1, h2⟩ := h
      have a := mean_le f _ i m h1
      have b := star_le (fun i j h => mean_le f _ i j h) h2
      exact ⟨by omega, fun h => b.2 (a.2 h)⟩
    · exact ⟨by omega, fun _ => by omega⟩
theorem mn_le {t : List Nat} {l : List Nd} {n i j : Nat} (h : mn t l n i j) : i ≤ j ∧ (i ≤ t.length → j ≤ t.length) := mean_le _ _ _ _ h
end Go.Proofs.Ytaffcoiomggpfaa

/- Spreading reaches what can be reached without a byte. -/
namespace Go.Proofs.Ytaffcoiomggpfaa
open Go.V
attribute [local irreducible] app
set_option linter.unusedVariables false

inductive Rch (st : List Nd) (bol eol : Bool) : Nat → Nat → Prop where
  | here (j : Nat) : Rch st bol eol j j
  | more {j s k : Nat} : s ∈ goes st bol eol j → Rch st bol eol s k → Rch st bol eol j k
theorem Rch.snoc {st : List Nd} {bol eol : Bool} {j s k : Nat} (h : Rch st bol eol j s) (hk : k ∈ goes st bol eol s) : Rch st bol eol j k := by
  induction h with
  | here j => exact .more hk (.here _)
  | more h1 _ ih => exact .more h1 (ih hk)
theorem spreadL_from {st : List Nd} (bol eol : Bool) {P : Nat → Prop} (hP : ∀ j, P j → ∀ s ∈ goes st bol eol j, P s) : ∀ (f i : Nat) (m : Bool) (l : List Nat), (∀ j ∈ l, P j) → ∀ j ∈ (spreadL st bol eol f i m l).1, P j
  | 0, i, m, l, hl, j, hj => hl j hj
  | f + 1, i, m, l, hl, j, hj => by
    rw [spreadL_step] at hj
    split at hj
    · rename_i hlt
      refine spreadL_from bol eol hP f (i + 1) _ _ (fun k hk => ?_) j hj
      rcases ((foldl_addL _ l).2 k).1 hk with hk | hk
      · exact hl k hk
      · refine hP _ (hl _ ?_) k hk
        rw [List.getD_eq_getElem?_getD, List.getElem?_eq_getElem hlt]
        exact List.getElem_mem hlt
    · exact hl j hj
theorem spread_mem {st : List Nd} (hr : InR st) (bol eol : Bool) {l : List Nat} (ho : OkL st.length l) (k : Nat) : k ∈ (spread st bol eol l).1 ↔ ∃ j ∈ l, Rch st bol eol j k := by
  have h1 := spreadL_spec hr bol eol (st.length + 1) 0 false l ho (by omega) (by omega) (by simp) (by simp)
  change (∃ r, (spread st bol eol l).1 = l ++ r) ∧ (∀ j ∈ (spread st bol eol l).1, ∀ s ∈ goes st bol eol j, s ∈ (spread st bol eol l).1) ∧ (spread st bol eol l).2 = (spread st bol eol l).1.any (isM st) at h1
  obtain ⟨⟨r, e⟩, hc, _⟩ := h1
  constructor
  · exact fun hk => spreadL_from bol eol (P := fun k => ∃ j ∈ l, Rch st bol eol j k) (fun j ⟨j0, h0, hr0⟩ s hs => ⟨j0, h0, hr0.snoc hs⟩) _ _ _ _ (fun j hj => ⟨j, hj, .here j⟩) k hk
  · rintro ⟨j, hj, hrch⟩
    have hj' : j ∈ (spread st bol eol l).1 := by rw [e]; exact List.mem_append_left _ hj
    clear hj
    induction hrch with
    | here j => exact hj'
    | more h1 _ ih => exact ih (hc _ hj' _ h1)
theorem spread_match {st : List Nd} (hr : InR st) (bol eol : Bool) {l : List Nat} (ho : OkL st.length l) : (spread st bol eol l).2 = (spread st bol eol l).1.any (isM st) := by
  have h1 := spreadL_spec hr bol eol (st.length + 1) 0 false l ho (by omega) (by omega) (by simp) (by simp)
  exact h1.2.2
end Go.Proofs.Ytaffcoiomggpfaa

/- The automaton of a pattern leads where the pattern leads. -/
namespace Go.Proofs.Ytaffcoiomggpfaa
open Go.V
attribute [local irreducible] app
set_option linter.unusedVariables false

def Has (st st1 : List Nd) (lo : Nat) : Prop := ∀ i, lo ≤ i → i < st1.length → st.getD i default = st1.getD i default
theorem getD_left {a b : List Nd} {i : Nat} (h : i < a.length) : (a ++ b).getD i default = a.getD i default := by
  rw [List.getD_eq_getElem?_getD, List.getD_eq_getElem?_getD, List.getElem?_append_left h]
theorem getD_last (a : List Nd) (x : Nd) : (a ++ [x]).getD a.length default = x := by simp [List.getD_eq_getElem?_getD]
theorem Has.part {st a b : List Nd} {lo : Nat} (h : Has st (a ++ b) lo) : Has st a lo := fun i h1 h2 => by
  rw [h i h1 (by rw [List.length_append]; omega), getD_left h2]
theorem Has.from {st a : List Nd} {lo lo' : Nat} (h : Has st a lo) (hl : lo ≤ lo') : Has st a lo' := fun i h1 h2 => h i (Nat.le_trans hl h1) h2
theorem Has.last {st a : List Nd} {x : Nd} {lo : Nat} (h : Has st (a ++ [x]) lo) (hl : lo ≤ a.length) : st.getD a.length default = x := by
  rw [h a.length hl (by simp), getD_last]
theorem bd_len (l : List Nd) (f n out : Nat) (st : List Nd) : st.length ≤ (bd l f n out st).2.length := by
  obtain ⟨a, ha⟩ := bd_app l f n out st
  rw [ha, List.length_append]; omega
theorem setL_get (st : List Nd) (n : Nat) (v : Int) (i : Nat) : (setL st n v).getD i default = if i = n ∧ i < st.length then { st.getD i default with l := v } else st.getD i default := by
  unfold setL
  rw [List.getD_eq_getElem?_getD, List.getD_eq_getElem?_getD, List.getElem?_modify]
  by_cases h : n = i
  · subst h
    by_cases hl : n < st.length
    · rw [if_pos ⟨rfl, hl⟩, List.getElem?_eq_getElem hl]; simp
    · rw [if_neg (fun h => hl h.2), List.getElem?_eq_none (by omega)]; simp
  · rw [if_neg (fun h' => h h'.1.symm)]; simp [h]
theorem Has.loop {st st0 y : List Nd} {out first : Nat} {new : List Nd} (hy : y = (st0 ++ [⟨2, 0, out, 0, 0, 0, 0⟩]) ++ new) (h : Has st (setL y st0.length first) st0.length) :
    st.getD st0.length default = ⟨2, first, out, 0, 0, 0, 0⟩ ∧ Has st y (st0 ++ [(⟨2, 0, out, 0, 0, 0, 0⟩ : Nd)]).length := by
  have hl : (setL y st0.length first).length = y.length := by simp [setL]
  have hyl : st0.length < y.length := by rw [hy]; simp
  refine ⟨?_, fun i h1 h2 => ?_⟩
  · rw [h st0.length (Nat.le_refl _) (by omega), setL_get, if_pos ⟨rfl, hyl⟩, hy, getD_left (by simp), getD_last]
  · rw [List.length_append, List.length_singleton] at h1
    rw [h i (by omega) (by omega), setL_get, if_neg (by omega)]
variable {st : List Nd} {t : List Nat} {l : List Nd} {g k : Nat}
theorem up : ∀ (f n out : Nat) (st0 : List Nd) (i j : Nat), Has st (bd l f n out st0).2 st0.length → mean t l f n i j → (∃ m, Acc st t g k m out j) → ∃ m, Acc st t g k m (bd l f n out st0).1 i
  | 0, n, out, st0, i, j, _, hm, ha => by
    have hm : j = i := hm
    subst hm; exact ha
  | f + 1, n, out, st0, i, j, hh, hm, ha => by
    unfold mean at hm
    unfold bd at hh ⊢
    dsimp only at hm hh ⊢
    generalize l.getD n default = x at hm hh ⊢
    obtain ⟨m, ha⟩ := ha
    by_cases c2 : x.k = 2
    · rw [if_pos (.inl c2)] at hm
      rw [if_pos c2] at hh ⊢
      unfold leafR at hm
      rw [if_pos c2] at hm
      have hq := hh.last (Nat.le_refl _)
      obtain ⟨rfl, b, hb, hb'⟩ := hm
      refine ⟨m + 1, .step (.inr (.inr (.inr ?_))) ha⟩
      rw [hq]; exact ⟨rfl, rfl, rfl, b, hb, hb'⟩
    rw [if_neg c2] at hh ⊢
    by_cases c8 : x.k = 8
    · rw [if_pos (.inr (.inl c8))] at hm
      rw [if_pos c8] at hh ⊢
      unfold leafR at hm
      rw [if_neg c2, if_pos c8] at hm
      have hq := hh.last (Nat.le_refl _)
      obtain ⟨rfl, hb⟩ := hm
      refine ⟨m + 1, .step (.inr (.inl ?_)) ha⟩
      rw [hq]; exact ⟨rfl, hb, rfl, rfl⟩
    rw [if_neg c8] at hh ⊢
    by_cases c9 : x.k = 9
    · rw [if_pos (.inr (.inr c9))] at hm
      rw [if_pos c9] at hh ⊢
      unfold leafR at hm
      rw [if_neg c2, if_neg c8, if_pos c9] at hm
      have hq := hh.last (Nat.le_refl _)
      obtain ⟨rfl, hb⟩ := hm
      refine ⟨m + 1, .step (.inr (.inr (.inl ?_))) ha⟩
      rw [hq]; exact ⟨rfl, hb, rfl, rfl⟩
    rw [if_neg c9] at hh ⊢
    rw [if_neg (by rintro (h | h | h); · exact c2 h
                   · exact c8 h
                   · exact c9 h)] at hm
    by_cases c3 : x.k = 3
    · rw [if_pos c3] at hm hh ⊢
      obtain ⟨m', h1, h2⟩ := hm
      obtain ⟨nz, hz⟩ := bd_app l f x.l.toNat (bd l f x.r.toNat out st0).1 (bd l f x.r.toNat out st0).2
      have hl := bd_len l f x.r.toNat out st0
      refine up f x.l.toNat _ _ i m' (hh.from hl) h1 (up f x.r.toNat out st0 m' j ?_ h2 ⟨m, ha⟩)
      rw [hz] at hh; exact hh.part
    rw [if_neg c3] at hm hh ⊢
    by_cases c4 : x.k = 4
    · rw [if_pos c4] at hm hh ⊢
      obtain ⟨nz, hz⟩ := bd_app l f x.r.toNat out (bd l f x.l.toNat out st0).2
      have hl := bd_len l f x.l.toNat out st0
      have hl2 := bd_len l f x.r.toNat out (bd l f x.l.toNat out st0).2
      have hq := hh.last (Nat.le_trans hl hl2)
      have h2 := hh.part
      rcases hm with hm | hm
      · obtain ⟨m2, h3⟩ := up f x.l.toNat out st0 i j (by rw [hz] at h2; exact h2.part) hm ⟨m, ha⟩
        refine ⟨m2 + 1, .step (.inl ?_) h3⟩
        rw [hq]; exact ⟨rfl, rfl, .inl rfl⟩
      · obtain ⟨m2, h3⟩ := up f x.r.toNat out _ i j (h2.from hl) hm ⟨m, ha⟩
        refine ⟨m2 + 1, .step (.inl ?_) h3⟩
        rw [hq]; exact ⟨rfl, rfl, .inr rfl⟩
    rw [if_neg c4] at hm hh ⊢
    by_cases c7 : x.k = 7
    · rw [if_pos c7] at hm hh ⊢
      have hl := bd_len l f x.l.toNat out st0
      have hq := hh.last hl
      rcases hm with hm | rfl
      · obtain ⟨m2, h3⟩ := up f x.l.toNat out st0 i j hh.part hm ⟨m, ha⟩
        refine ⟨m2 + 1, .step (.inl ?_) h3⟩
        rw [hq]; exact ⟨rfl, rfl, .inl rfl⟩
      · refine ⟨m + 1, .step (.inl ?_) ha⟩
        rw [hq]; exact ⟨rfl, rfl, .inr rfl⟩
    rw [if_neg c7] at hm hh ⊢
    by_cases c56 : x.k = 5 ∨ x.k = 6
    · rw [if_pos c56] at hh ⊢
      obtain ⟨new, hnew⟩ := bd_app l f x.l.toNat st0.length (st0 ++ [⟨2, 0, out, 0, 0, 0, 0⟩])
      obtain ⟨hq, hin⟩ := Has.loop hnew hh
      have loop : ∀ i j, Star (mean t l f x.l.toNat) i j → (∃ m, Acc st t g k m out j) → ∃ m, Acc st t g k m st0.length i := by
        intro i j hs
        clear hm ha
        induction hs with
        | none i =>
          intro ⟨m, ha⟩
          refine ⟨m + 1, .step (.inl ?_) ha⟩
          rw [hq]; exact ⟨rfl, rfl, .inr rfl⟩
        | more h1 h2 ih =>
          intro ha
          obtain ⟨m2, h3⟩ := up f x.l.toNat st0.length (st0 ++ [⟨2, 0, out, 0, 0, 0, 0⟩]) _ _ hin h1 (ih ha)
          refine ⟨m2 + 1, .step (.inl ?_) h3⟩
          rw [hq]; exact ⟨rfl, rfl, .inl rfl⟩
      by_cases c5 : x.k = 5
      · rw [if_pos c5] at hm
        rw [if_neg (by omega)]
        exact loop i j hm ⟨m, ha⟩
      · rw [if_neg c5, if_pos (by omega)] at hm
        rw [if_pos (by omega)]
        obtain ⟨m', h1, h2⟩ := hm
        exact up f x.l.toNat st0.length _ i m' hin h1 (loop m' j h2 ⟨m, ha⟩)
    · rw [if_neg c56] at hh ⊢
      rw [if_neg (by omega), if_neg (by omega)] at hm
      subst hm; exact ⟨m, ha⟩
theorem step_split {a b : Int} {q i q' i' : Nat} (hq : st.getD q default = ⟨2, a, b, 0, 0, 0, 0⟩) (h : Step st t q i q' i') : i' = i ∧ (q' = a.toNat ∨ q' = b.toNat) := by
  unfold Step at h
  dsimp only at h
  rw [hq] at h
  rcases h with ⟨_, h1, h2⟩ | ⟨h, _⟩ | ⟨h, _⟩ | ⟨h, _⟩
  · exact ⟨h1, h2⟩
  all_goals simp at h
theorem down : ∀ (f n out : Nat) (st0 : List Nd) (i N : Nat), Has st (bd l f n out st0).2 st0.length → g < st0.length → Acc st t g k N (bd l f n out st0).1 i →
    ∃ j m, m ≤ N ∧ mean t l f n i j ∧ Acc st t g k m out j
  | 0, n, out, st0, i, N, _, _, ha => ⟨i, N, Nat.le_refl _, rfl, ha⟩
  | f + 1, n, out, st0, i, N, hh, hg, ha => by
    unfold mean
    unfold bd at hh ha
    dsimp only at hh ha ⊢
    generalize l.getD n default = x at hh ha ⊢
    by_cases c2 : x.k = 2
    · rw [if_pos c2] at hh ha
      have hq := hh.last (Nat.le_refl _)
      obtain ⟨m, q', i', rfl, hs, ha2⟩ := acc_step ha (by dsimp only; omega)
      unfold Step at hs
      dsimp only at hs
      rw [hq] at hs
      rcases hs with ⟨h, _⟩ | ⟨h, _⟩ | ⟨h, _⟩ | ⟨_, rfl, rfl, b, hb, hb'⟩
      · simp at h
      · simp at h
      · simp at h
      · refine ⟨i + 1, m, by omega, ?_, ha2⟩
        rw [if_pos (.inl c2)]; unfold leafR; rw [if_pos c2]
        exact ⟨rfl, b, hb, hb'⟩
    rw [if_neg c2] at hh ha
    by_cases c8 : x.k = 8
    · rw [if_pos c8] at hh ha
      have hq := hh.last (Nat.le_refl _)
      obtain ⟨m, q', i', rfl, hs, ha2⟩ := acc_step ha (by dsimp only; omega)
      unfold Step at hs
      dsimp only at hs
      rw [hq] at hs
      rcases hs with ⟨h, _⟩ | ⟨_, hb, rfl, rfl⟩ | ⟨h, _⟩ | ⟨h, _⟩
      · simp at h
      · refine ⟨i', m, by omega, ?_, ha2⟩
        rw [if_pos (.inr (.inl c8))]; unfold leafR; rw [if_neg c2, if_pos c8]
        exact ⟨rfl, hb⟩
      · simp at h
      · simp at h
    rw [if_neg c8] at hh ha
    by_cases c9 : x.k = 9
    · rw [if_pos c9] at hh ha
      have hq := hh.last (Nat.le_refl _)
      obtain ⟨m, q', i', rfl, hs, ha2⟩ := acc_step ha (by dsimp only; omega)
      unfold Step at hs
      dsimp only at hs
      rw [hq] at hs
      rcases hs with ⟨h, _⟩ | ⟨h, _⟩ | ⟨_, hb, rfl, rfl⟩ | ⟨h, _⟩
      · simp at h
      · simp at h
      · refine ⟨i', m, by omega, ?_, ha2⟩
        rw [if_pos (.inr (.inr c9))]; unfold leafR; rw [if_neg c2, if_neg c8, if_pos c9]
        exact ⟨rfl, hb⟩
      · simp at h
    rw [if_neg c9] at hh ha
    have hno : ¬ (x.k = 2 ∨ x.k = 8 ∨ x.k = 9) := by
      rintro (h | h | h)
      · exact c2 h
      · exact c8 h
      · exact c9 h
    simp only [if_neg hno]
    by_cases c3 : x.k = 3
    · rw [if_pos c3] at hh ha
      simp only [if_pos c3]
      obtain ⟨nz, hz⟩ := bd_app l f x.l.toNat (bd l f x.r.toNat out st0).1 (bd l f x.r.toNat out st0).2
      have hl := bd_len l f x.r.toNat out st0
      obtain ⟨j1, m1, h1, h2, h3⟩ := down f x.l.toNat _ _ i N (hh.from hl) (by omega) ha
      obtain ⟨j2, m2, h4, h5, h6⟩ := down f x.r.toNat out st0 j1 m1 (by rw [hz] at hh; exact hh.part) hg h3
      exact ⟨j2, m2, by omega, ⟨j1, h2, h5⟩, h6⟩
    rw [if_neg c3] at hh ha
    simp only [if_neg c3]
    by_cases c4 : x.k = 4
    · rw [if_pos c4] at hh ha
      simp only [if_pos c4]
      obtain ⟨nz, hz⟩ := bd_app l f x.r.toNat out (bd l f x.l.toNat out st0).2
      have hl := bd_len l f x.l.toNat out st0
      have hl2 := bd_len l f x.r.toNat out (bd l f x.l.toNat out st0).2
      have hq := hh.last (Nat.le_trans hl hl2)
      have h2 := hh.part
      obtain ⟨m, q', i', rfl, hs, ha2⟩ := acc_step ha (by dsimp only; omega)
      obtain ⟨rfl, hs2⟩ := step_split hq hs
      rcases hs2 with rfl | rfl
      · obtain ⟨j, m2, h3, h4, h5⟩ := down f x.l.toNat out st0 i' m (by rw [hz] at h2; exact h2.part) hg ha2
        exact ⟨j, m2, by omega, .inl h4, h5⟩
      · obtain ⟨j, m2, h3, h4, h5⟩ := down f x.r.toNat out _ i' m (h2.from hl) (by omega) ha2
        exact ⟨j, m2, by omega, .inr h4, h5⟩
    rw [if_neg c4] at hh ha
    simp only [if_neg c4]
    by_cases c7 : x.k = 7
    · rw [if_pos c7] at hh ha
      simp only [if_pos c7]
      have hl := bd_len l f x.l.toNat out st0
      have hq := hh.last hl
      obtain ⟨m, q', i', rfl, hs, ha2⟩ := acc_step ha (by dsimp only; omega)
      obtain ⟨rfl, hs2⟩ := step_split hq hs
      rcases hs2 with rfl | rfl
      · obtain ⟨j, m2, h3, h4, h5⟩ := down f x.l.toNat out st0 i' m hh.part hg ha2
        exact ⟨j, m2, by omega, .inl h4, h5⟩
      · exact ⟨i', m, by omega, .inr rfl, ha2⟩
    rw [if_neg c7] at hh ha
    simp only [if_neg c7]
    by_cases c56 : x.k = 5 ∨ x.k = 6
    · rw [if_pos c56] at hh ha
      obtain ⟨new, hnew⟩ := bd_app l f x.l.toNat st0.length (st0 ++ [⟨2, 0, out, 0, 0, 0, 0⟩])
      obtain ⟨hq, hin⟩ := Has.loop hnew hh
      have loop : ∀ N i, Acc st t g k N st0.length i → ∃ j m, m ≤ N ∧ Star (mean t l f x.l.toNat) i j ∧ Acc st t g k m out j := by
        intro N
        induction N using Nat.strongRecOn with
        | _ N ih =>
          intro i ha
          obtain ⟨m, q', i', rfl, hs, ha2⟩ := acc_step ha (by omega)
          obtain ⟨rfl, hs2⟩ := step_split hq hs
          rcases hs2 with rfl | rfl
          · obtain ⟨j1, m1, h1, h2, h3⟩ := down f x.l.toNat st0.length _ i' m hin (by simp; omega) ha2
            obtain ⟨j2, m2, h4, h5, h6⟩ := ih m1 (by omega) j1 h3
            exact ⟨j2, m2, by omega, .more h2 h5, h6⟩
          · exact ⟨i', m, by omega, .none _, ha2⟩
      by_cases c5 : x.k = 5
      · simp only [if_pos c5]
        rw [if_neg (by omega)] at ha
        exact loop N i ha
      · have c6 : x.k = 6 := by omega
        simp only [if_neg c5, if_pos c6]
        rw [if_pos c6] at ha
        obtain ⟨j1, m1, h1, h2, h3⟩ := down f x.l.toNat st0.length _ i N hin (by simp; omega) ha
        obtain ⟨j2, m2, h4, h5, h6⟩ := loop m1 j1 h3
        exact ⟨j2, m2, by omega, ⟨j1, h2, h5⟩, h6⟩
    · rw [if_neg c56] at hh ha
      have c5 : ¬ x.k = 5 := by omega
      have c6 : ¬ x.k = 6 := by omega
      simp only [if_neg c5, if_neg c6]
      exact ⟨i, N, Nat.le_refl _, rfl, ha⟩
end Go.Proofs.Ytaffcoiomggpfaa

/- The whole automaton of a pattern. -/
namespace Go.Proofs.Ytaffcoiomggpfaa
open Go.V
attribute [local irreducible] app
set_option linter.unusedVariables false

theorem setLR_get (st : List Nd) (v : Int) (i : Nat) : (setLR st v).getD i default = if i = 0 ∧ i < st.length then { st.getD i default with l := v, r := v } else st.getD i default := by
  unfold setLR
  rw [List.getD_eq_getElem?_getD, List.getD_eq_getElem?_getD, List.getElem?_modify]
  by_cases h : 0 = i
  · subst h
    by_cases hl : 0 < st.length
    · rw [if_pos ⟨rfl, hl⟩, List.getElem?_eq_getElem hl]; simp
    · rw [if_neg (fun h => hl h.2), List.getElem?_eq_none (by omega)]; simp
  · rw [if_neg (fun h' => h h'.1.symm)]; simp [h]
theorem acc_build {t : List Nat} (l : List Nd) (i k : Nat) : (∃ m, Acc (buildOf l) t 1 k m 0 i) ↔ mean t l l.length (l.length - 1) i k := by
  obtain ⟨new, hnew⟩ := bd_app l l.length (l.length - 1) 1 [⟨2, 0, 0, 0, 0, 0, 0⟩, ⟨5, 0, 0, 0, 0, 0, 0⟩]
  have hb : buildOf l = setLR (bd l l.length (l.length - 1) 1 [⟨2, 0, 0, 0, 0, 0, 0⟩, ⟨5, 0, 0, 0, 0, 0, 0⟩]).2 (bd l l.length (l.length - 1) 1 [⟨2, 0, 0, 0, 0, 0, 0⟩, ⟨5, 0, 0, 0, 0, 0, 0⟩]).1 := rfl
  have hup := up (st := buildOf l) (t := t) (l := l) (g := 1) (k := k) l.length (l.length - 1) 1 [⟨2, 0, 0, 0, 0, 0, 0⟩, ⟨5, 0, 0, 0, 0, 0, 0⟩] i
  have hdn := fun N => down (st := buildOf l) (t := t) (l := l) (g := 1) (k := k) l.length (l.length - 1) 1 [⟨2, 0, 0, 0, 0, 0, 0⟩, ⟨5, 0, 0, 0, 0, 0, 0⟩] i N
  generalize bd l l.length (l.length - 1) 1 [⟨2, 0, 0, 0, 0, 0, 0⟩, ⟨5, 0, 0, 0, 0, 0, 0⟩] = X at hnew hb hup hdn
  obtain ⟨first, T⟩ := X
  dsimp only at hnew hb hup hdn
  have hlen : 2 ≤ T.length := by rw [hnew]; simp
  have hhas : Has (buildOf l) T ([⟨2, 0, 0, 0, 0, 0, 0⟩, ⟨5, 0, 0, 0, 0, 0, 0⟩] : List Nd).length := fun j h1 h2 => by
    have h1 : 2 ≤ j := h1
    rw [hb, setLR_get, if_neg (by omega)]
  have h0 : (buildOf l).getD 0 default = ⟨2, first, first, 0, 0, 0, 0⟩ := by
    rw [hb, setLR_get, if_pos ⟨rfl, by omega⟩, hnew]; rfl
  have h1 : (buildOf l).getD 1 default = ⟨5, 0, 0, 0, 0, 0, 0⟩ := by
    rw [hb, setLR_get, if_neg (by omega), hnew]; rfl
  constructor
  · rintro ⟨N, ha⟩
    obtain ⟨m, q', i', rfl, hs, ha2⟩ := acc_step ha (by decide)
    obtain ⟨rfl, hs2⟩ := step_split h0 hs
    have hq : q' = first := by rcases hs2 with h | h <;> simpa using h
    subst hq
    obtain ⟨j, m2, _, hm, ha3⟩ := hdn m hhas (by decide) ha2
    cases ha3 with
    | here => exact hm
    | step hs _ =>
      unfold Step at hs
      dsimp only at hs
      rw [h1] at hs
      rcases hs with ⟨h, _⟩ | ⟨h, _⟩ | ⟨h, _⟩ | ⟨h, _⟩ <;> simp at h
  · intro hm
    obtain ⟨m, ha⟩ := hup k hhas hm ⟨0, .here⟩
    refine ⟨m + 1, .step (.inl ?_) ha⟩
    rw [h0]; exact ⟨rfl, rfl, .inl rfl⟩
end Go.Proofs.Ytaffcoiomggpfaa

/- What a set of states accepts. -/
namespace Go.Proofs.Ytaffcoiomggpfaa
open Go.V
attribute [local irreducible] app
set_option linter.unusedVariables false

theorem goes_step {st : List Nd} {t : List Nat} {bol eol : Bool} {i j s : Nat} (hb : bol = true → bolAt t i) (he : eol = true → eolAt t i) (h : s ∈ goes st bol eol j) : Step st t j i s i := by
  unfold goes at h
  unfold Step
  dsimp only
  split at h
  · rename_i h2
    simp only [List.mem_cons, List.not_mem_nil, or_false] at h
    exact .inl ⟨h2, rfl, h.symm⟩
  · split at h
    · rename_i h3
      simp only [List.mem_cons, List.not_mem_nil, or_false] at h
      rcases h3 with ⟨h3, hb'⟩ | ⟨h3, he'⟩
      · exact .inr (.inl ⟨h3, hb hb', rfl, h⟩)
      · exact .inr (.inr (.inl ⟨h3, he he', rfl, h⟩))
    · simp at h
theorem mem_readL {st : List Nd} {b : Nat} {k : Nat} (l : List Nat) : k ∈ readL st b l ↔ ∃ q ∈ l, (st.getD q default).k = 1 ∧ (st.getD q default).set.has b = true ∧ k = (st.getD q default).l.toNat := by
  have key : ∀ (l acc : List Nat), k ∈ l.foldl (fun acc i => if (st.getD i default).k = 1 ∧ (st.getD i default).set.has b = true then addL acc (st.getD i default).l.toNat else acc) acc ↔
      k ∈ acc ∨ ∃ q ∈ l, (st.getD q default).k = 1 ∧ (st.getD q default).set.has b = true ∧ k = (st.getD q default).l.toNat := by
    intro l
    induction l with
    | nil => intro acc; simp
    | cons x l ih =>
      intro acc
      rw [List.foldl_cons, ih]
      by_cases hx : (st.getD x default).k = 1 ∧ (st.getD x default).set.has b = true
      · rw [if_pos hx, mem_addL]
        constructor
        · rintro ((h | h) | ⟨q, hq, h⟩)
          · exact .inl h
          · exact .inr ⟨x, by simp, hx.1, hx.2, h⟩
          · exact .inr ⟨q, by simp [hq], h⟩
        · rintro (h | ⟨q, hq, h⟩)
          · exact .inl (.inl h)
          · rcases List.mem_cons.1 hq with rfl | hq
            · exact .inl (.inr h.2.2)
            · exact .inr ⟨q, hq, h⟩
      · rw [if_neg hx]
        constructor
        · rintro (h | ⟨q, hq, h⟩)
          · exact .inl h
          · exact .inr ⟨q, by simp [hq], h⟩
        · rintro (h | ⟨q, hq, h⟩)
          · exact .inl h
          · rcases List.mem_cons.1 hq with rfl | hq
            · exact absurd ⟨h.1, h.2.1⟩ hx
            · exact .inr ⟨q, hq, h⟩
  have := key l []
  unfold readL
  rw [this]
  simp
end Go.Proofs.Ytaffcoiomggpfaa

/- To which places the automaton leads. -/
namespace Go.Proofs.Ytaffcoiomggpfaa
open Go.V
attribute [local irreducible] app
set_option linter.unusedVariables false

theorem spread_one {st : List Nd} (hr : InR st) (h5 : ∀ j, j < st.length → ((st.getD j default).k = 5 ↔ j = 1)) (bol eol : Bool) {l : List Nat} (ho : OkL st.length l) : (spread st bol eol l).2 = true ↔ 1 ∈ (spread st bol eol l).1 := by
  have hok := spread_ok hr bol eol ho
  rw [spread_match hr bol eol ho, List.any_eq_true]
  constructor
  · rintro ⟨j, hj, hm⟩
    have : j = 1 := (h5 j (hok.2 j hj)).1 (of_decide_eq_true hm)
    rw [← this]; exact hj
  · exact fun h => ⟨1, h, decide_eq_true ((h5 1 (hok.2 1 h)).2 rfl)⟩
end Go.Proofs.Ytaffcoiomggpfaa
