/- Contracts of package jobmuxref08 (1): sets, kinds, lists. -/
import Derived.Test.YtaffcoiomggpfaaVValid
import Derived.Test.YtaffcoiomggpfaaFr08
namespace Go.Proofs.Ytaffcoiomggpfaa
open Go.V
attribute [local irreducible] app
set_option linter.constructorNameAsVariable false
set_option linter.unusedVariables false

theorem With_c {H : Heap} {s : S4} {b : Nat} {Q : Value → Heap → Prop} {E : Chain → Heap → Prop} (hb : b ≤ 255)
    (hk : ∀ H', Ext H H' → Q (.agg (s.with1 b).cells) H') : Does Pr 108 #[.agg s.cells, .int .u8 b] H Q E := by
  refine zqp_fn _ _ _ _ _ Q E H ?_
  unfold zqp
  refine nw_ext fun i H1 hi he1 hc1 => ?_
  refine nw_ext fun j H2 hj he2 hc2 => ?_
  have hij : i ≠ j := ne_of hc1 hj
  have hc1 : H1 i = some (.cells s.cells 46 (0, 0)) := hc1
  have hc2 : H2 j = some (.cells S4.zero.cells 46 (0, 0)) := hc2
  have hx : IntKind.wrap .u8 (Int.tdiv (b : Int) 64) = ((b / 64 : Nat) : Int) := u8_nat (b / 64) (by omega)
  have hm : Int.tmod (b : Int) 64 = ((b % 64 : Nat) : Int) := rfl
  have h4 : b / 64 < 4 := by omega
  rw [hx, hm]
  simp only [add_at, Int.toNat_natCast, Nat.mul_one, Nat.zero_add]
  refine ⟨by decide, by decide, ⟨by omega, by omega⟩, ldI_at (he2 _ _ hc1) (S4.cells_get _ h4) ⟨by decide, by omega, ⟨by omega, by omega⟩, ?_⟩⟩
  refine wr_at (he2 _ _ hc1) (by simp [S4.cells]; omega) rfl ?_
  rw [S4.cells_put _ h4]
  refine ⟨_, _, _, _, S4.rd (s := s.with1 b) (Heap.set_self _ _ _), ?_⟩
  refine S4.wr (s.with1 b) (by rw [Heap.set_ne _ _ (Ne.symm hij)]; exact hc2) ?_
  refine ⟨_, _, _, _, S4.rd (s := s.with1 b) (Heap.set_self _ _ _), ?_⟩
  exact hk _ (((he1.trans he2).set hi _).set (he1.free hj) _)
theorem Has_c {H : Heap} {s : S4} {b : Nat} {Q : Value → Heap → Prop} {E : Chain → Heap → Prop} (hb : b ≤ 255)
    (hk : ∀ H', Ext H H' → Q (.bool (s.has b)) H') : Does Pr 73 #[.agg s.cells, .int .u8 b] H Q E := by
  refine zqf_fn _ _ _ _ _ Q E H ?_
  unfold zqf
  refine nw_ext fun i H1 hi he1 hc1 => ?_
  have hc1 : H1 i = some (.cells s.cells 46 (0, 0)) := hc1
  have hx : IntKind.wrap .u8 (Int.tdiv (b : Int) 64) = ((b / 64 : Nat) : Int) := u8_nat (b / 64) (by omega)
  have hm : Int.tmod (b : Int) 64 = ((b % 64 : Nat) : Int) := rfl
  have h4 : b / 64 < 4 := by omega
  rw [hx, hm]
  simp only [add_at, Int.toNat_natCast, Nat.mul_one, Nat.zero_add]
  exact ⟨by decide, ⟨by omega, by omega⟩, ldI_at hc1 (S4.cells_get _ h4) ⟨by decide, by omega, hk _ he1⟩⟩
theorem Range_c {H : Heap} {a b : Nat} {Q : Value → Heap → Prop} {E : Chain → Heap → Prop} (ha : a ≤ 255) (hb : b ≤ 255)
    (hk : ∀ H', Ext H H' → Q (.agg (S4.zero.with_ a b).cells) H') : Does Pr 122 #[.int .i64 a, .int .i64 b] H Q E := by
  refine zqe2_fn _ _ Q E H ?_
  unfold zqe2 zqe2_15
  refine nw_ext fun j H1 hj he1 hc1 => ?_
  refine nw_ext fun i H2 hi he2 hc2 => ?_
  have hij : j ≠ i := ne_of hc1 hi
  unfold zqe2_11 zqe2_8
  refine ⟨fun x Hc => ∃ n : Nat, x = ((a + n : Nat) : Int) ∧ n ≤ b + 1 - a ∧ Ext H Hc ∧ Hc i = some (.cells (S4.zero.withN a n).cells 46 (0, 0)) ∧ Hc j = some (.cells S4.zero.cells 46 (0, 0)),
    fun x _ => (b + 1 - x).toNat, ⟨0, by simp, by omega, he1.trans he2, hc2, he2 _ _ hc1⟩, ?_⟩
  rintro x Hc ⟨n, rfl, hn, he, hci, hcj⟩
  unfold zqe2_5
  refine sel_dec (fun hd => ?_) (fun hd => ?_)
  · unfold zqe2_3
    simp only [ptr_some]
    refine ⟨_, _, _, _, S4.rd hci, ?_⟩
    rw [u8_nat (a + n) (by omega)]
    refine With_c (s := S4.zero.withN a n) (b := a + n) (by omega) fun H5 he5 => ?_
    refine ⟨_, _, _, _, rfl, ?_⟩
    refine S4.wr (S4.zero.withN a (n + 1)) (he5 _ _ hci) ?_
    have hw : IntKind.wrap .i64 (((a + n : Nat) : Int) + 1) = ((a + (n + 1) : Nat) : Int) := by rw [IntWalk.i64_in _ (by omega)]; omega
    rw [hw]
    exact ⟨⟨n + 1, rfl, by omega, (he.trans he5).set (he1.free hi) _, Heap.set_self _ _ _, by rw [Heap.set_ne _ _ hij]; exact he5 _ _ hcj⟩, by omega⟩
  · have hn' : n = b + 1 - a := by omega
    subst hn'
    unfold zqe2_1
    simp only [ptr_some]
    refine ⟨_, _, _, _, S4.rd hci, S4.wr (S4.zero.with_ a b) hcj ⟨_, _, _, _, S4.rd (s := S4.zero.with_ a b) (Heap.set_self _ _ _), ?_⟩⟩
    exact hk _ (he.set hj _)
theorem Union_c {H : Heap} {s t : S4} {Q : Value → Heap → Prop} {E : Chain → Heap → Prop}
    (hk : ∀ H', Ext H H' → Q (.agg (s.or t).cells) H') : Does Pr 117 #[.agg s.cells, .agg t.cells] H Q E := by
  refine zqc2_fn _ _ _ _ _ _ _ _ Q E H ?_
  unfold zqc2
  refine nw_ext fun i H1 hi he1 hc1 => ?_
  refine nw_ext fun j H2 hj he2 hc2 => ?_
  refine nw_ext fun k H3 hk3 he3 hc3 => ?_
  have hij : i ≠ j := ne_of hc1 hj
  have hik : i ≠ k := ne_of (he2 _ _ hc1) hk3
  have hc3 : H3 k = some (.cells S4.zero.cells 46 (0, 0)) := hc3
  have hjk : j ≠ k := ne_of hc2 hk3
  unfold zqc2_11 zqc2_8
  refine ⟨fun x Hc => ∃ n : Nat, x = (n : Nat) ∧ n ≤ 4 ∧ Ext H Hc ∧ Hc i = some (.cells (s.orN t n).cells 46 (0, 0)) ∧ Hc j = some (.cells t.cells 46 (0, 0)) ∧ Hc k = some (.cells S4.zero.cells 46 (0, 0)),
    fun x _ => (4 - x).toNat, ⟨0, by simp, by omega, (he1.trans he2).trans he3, he3 _ _ (he2 _ _ hc1), he3 _ _ hc2, hc3⟩, ?_⟩
  rintro x Hc ⟨n, rfl, hn, he, hci, hcj, hck⟩
  unfold zqc2_5
  refine sel_dec (fun hd => ?_) (fun hd => ?_)
  · have h4 : n < 4 := by omega
    unfold zqc2_3
    simp only [ptr_some, add_at, Int.toNat_natCast, Nat.mul_one, Nat.zero_add]
    refine ⟨⟨by omega, by omega⟩, ldI_at hci (S4.cells_get _ h4) ⟨⟨by omega, by omega⟩, ldI_at hcj (S4.cells_get _ h4) ⟨⟨by omega, by omega⟩, ?_⟩⟩⟩
    refine wr_at hci (by simp [S4.cells]; omega) rfl ?_
    rw [S4.cells_put _ h4]
    have hw : IntKind.wrap .i64 ((n : Int) + 1) = ((n + 1 : Nat) : Int) := by rw [IntWalk.i64_in _ (by omega)]; omega
    rw [hw]
    exact ⟨⟨n + 1, rfl, by omega, he.set hi _, Heap.set_self _ _ _, by rw [Heap.set_ne _ _ (Ne.symm hij)]; exact hcj, by rw [Heap.set_ne _ _ (Ne.symm hik)]; exact hck⟩, by omega⟩
  · obtain rfl : n = 4 := by omega
    unfold zqc2_1
    simp only [ptr_some]
    refine ⟨_, _, _, _, S4.rd hci, S4.wr (s.or t) hck ⟨_, _, _, _, S4.rd (s := s.or t) (Heap.set_self _ _ _), ?_⟩⟩
    exact hk _ (he.set ((he1.trans he2).free hk3) _)
theorem Not_c {H : Heap} {s : S4} {Q : Value → Heap → Prop} {E : Chain → Heap → Prop}
    (hk : ∀ H', Ext H H' → Q (.agg s.not.cells) H') : Does Pr 107 #[.agg s.cells] H Q E := by
  refine zqo_fn _ _ _ _ Q E H ?_
  unfold zqo
  refine nw_ext fun i H1 hi he1 hc1 => ?_
  refine nw_ext fun j H2 hj he2 hc2 => ?_
  have hij : i ≠ j := ne_of hc1 hj
  have hc2 : H2 j = some (.cells S4.zero.cells 46 (0, 0)) := hc2
  unfold zqo_11 zqo_8
  refine ⟨fun x Hc => ∃ n : Nat, x = (n : Nat) ∧ n ≤ 4 ∧ Ext H Hc ∧ Hc i = some (.cells (s.notN n).cells 46 (0, 0)) ∧ Hc j = some (.cells S4.zero.cells 46 (0, 0)),
    fun x _ => (4 - x).toNat, ⟨0, by simp, by omega, he1.trans he2, he2 _ _ hc1, hc2⟩, ?_⟩
  rintro x Hc ⟨n, rfl, hn, he, hci, hcj⟩
  unfold zqo_5
  refine sel_dec (fun hd => ?_) (fun hd => ?_)
  · have h4 : n < 4 := by omega
    unfold zqo_3
    simp only [ptr_some, add_at, Int.toNat_natCast, Nat.mul_one, Nat.zero_add]
    refine ⟨⟨by omega, by omega⟩, ldI_at hci (S4.cells_get _ h4) ⟨⟨by omega, by omega⟩, ?_⟩⟩
    refine wr_at hci (by simp [S4.cells]; omega) rfl ?_
    rw [S4.cells_put _ h4]
    have hw : IntKind.wrap .i64 ((n : Int) + 1) = ((n + 1 : Nat) : Int) := by rw [IntWalk.i64_in _ (by omega)]; omega
    rw [hw]
    exact ⟨⟨n + 1, rfl, by omega, he.set hi _, Heap.set_self _ _ _, by rw [Heap.set_ne _ _ (Ne.symm hij)]; exact hcj⟩, by omega⟩
  · obtain rfl : n = 4 := by omega
    unfold zqo_1
    simp only [ptr_some]
    refine ⟨_, _, _, _, S4.rd hci, S4.wr s.not hcj ⟨_, _, _, _, S4.rd (s := s.not) (Heap.set_self _ _ _), ?_⟩⟩
    exact hk _ (he.set (he1.free hj) _)
def markB (b : Nat) : Bool := decide (33 ≤ b ∧ b ≤ 47 ∨ 58 ≤ b ∧ b ≤ 64 ∨ 91 ≤ b ∧ b ≤ 96 ∨ 123 ≤ b ∧ b ≤ 126)
theorem mark_c {H : Heap} {b : Nat} {Q : Value → Heap → Prop} {E : Chain → Heap → Prop} (hk : Q (.bool (markB b)) H) : Does Pr 123 #[.int .u8 b] H Q E := by
  refine zqf2_fn _ Q E H ?_
  have yes : (33 ≤ b ∧ b ≤ 47 ∨ 58 ≤ b ∧ b ≤ 64 ∨ 91 ≤ b ∧ b ≤ 96 ∨ 123 ≤ b ∧ b ≤ 126) → Q (.bool true) H := fun h => by
    have e : markB b = true := decide_eq_true h
    rwa [e] at hk
  have no : ¬ (33 ≤ b ∧ b ≤ 47 ∨ 58 ≤ b ∧ b ≤ 64 ∨ 91 ≤ b ∧ b ≤ 96 ∨ 123 ≤ b ∧ b ≤ 126) → Q (.bool false) H := fun h => by
    have e : markB b = false := decide_eq_false h
    rwa [e] at hk
  have last : ¬ (33 ≤ b ∧ b ≤ 47 ∨ 58 ≤ b ∧ b ≤ 64 ∨ 91 ≤ b ∧ b ≤ 96) → 123 ≤ b → Q (.bool (decide ((b : Int) ≤ 126))) H := fun h h' => by
    have e : markB b = decide ((b : Int) ≤ 126) := by unfold markB; exact decide_eq_decide.2 (by omega)
    rwa [e] at hk
  unfold zqf2
  repeat' (refine sel_dec (fun _ => ?_) (fun _ => ?_))
  all_goals first | exact yes (by omega) | exact no (by omega) | exact last (by omega) (by omega) | (exfalso; omega)
def named8 (c : Nat) : S4 × Bool × Bool :=
  if c = 110 then (S4.zero.with1 10, true, true) else if c = 116 then (S4.zero.with1 9, true, true) else if c = 114 then (S4.zero.with1 13, true, true)
  else if c = 100 then (S4.zero.with_ 48 57, false, true)
  else if c = 119 then (((S4.zero.with_ 97 122).or (S4.zero.with_ 65 90)).or ((S4.zero.with_ 48 57).or (S4.zero.with1 95)), false, true)
  else if c = 115 then (((S4.zero.with1 32).or (S4.zero.with_ 9 10)).or (S4.zero.with1 13), false, true)
  else if markB c = true then (S4.zero.with1 c, true, true) else (S4.zero, false, false)
theorem named8_c {H : Heap} {b : Nat} {Q : Value → Heap → Prop} {E : Chain → Heap → Prop} (hb : b ≤ 255)
    (hk : ∀ H' s x y, Ext H H' → named8 b = (s, x, y) → Q (.tuple #[.agg s.cells, .bool x, .bool y]) H') : Does Pr 116 #[.int .u8 b] H Q E := by
  refine zqb2_fn _ Q E H ?_
  unfold zqb2
  refine nw_ext fun i H1 hi he1 hc1 => ?_
  have hc1 : H1 i = some (.cells S4.zero.cells 46 (0, 0)) := hc1
  have fin : ∀ (s : S4) (x y : Bool) (H5 : Heap), named8 b = (s, x, y) → Ext H1 H5 → wr ⟨i, 0, none⟩ [.int .u64 s.a, .int .u64 s.b, .int .u64 s.c, .int .u64 s.d] H5 fun H6 =>
      ∃ n1 n2 n3 n4 : Int, H6.rd ⟨i, 0, none⟩ 0 [(.int .u64 n1), (.int .u64 n2), (.int .u64 n3), (.int .u64 n4)] ∧ Q (.tuple #[.agg #[(.int .u64 n1), (.int .u64 n2), (.int .u64 n3), (.int .u64 n4)], .bool x, .bool y]) H6 := by
    intro s x y H5 hs he5
    exact S4.wr s (he5 _ _ hc1) ⟨_, _, _, _, S4.rd (s := s) (Heap.set_self _ _ _), hk _ s x y ((he1.trans he5).set hi _) hs⟩
  unfold zqb2_6
  simp only [ptr_some]
  refine sel_beq (fun _ => ?_) (fun _ => ?_)
  · refine With_c (s := S4.zero) (b := 10) (by omega) fun H5 he5 => ?_
    exact ⟨_, _, _, _, rfl, fin (S4.zero.with1 10) true true H5 (by unfold named8; rw [if_pos (by omega)]) he5⟩
  refine sel_beq (fun _ => ?_) (fun _ => ?_)
  · refine With_c (s := S4.zero) (b := 9) (by omega) fun H5 he5 => ?_
    exact ⟨_, _, _, _, rfl, fin (S4.zero.with1 9) true true H5 (by unfold named8; rw [if_neg (by omega), if_pos (by omega)]) he5⟩
  refine sel_beq (fun _ => ?_) (fun _ => ?_)
  · refine With_c (s := S4.zero) (b := 13) (by omega) fun H5 he5 => ?_
    exact ⟨_, _, _, _, rfl, fin (S4.zero.with1 13) true true H5 (by unfold named8; rw [if_neg (by omega), if_neg (by omega), if_pos (by omega)]) he5⟩
  refine sel_beq (fun _ => ?_) (fun _ => ?_)
  · refine Range_c (a := 48) (b := 57) (by omega) (by omega) fun H5 he5 => ?_
    exact ⟨_, _, _, _, rfl, fin (S4.zero.with_ 48 57) false true H5 (by unfold named8; rw [if_neg (by omega), if_neg (by omega), if_neg (by omega), if_pos (by omega)]) he5⟩
  refine sel_beq (fun _ => ?_) (fun _ => ?_)
  · refine Range_c (a := 97) (b := 122) (by omega) (by omega) fun H5 he5 => ⟨_, _, _, _, rfl, ?_⟩
    refine Range_c (a := 65) (b := 90) (by omega) (by omega) fun H6 he6 => ⟨_, _, _, _, rfl, ?_⟩
    refine Union_c (s := S4.zero.with_ 97 122) (t := S4.zero.with_ 65 90) fun H7 he7 => ⟨_, _, _, _, rfl, ?_⟩
    refine Range_c (a := 48) (b := 57) (by omega) (by omega) fun H8 he8 => ⟨_, _, _, _, rfl, ?_⟩
    refine With_c (s := S4.zero) (b := 95) (by omega) fun H9 he9 => ⟨_, _, _, _, rfl, ?_⟩
    refine Union_c (s := S4.zero.with_ 48 57) (t := S4.zero.with1 95) fun H10 he10 => ⟨_, _, _, _, rfl, ?_⟩
    refine Union_c (s := (S4.zero.with_ 97 122).or (S4.zero.with_ 65 90)) (t := (S4.zero.with_ 48 57).or (S4.zero.with1 95)) fun H11 he11 => ⟨_, _, _, _, rfl, ?_⟩
    exact fin (((S4.zero.with_ 97 122).or (S4.zero.with_ 65 90)).or ((S4.zero.with_ 48 57).or (S4.zero.with1 95))) false true H11
      (by unfold named8; rw [if_neg (by omega), if_neg (by omega), if_neg (by omega), if_neg (by omega), if_pos (by omega)]) ((((((he5.trans he6).trans he7).trans he8).trans he9).trans he10).trans he11)
  refine sel_beq (fun _ => ?_) (fun _ => ?_)
  · refine With_c (s := S4.zero) (b := 32) (by omega) fun H5 he5 => ⟨_, _, _, _, rfl, ?_⟩
    refine Range_c (a := 9) (b := 10) (by omega) (by omega) fun H6 he6 => ⟨_, _, _, _, rfl, ?_⟩
    refine Union_c (s := S4.zero.with1 32) (t := S4.zero.with_ 9 10) fun H7 he7 => ⟨_, _, _, _, rfl, ?_⟩
    refine With_c (s := S4.zero) (b := 13) (by omega) fun H8 he8 => ⟨_, _, _, _, rfl, ?_⟩
    refine Union_c (s := (S4.zero.with1 32).or (S4.zero.with_ 9 10)) (t := S4.zero.with1 13) fun H9 he9 => ⟨_, _, _, _, rfl, ?_⟩
    exact fin (((S4.zero.with1 32).or (S4.zero.with_ 9 10)).or (S4.zero.with1 13)) false true H9
      (by unfold named8; rw [if_neg (by omega), if_neg (by omega), if_neg (by omega), if_neg (by omega), if_neg (by omega), if_pos (by omega)]) ((((he5.trans he6).trans he7).trans he8).trans he9)
  unfold zqb2_3
  have base : named8 b = if markB b = true then (S4.zero.with1 b, true, true) else (S4.zero, false, false) := by
    unfold named8; rw [if_neg (by omega), if_neg (by omega), if_neg (by omega), if_neg (by omega), if_neg (by omega), if_neg (by omega)]
  refine mark_c ⟨_, rfl, sel_mk (fun hm => ?_) (fun hm => ?_)⟩
  · refine With_c (s := S4.zero) (b := b) hb fun H5 he5 => ⟨_, _, _, _, rfl, ?_⟩
    simp only [ptr_some]
    exact fin (S4.zero.with1 b) true true H5 (by rw [base, if_pos hm]) he5
  · unfold zqb2_1
    simp only [ptr_some]
    exact fin S4.zero false false H1 (by rw [base, if_neg (by simp [hm])]) (Ext.refl _)
def only8 (s : S4) : Nat := ((List.range 256).find? s.has).getD 0
theorem only8_le (s : S4) : only8 s ≤ 255 := by
  unfold only8
  cases h : (List.range 256).find? s.has with
  | none => simp
  | some x => have := List.mem_of_find?_eq_some h; simp at this ⊢; omega
theorem range_find {p : Nat → Bool} {n m : Nat} (hn : ∀ k, k < n → p k = false) (h : p n = true) (hm : n < m) : (List.range m).find? p = some n := by
  rw [List.find?_eq_some_iff_getElem]
  refine ⟨h, n, by simpa using hm, by simp, fun j hj => by simp [hn j hj]⟩
set_option maxRecDepth 20000 in
theorem only8_c {H : Heap} {s : S4} {Q : Value → Heap → Prop} {E : Chain → Heap → Prop}
    (hk : ∀ H', Ext H H' → Q (.int .i64 (only8 s : Nat)) H') : Does Pr 125 #[.agg s.cells] H Q E := by
  refine zqh2_fn _ _ _ _ Q E H ?_
  unfold zqh2
  refine nw_ext fun i H1 hi he1 hc1 => ?_
  have hc1 : H1 i = some (.cells s.cells 46 (0, 0)) := hc1
  unfold zqh2_14 zqh2_11
  refine ⟨fun x Hc => ∃ n : Nat, x = (n : Nat) ∧ n ≤ 256 ∧ Ext H1 Hc ∧ ∀ k, k < n → s.has k = false, fun x _ => (256 - x).toNat, ⟨0, rfl, by omega, Ext.refl _, by intro k hk; omega⟩, ?_⟩
  rintro x Hc ⟨n, rfl, hn, he, hf⟩
  unfold zqh2_8
  refine sel_dec (fun hd => ?_) (fun hd => ?_)
  · unfold zqh2_5
    simp only [ptr_some]
    refine ⟨_, _, _, _, S4.rd (he _ _ hc1), ?_⟩
    rw [u8_nat n (by omega)]
    refine Has_c (s := s) (by omega) fun H5 he5 => ⟨_, rfl, sel_mk (fun hh => ?_) (fun hh => ?_)⟩
    · have : only8 s = n := by unfold only8; rw [range_find hf hh (by omega)]; rfl
      rw [this] at hk
      exact hk _ ((he1.trans he).trans he5)
    · unfold zqh2_3
      have hw : IntKind.wrap .i64 ((n : Int) + 1) = ((n + 1 : Nat) : Int) := by rw [IntWalk.i64_in _ (by omega)]; omega
      rw [hw]
      refine ⟨⟨n + 1, rfl, by omega, he.trans he5, fun k hk => ?_⟩, by omega⟩
      by_cases h : k = n
      · subst h; exact hh
      · exact hf k (by omega)
  · unfold zqh2_1
    have : only8 s = 0 := by
      unfold only8
      rw [List.find?_eq_none.2 (fun x hx => by have := hf x (by simp at hx; omega); simp [this])]; rfl
    rw [this] at hk
    exact hk _ (he1.trans he)
end Go.Proofs.Ytaffcoiomggpfaa
