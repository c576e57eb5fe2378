import Derived.Test.YtaffcoiomggpfaaVPr
/- Printed by gen.py: the Go functions of package mill over a heap view, and that the model does so. -/
namespace Go.Proofs.Ytaffcoiomggpfaa
open Go.V
set_option linter.unusedVariables false
set_option maxRecDepth 100000
/-! jobmux/jobmuxmill.Patterns -/
@[reducible] noncomputable def um1_q1 (Q : QT) (E : ET) : Exit → Tau → Heap → Prop := (retQ Pr (Try.f21).results.toList Q)

@[reducible] noncomputable def um1_p0 : Code := bodyOf Try.f21

def um1 (Q : QT) (E : ET)  (H : Heap) : Prop :=
 nw (.cells #[(.string ⟨[111, 107].toArray⟩), (.string ⟨#[]⟩), (.string ⟨[114, 46, 42, 121, 36].toArray⟩), (.string ⟨[94, 117, 112, 124, 103, 111, 43].toArray⟩), (.string ⟨[91, 48, 45, 57, 93, 43, 120, 63].toArray⟩), (.string ⟨[40, 97, 98, 41, 42, 99].toArray⟩), (.string ⟨[94, 36].toArray⟩)] 9 (0, 0)) H fun i1 H2 =>
 Q (.slice (some ⟨i1, 0, none⟩) 7 7) H2

theorem um1_fn  (Q : QT) (E : ET) (H : Heap) (h : um1 Q E  H)   : Does Pr 21 #[] H Q E :=
  Fn_of_vc (fn := Try.f21) (c := um1_p0) (args := []) mixed (by kernel_rfl) (by kernel_rfl) (by kernel_rfl) (by kernel_rfl) (by kernel_rfl) ((conv (B := vc Pr um1_p0 (argT []) (um1_q1 Q E) E H) (by kernel_rfl) h))

/-! jobmux/jobmuxmill.Mod -/
@[reducible] noncomputable def un1_q1 (Q : QT) (E : ET) : Exit → Tau → Heap → Prop := (retQ Pr (Try.f22).results.toList Q)

@[reducible] noncomputable def un1_p0 : Code := bodyOf Try.f22

@[reducible] noncomputable def un1_p1 : Code := sB un1_p0

@[reducible] noncomputable def un1_p2 : Code := sB un1_p1

@[reducible] noncomputable def un1_p3 : Code := sB un1_p2

def un1_1 (Q : QT) (E : ET) (x5 : Int) (H : Heap) : Prop :=
 Q (.int .i64 x5) H

def un1_1_M (Q : QT) (E : ET) (τ : Tau) (H : Heap) : Prop := mI .i64 (τ 5) fun x5 => un1_1 Q E x5 H

theorem un1_2ok (Q : QT) (E : ET) (τ : Tau) (H : Heap) (h : un1_1_M Q E τ H) : vc Pr un1_p3 τ (un1_q1 Q E) E H :=
  vI (i := 5) h (fun x5 h => (conv (by kernel_rfl) h))

@[reducible] noncomputable def un1_q2 (Q : QT) (E : ET) : Exit → Tau → Heap → Prop := (xthen (un1_1_M Q E) (un1_q1 Q E))

@[reducible] noncomputable def un1_p4 : Code := sA un1_p2

def un1_3 (Q : QT) (E : ET) (x1 : Int) (x5 : Int) (H : Heap) : Prop :=
 sel (decide ((x5 : Int) < 0))
 (un1_1 Q E (IntKind.wrap .i64 (x5 + x1)) H)
 (un1_1 Q E x5 H)

def un1_3_M (Q : QT) (E : ET) (τ : Tau) (H : Heap) : Prop := mI .i64 (τ 1) fun x1 => mI .i64 (τ 5) fun x5 => un1_3 Q E x1 x5 H

theorem un1_4ok (Q : QT) (E : ET) (τ : Tau) (H : Heap) (h : un1_3_M Q E τ H) : vc Pr un1_p4 τ (un1_q2 Q E) E H :=
  vI (i := 1) h (fun x1 h => vI (i := 5) h (fun x5 h => (conv (by kernel_rfl) h)))

theorem un1_5ok (Q : QT) (E : ET) (τ : Tau) (H : Heap) (h : un1_3_M Q E τ H) : vc Pr un1_p2 τ (un1_q1 Q E) E H :=
  (conv (B := vc Pr un1_p2 τ (un1_q1 Q E) E H) (by kernel_rfl) (vc_seq (K := (un1_1_M Q E)) (un1_4ok Q E τ H h) (un1_2ok Q E)))

@[reducible] noncomputable def un1_q3 (Q : QT) (E : ET) : Exit → Tau → Heap → Prop := (xthen (un1_3_M Q E) (un1_q1 Q E))

@[reducible] noncomputable def un1_p5 : Code := sA un1_p1

def un1_6 (Q : QT) (E : ET) (x0 : Int) (x1 : Int) (H : Heap) : Prop :=
 (x1 : Int) ≠ 0 ∧ un1_3 Q E x1 (Int.tmod x0 x1) H

def un1_6_M (Q : QT) (E : ET) (τ : Tau) (H : Heap) : Prop := mI .i64 (τ 0) fun x0 => mI .i64 (τ 1) fun x1 => un1_6 Q E x0 x1 H

theorem un1_7ok (Q : QT) (E : ET) (τ : Tau) (H : Heap) (h : un1_6_M Q E τ H) : vc Pr un1_p5 τ (un1_q3 Q E) E H :=
  vI (i := 0) h (fun x0 h => vI (i := 1) h (fun x1 h => (conv (by kernel_rfl) h)))

theorem un1_8ok (Q : QT) (E : ET) (τ : Tau) (H : Heap) (h : un1_6_M Q E τ H) : vc Pr un1_p1 τ (un1_q1 Q E) E H :=
  (conv (B := vc Pr un1_p1 τ (un1_q1 Q E) E H) (by kernel_rfl) (vc_seq (K := (un1_3_M Q E)) (un1_7ok Q E τ H h) (un1_5ok Q E)))

@[reducible] noncomputable def un1_q4 (Q : QT) (E : ET) : Exit → Tau → Heap → Prop := (xthen (un1_6_M Q E) (un1_q1 Q E))

@[reducible] noncomputable def un1_p6 : Code := sA un1_p0

def un1 (Q : QT) (E : ET) (a0 : Int) (a1 : Int) (H : Heap) : Prop :=
 un1_6 Q E a0 a1 H

theorem un1_fn (a0 : Int) (a1 : Int) (Q : QT) (E : ET) (H : Heap) (h : un1 Q E a0 a1 H)   : Does Pr 22 #[(.int .i64 a0), (.int .i64 a1)] H Q E :=
  Fn_of_vc (fn := Try.f22) (c := un1_p0) (args := [(.int .i64 a0), (.int .i64 a1)]) mixed (by kernel_rfl) (by kernel_rfl) (by kernel_rfl) (by kernel_rfl) (by kernel_rfl) ((conv (B := vc Pr un1_p0 (argT [(.int .i64 a0), (.int .i64 a1)]) (un1_q1 Q E) E H) (by kernel_rfl) (vc_seq (K := (un1_6_M Q E)) (conv (B := vc Pr un1_p6 (argT [(.int .i64 a0), (.int .i64 a1)]) (un1_q4 Q E) E H) (by kernel_rfl) h) (un1_8ok Q E))))

/-! jobmux/jobmuxmill.New -/
@[reducible] noncomputable def uo1_q1 (Q : QT) (E : ET) : Exit → Tau → Heap → Prop := (retQ Pr (Try.f47).results.toList Q)

@[reducible] noncomputable def uo1_p0 : Code := bodyOf Try.f47

def uo1 (Q : QT) (E : ET) (a0 : OA) (a0l : Nat) (a0c : Nat) (H : Heap) : Prop :=
 nw (.cells #[(.slice a0 a0l a0c), (.int .i64 0)] 123 (0, 0)) H fun i1 H2 =>
 Q (.pointer (some ⟨i1, 0, none⟩)) H2

theorem uo1_fn (a0 : OA) (a0l : Nat) (a0c : Nat) (Q : QT) (E : ET) (H : Heap) (h : uo1 Q E a0 a0l a0c H)   : Does Pr 47 #[(.slice a0 a0l a0c)] H Q E :=
  Fn_of_vc (fn := Try.f47) (c := uo1_p0) (args := [(.slice a0 a0l a0c)]) mixed (by kernel_rfl) (by kernel_rfl) (by kernel_rfl) (by kernel_rfl) (by kernel_rfl) ((conv (B := vc Pr uo1_p0 (argT [(.slice a0 a0l a0c)]) (uo1_q1 Q E) E H) (by kernel_rfl) h))

/-! (*jobmux/jobmuxmill.Deck).Range -/
@[reducible] noncomputable def up1_q1 (Q : QT) (E : ET) : Exit → Tau → Heap → Prop := (retQ Pr (Try.f48).results.toList Q)

@[reducible] noncomputable def up1_p0 : Code := bodyOf Try.f48

def up1 (Q : QT) (E : ET) (a0 : OA) (a1 : Int) (a2 : Int) (H : Heap) : Prop :=
 Does Pr 49 #[(.pointer a0), (.int .i64 (IntKind.wrap .i64 ((IntKind.wrap .i64 (a2 - a1)) + 1)))] H (fun v1 H2 =>
 ∃ n3 : Int, v1 = (.int .i64 n3) ∧ Q (.int .i64 (IntKind.wrap .i64 (a1 + n3))) H2) E

theorem up1_fn (a0 : OA) (a1 : Int) (a2 : Int) (Q : QT) (E : ET) (H : Heap) (h : up1 Q E a0 a1 a2 H)   : Does Pr 48 #[(.pointer a0), (.int .i64 a1), (.int .i64 a2)] H Q E :=
  Fn_of_vc (fn := Try.f48) (c := up1_p0) (args := [(.pointer a0), (.int .i64 a1), (.int .i64 a2)]) mixed (by kernel_rfl) (by kernel_rfl) (by kernel_rfl) (by kernel_rfl) (by kernel_rfl) ((conv (B := vc Pr up1_p0 (argT [(.pointer a0), (.int .i64 a1), (.int .i64 a2)]) (up1_q1 Q E) E H) (by kernel_rfl) h))

/-! (*jobmux/jobmuxmill.Deck).Next -/
@[reducible] noncomputable def uq1_q1 (Q : QT) (E : ET) : Exit → Tau → Heap → Prop := (retQ Pr (Try.f49).results.toList Q)

@[reducible] noncomputable def uq1_p0 : Code := bodyOf Try.f49

@[reducible] noncomputable def uq1_p1 : Code := sB uq1_p0

@[reducible] noncomputable def uq1_p2 : Code := sB uq1_p1

def uq1_1 (Q : QT) (E : ET) (x0 : OA) (x1 : Int) (H : Heap) : Prop :=
 ptr x0 fun q4 =>
 ldI .i64 (Addr.add q4 1) H fun n5 =>
 ptr x0 fun q6 =>
 wr (Addr.add q6 1) [(.int .i64 (IntKind.wrap .i64 (n5 + 1)))] H fun H7 =>
 ptr x0 fun q8 =>
 ldSl q8 H7 fun p9 l10 c11 =>
 ptr x0 fun q12 =>
 ldI .i64 (Addr.add q12 1) H7 fun n13 =>
 (0 ≤ ((IntKind.wrap .i64 (n13 - 1)) : Int) ∧ ((IntKind.wrap .i64 (n13 - 1)) : Int) < ((l10 : Nat) : Int)) ∧ ptr p9 fun q14 =>
 ldI .i64 (Addr.add q14 (((IntKind.wrap .i64 (n13 - 1)) : Int).toNat * 1)) H7 fun n15 =>
 Does Pr 22 #[(.int .i64 n15), (.int .i64 x1)] H7 (fun v16 H17 =>
 ∃ n18 : Int, v16 = (.int .i64 n18) ∧ Q (.int .i64 n18) H17) (fun _ _ => False)

def uq1_1_M (Q : QT) (E : ET) (τ : Tau) (H : Heap) : Prop := mP (τ 0) fun x0 => mI .i64 (τ 1) fun x1 => uq1_1 Q E x0 x1 H

theorem uq1_2ok (Q : QT) (E : ET) (τ : Tau) (H : Heap) (h : uq1_1_M Q E τ H) : vc Pr uq1_p2 τ (uq1_q1 Q E) E H :=
  vP (i := 0) h (fun x0 h => vI (i := 1) h (fun x1 h => (conv (by kernel_rfl) h)))

@[reducible] noncomputable def uq1_q2 (Q : QT) (E : ET) : Exit → Tau → Heap → Prop := (xthen (uq1_1_M Q E) (uq1_q1 Q E))

@[reducible] noncomputable def uq1_p3 : Code := sA uq1_p1

def uq1_3 (Q : QT) (E : ET) (x0 : OA) (x1 : Int) (H : Heap) : Prop :=
 Does Pr 61 #[(.pointer x0)] H (fun v19 H20 =>
 ∃ b21 : Bool, v19 = (.bool b21) ∧ sel (!b21)
 (Q (.int .i64 0) H20)
 (uq1_1 Q E x0 x1 H20)) E

def uq1_3_M (Q : QT) (E : ET) (τ : Tau) (H : Heap) : Prop := mP (τ 0) fun x0 => mI .i64 (τ 1) fun x1 => uq1_3 Q E x0 x1 H

theorem uq1_4ok (Q : QT) (E : ET) (τ : Tau) (H : Heap) (h : uq1_3_M Q E τ H) : vc Pr uq1_p3 τ (uq1_q2 Q E) E H :=
  vP (i := 0) h (fun x0 h => vI (i := 1) h (fun x1 h => (conv (by kernel_rfl) h)))

theorem uq1_5ok (Q : QT) (E : ET) (τ : Tau) (H : Heap) (h : uq1_3_M Q E τ H) : vc Pr uq1_p1 τ (uq1_q1 Q E) E H :=
  (conv (B := vc Pr uq1_p1 τ (uq1_q1 Q E) E H) (by kernel_rfl) (vc_seq (K := (uq1_1_M Q E)) (uq1_4ok Q E τ H h) (uq1_2ok Q E)))

@[reducible] noncomputable def uq1_q3 (Q : QT) (E : ET) : Exit → Tau → Heap → Prop := (xthen (uq1_3_M Q E) (uq1_q1 Q E))

@[reducible] noncomputable def uq1_p4 : Code := sA uq1_p0

def uq1 (Q : QT) (E : ET) (a0 : OA) (a1 : Int) (H : Heap) : Prop :=
 uq1_3 Q E a0 a1 H

theorem uq1_fn (a0 : OA) (a1 : Int) (Q : QT) (E : ET) (H : Heap) (h : uq1 Q E a0 a1 H)   : Does Pr 49 #[(.pointer a0), (.int .i64 a1)] H Q E :=
  Fn_of_vc (fn := Try.f49) (c := uq1_p0) (args := [(.pointer a0), (.int .i64 a1)]) mixed (by kernel_rfl) (by kernel_rfl) (by kernel_rfl) (by kernel_rfl) (by kernel_rfl) ((conv (B := vc Pr uq1_p0 (argT [(.pointer a0), (.int .i64 a1)]) (uq1_q1 Q E) E H) (by kernel_rfl) (vc_seq (K := (uq1_3_M Q E)) (conv (B := vc Pr uq1_p4 (argT [(.pointer a0), (.int .i64 a1)]) (uq1_q3 Q E) E H) (by kernel_rfl) h) (uq1_5ok Q E))))

/-! (*jobmux/jobmuxmill.Deck).Left -/
@[reducible] noncomputable def ur1_q1 (Q : QT) (E : ET) : Exit → Tau → Heap → Prop := (retQ Pr (Try.f61).results.toList Q)

@[reducible] noncomputable def ur1_p0 : Code := bodyOf Try.f61

def ur1 (Q : QT) (E : ET) (a0 : OA) (H : Heap) : Prop :=
 ptr a0 fun q1 =>
 ldI .i64 (Addr.add q1 1) H fun n2 =>
 ptr a0 fun q3 =>
 ldSl q3 H fun p4 l5 c6 =>
 Q (.bool (decide ((n2 : Int) < ((l5 : Nat) : Int)))) H

theorem ur1_fn (a0 : OA) (Q : QT) (E : ET) (H : Heap) (h : ur1 Q E a0 H)   : Does Pr 61 #[(.pointer a0)] H Q E :=
  Fn_of_vc (fn := Try.f61) (c := ur1_p0) (args := [(.pointer a0)]) mixed (by kernel_rfl) (by kernel_rfl) (by kernel_rfl) (by kernel_rfl) (by kernel_rfl) ((conv (B := vc Pr ur1_p0 (argT [(.pointer a0)]) (ur1_q1 Q E) E H) (by kernel_rfl) h))

/-! jobmux/jobmuxmill.Output -/
@[reducible] noncomputable def us1_q1 (Q : QT) (E : ET) : Exit → Tau → Heap → Prop := (retQ Pr (Try.f76).results.toList Q)

@[reducible] noncomputable def us1_p0 : Code := bodyOf Try.f76

def us1 (Q : QT) (E : ET) (a0 : OA) (H : Heap) : Prop :=
 nw (.cells #[(.string ⟨[111, 107].toArray⟩), (.string ⟨[111].toArray⟩), (.string ⟨[107].toArray⟩), (.string ⟨[114, 101, 97, 100, 121, 10].toArray⟩), (.string ⟨[117, 112].toArray⟩), (.string ⟨[10, 103, 111, 111].toArray⟩), (.string ⟨[49, 50, 120].toArray⟩), (.string ⟨[97, 98, 97, 98, 99].toArray⟩), (.string ⟨[99].toArray⟩), (.string ⟨[10].toArray⟩), (.string ⟨[122, 122].toArray⟩), (.string ⟨[27, 91, 49, 109, 104, 105, 13, 10].toArray⟩)] 9 (0, 0)) H fun i1 H2 =>
 Does Pr 49 #[(.pointer a0), (.int .i64 12)] H2 (fun v3 H4 =>
 ∃ n5 : Int, v3 = (.int .i64 n5) ∧ (0 ≤ (n5 : Int) ∧ (n5 : Int) < ((12 : Nat) : Int)) ∧ ldS (Addr.add ⟨i1, 0, none⟩ ((n5 : Int).toNat * 1)) H4 fun s6 =>
 ∀ c7, ByteArray.size s6 ≤ c7 → nw (.cells (bytesV s6 ++ List.replicate (c7 - ByteArray.size s6) (Value.int .u8 0)).toArray 5 (c7, c7 + 1)) H4 fun i8 H9 =>
 Q (.slice (some ⟨i8, 0, none⟩) (ByteArray.size s6) c7) H9) E

theorem us1_fn (a0 : OA) (Q : QT) (E : ET) (H : Heap) (h : us1 Q E a0 H)   : Does Pr 76 #[(.pointer a0)] H Q E :=
  Fn_of_vc (fn := Try.f76) (c := us1_p0) (args := [(.pointer a0)]) mixed (by kernel_rfl) (by kernel_rfl) (by kernel_rfl) (by kernel_rfl) (by kernel_rfl) ((conv (B := vc Pr us1_p0 (argT [(.pointer a0)]) (us1_q1 Q E) E H) (by kernel_rfl) h))

end Go.Proofs.Ytaffcoiomggpfaa
