import Derived.Test.YtaffcoiomggpfaaVPr
/- Printed by gen.py: the Go functions of package mill over a heap view, and that the model does so. -/
namespace Go.Proofs.Ytaffcoiomggpfaa
open Go.V
set_option linter.unusedVariables false
set_option maxRecDepth 100000
/-! jobmux/jobmuxmill.Patterns -/
@[reducible] noncomputable def ux_q1 (Q : QT) (E : ET) : Exit → Tau → Heap → Prop := (retQ Pr (Try.f21).results.toList Q)

@[reducible] noncomputable def ux_p0 : Code := bodyOf Try.f21

def ux (Q : QT) (E : ET)  (H : Heap) : Prop :=
 nw (.cells #[(.string ⟨[111, 107].toArray⟩), (.string ⟨#[]⟩), (.string ⟨[114, 46, 42, 121, 36].toArray⟩), (.string ⟨[94, 117, 112, 124, 103, 111, 43].toArray⟩), (.string ⟨[91, 48, 45, 57, 93, 43, 120, 63].toArray⟩), (.string ⟨[40, 97, 98, 41, 42, 99].toArray⟩), (.string ⟨[94, 36].toArray⟩)] 9 (0, 0)) H fun i1 H2 =>
 Q (.slice (some ⟨i1, 0, none⟩) 7 7) H2

theorem ux_fn  (Q : QT) (E : ET) (H : Heap) (h : ux Q E  H)   : Does Pr 21 #[] H Q E :=
  Fn_of_vc (fn := Try.f21) (c := ux_p0) (args := []) mixed (by kernel_rfl) (by kernel_rfl) (by kernel_rfl) (by kernel_rfl) (by kernel_rfl) ((conv (B := vc Pr ux_p0 (argT []) (ux_q1 Q E) E H) (by kernel_rfl) h))

/-! jobmux/jobmuxmill.Mod -/
@[reducible] noncomputable def uy_q1 (Q : QT) (E : ET) : Exit → Tau → Heap → Prop := (retQ Pr (Try.f22).results.toList Q)

@[reducible] noncomputable def uy_p0 : Code := bodyOf Try.f22

@[reducible] noncomputable def uy_p1 : Code := sB uy_p0

@[reducible] noncomputable def uy_p2 : Code := sB uy_p1

@[reducible] noncomputable def uy_p3 : Code := sB uy_p2

def uy_1 (Q : QT) (E : ET) (x5 : Int) (H : Heap) : Prop :=
 Q (.int .i64 x5) H

def uy_1_M (Q : QT) (E : ET) (τ : Tau) (H : Heap) : Prop := mI .i64 (τ 5) fun x5 => uy_1 Q E x5 H

theorem uy_2ok (Q : QT) (E : ET) (τ : Tau) (H : Heap) (h : uy_1_M Q E τ H) : vc Pr uy_p3 τ (uy_q1 Q E) E H :=
  vI (i := 5) h (fun x5 h => (conv (by kernel_rfl) h))

@[reducible] noncomputable def uy_q2 (Q : QT) (E : ET) : Exit → Tau → Heap → Prop := (xthen (uy_1_M Q E) (uy_q1 Q E))

@[reducible] noncomputable def uy_p4 : Code := sA uy_p2

def uy_3 (Q : QT) (E : ET) (x1 : Int) (x5 : Int) (H : Heap) : Prop :=
 sel (decide ((x5 : Int) < 0))
 (uy_1 Q E (IntKind.wrap .i64 (x5 + x1)) H)
 (uy_1 Q E x5 H)

def uy_3_M (Q : QT) (E : ET) (τ : Tau) (H : Heap) : Prop := mI .i64 (τ 1) fun x1 => mI .i64 (τ 5) fun x5 => uy_3 Q E x1 x5 H

theorem uy_4ok (Q : QT) (E : ET) (τ : Tau) (H : Heap) (h : uy_3_M Q E τ H) : vc Pr uy_p4 τ (uy_q2 Q E) E H :=
  vI (i := 1) h (fun x1 h => vI (i := 5) h (fun x5 h => (conv (by kernel_rfl) h)))

theorem uy_5ok (Q : QT) (E : ET) (τ : Tau) (H : Heap) (h : uy_3_M Q E τ H) : vc Pr uy_p2 τ (uy_q1 Q E) E H :=
  (conv (B := vc Pr uy_p2 τ (uy_q1 Q E) E H) (by kernel_rfl) (vc_seq (K := (uy_1_M Q E)) (uy_4ok Q E τ H h) (uy_2ok Q E)))

@[reducible] noncomputable def uy_q3 (Q : QT) (E : ET) : Exit → Tau → Heap → Prop := (xthen (uy_3_M Q E) (uy_q1 Q E))

@[reducible] noncomputable def uy_p5 : Code := sA uy_p1

def uy_6 (Q : QT) (E : ET) (x0 : Int) (x1 : Int) (H : Heap) : Prop :=
 (x1 : Int) ≠ 0 ∧ uy_3 Q E x1 (Int.tmod x0 x1) H

def uy_6_M (Q : QT) (E : ET) (τ : Tau) (H : Heap) : Prop := mI .i64 (τ 0) fun x0 => mI .i64 (τ 1) fun x1 => uy_6 Q E x0 x1 H

theorem uy_7ok (Q : QT) (E : ET) (τ : Tau) (H : Heap) (h : uy_6_M Q E τ H) : vc Pr uy_p5 τ (uy_q3 Q E) E H :=
  vI (i := 0) h (fun x0 h => vI (i := 1) h (fun x1 h => (conv (by kernel_rfl) h)))

theorem uy_8ok (Q : QT) (E : ET) (τ : Tau) (H : Heap) (h : uy_6_M Q E τ H) : vc Pr uy_p1 τ (uy_q1 Q E) E H :=
  (conv (B := vc Pr uy_p1 τ (uy_q1 Q E) E H) (by kernel_rfl) (vc_seq (K := (uy_3_M Q E)) (uy_7ok Q E τ H h) (uy_5ok Q E)))

@[reducible] noncomputable def uy_q4 (Q : QT) (E : ET) : Exit → Tau → Heap → Prop := (xthen (uy_6_M Q E) (uy_q1 Q E))

@[reducible] noncomputable def uy_p6 : Code := sA uy_p0

def uy (Q : QT) (E : ET) (a0 : Int) (a1 : Int) (H : Heap) : Prop :=
 uy_6 Q E a0 a1 H

theorem uy_fn (a0 : Int) (a1 : Int) (Q : QT) (E : ET) (H : Heap) (h : uy Q E a0 a1 H)   : Does Pr 22 #[(.int .i64 a0), (.int .i64 a1)] H Q E :=
  Fn_of_vc (fn := Try.f22) (c := uy_p0) (args := [(.int .i64 a0), (.int .i64 a1)]) mixed (by kernel_rfl) (by kernel_rfl) (by kernel_rfl) (by kernel_rfl) (by kernel_rfl) ((conv (B := vc Pr uy_p0 (argT [(.int .i64 a0), (.int .i64 a1)]) (uy_q1 Q E) E H) (by kernel_rfl) (vc_seq (K := (uy_6_M Q E)) (conv (B := vc Pr uy_p6 (argT [(.int .i64 a0), (.int .i64 a1)]) (uy_q4 Q E) E H) (by kernel_rfl) h) (uy_8ok Q E))))

/-! jobmux/jobmuxmill.New -/
@[reducible] noncomputable def uz_q1 (Q : QT) (E : ET) : Exit → Tau → Heap → Prop := (retQ Pr (Try.f47).results.toList Q)

@[reducible] noncomputable def uz_p0 : Code := bodyOf Try.f47

def uz (Q : QT) (E : ET) (a0 : OA) (a0l : Nat) (a0c : Nat) (H : Heap) : Prop :=
 nw (.cells #[(.slice a0 a0l a0c), (.int .i64 0)] 123 (0, 0)) H fun i1 H2 =>
 Q (.pointer (some ⟨i1, 0, none⟩)) H2

theorem uz_fn (a0 : OA) (a0l : Nat) (a0c : Nat) (Q : QT) (E : ET) (H : Heap) (h : uz Q E a0 a0l a0c H)   : Does Pr 47 #[(.slice a0 a0l a0c)] H Q E :=
  Fn_of_vc (fn := Try.f47) (c := uz_p0) (args := [(.slice a0 a0l a0c)]) mixed (by kernel_rfl) (by kernel_rfl) (by kernel_rfl) (by kernel_rfl) (by kernel_rfl) ((conv (B := vc Pr uz_p0 (argT [(.slice a0 a0l a0c)]) (uz_q1 Q E) E H) (by kernel_rfl) h))

/-! (*jobmux/jobmuxmill.Deck).Range -/
@[reducible] noncomputable def ua1_q1 (Q : QT) (E : ET) : Exit → Tau → Heap → Prop := (retQ Pr (Try.f48).results.toList Q)

@[reducible] noncomputable def ua1_p0 : Code := bodyOf Try.f48

def ua1 (Q : QT) (E : ET) (a0 : OA) (a1 : Int) (a2 : Int) (H : Heap) : Prop :=
 Does Pr 49 #[(.pointer a0), (.int .i64 (IntKind.wrap .i64 ((IntKind.wrap .i64 (a2 - a1)) + 1)))] H (fun v1 H2 =>
 ∃ n3 : Int, v1 = (.int .i64 n3) ∧ Q (.int .i64 (IntKind.wrap .i64 (a1 + n3))) H2) E

theorem ua1_fn (a0 : OA) (a1 : Int) (a2 : Int) (Q : QT) (E : ET) (H : Heap) (h : ua1 Q E a0 a1 a2 H)   : Does Pr 48 #[(.pointer a0), (.int .i64 a1), (.int .i64 a2)] H Q E :=
  Fn_of_vc (fn := Try.f48) (c := ua1_p0) (args := [(.pointer a0), (.int .i64 a1), (.int .i64 a2)]) mixed (by kernel_rfl) (by kernel_rfl) (by kernel_rfl) (by kernel_rfl) (by kernel_rfl) ((conv (B := vc Pr ua1_p0 (argT [(.pointer a0), (.int .i64 a1), (.int .i64 a2)]) (ua1_q1 Q E) E H) (by kernel_rfl) h))

/-! (*jobmux/jobmuxmill.Deck).Next -/
@[reducible] noncomputable def ub1_q1 (Q : QT) (E : ET) : Exit → Tau → Heap → Prop := (retQ Pr (Try.f49).results.toList Q)

@[reducible] noncomputable def ub1_p0 : Code := bodyOf Try.f49

@[reducible] noncomputable def ub1_p1 : Code := sB ub1_p0

@[reducible] noncomputable def ub1_p2 : Code := sB ub1_p1

def ub1_1 (Q : QT) (E : ET) (x0 : OA) (x1 : Int) (H : Heap) : Prop :=
 ptr x0 fun q4 =>
 ldI .i64 (Addr.add q4 1) H fun n5 =>
 ptr x0 fun q6 =>
 wr (Addr.add q6 1) [(.int .i64 (IntKind.wrap .i64 (n5 + 1)))] H fun H7 =>
 ptr x0 fun q8 =>
 ldSl q8 H7 fun p9 l10 c11 =>
 ptr x0 fun q12 =>
 ldI .i64 (Addr.add q12 1) H7 fun n13 =>
 (0 ≤ ((IntKind.wrap .i64 (n13 - 1)) : Int) ∧ ((IntKind.wrap .i64 (n13 - 1)) : Int) < ((l10 : Nat) : Int)) ∧ ptr p9 fun q14 =>
 ldI .i64 (Addr.add q14 (((IntKind.wrap .i64 (n13 - 1)) : Int).toNat * 1)) H7 fun n15 =>
 Does Pr 22 #[(.int .i64 n15), (.int .i64 x1)] H7 (fun v16 H17 =>
 ∃ n18 : Int, v16 = (.int .i64 n18) ∧ Q (.int .i64 n18) H17) (fun _ _ => False)

def ub1_1_M (Q : QT) (E : ET) (τ : Tau) (H : Heap) : Prop := mP (τ 0) fun x0 => mI .i64 (τ 1) fun x1 => ub1_1 Q E x0 x1 H

theorem ub1_2ok (Q : QT) (E : ET) (τ : Tau) (H : Heap) (h : ub1_1_M Q E τ H) : vc Pr ub1_p2 τ (ub1_q1 Q E) E H :=
  vP (i := 0) h (fun x0 h => vI (i := 1) h (fun x1 h => (conv (by kernel_rfl) h)))

@[reducible] noncomputable def ub1_q2 (Q : QT) (E : ET) : Exit → Tau → Heap → Prop := (xthen (ub1_1_M Q E) (ub1_q1 Q E))

@[reducible] noncomputable def ub1_p3 : Code := sA ub1_p1

def ub1_3 (Q : QT) (E : ET) (x0 : OA) (x1 : Int) (H : Heap) : Prop :=
 Does Pr 61 #[(.pointer x0)] H (fun v19 H20 =>
 ∃ b21 : Bool, v19 = (.bool b21) ∧ sel (!b21)
 (Q (.int .i64 0) H20)
 (ub1_1 Q E x0 x1 H20)) E

def ub1_3_M (Q : QT) (E : ET) (τ : Tau) (H : Heap) : Prop := mP (τ 0) fun x0 => mI .i64 (τ 1) fun x1 => ub1_3 Q E x0 x1 H

theorem ub1_4ok (Q : QT) (E : ET) (τ : Tau) (H : Heap) (h : ub1_3_M Q E τ H) : vc Pr ub1_p3 τ (ub1_q2 Q E) E H :=
  vP (i := 0) h (fun x0 h => vI (i := 1) h (fun x1 h => (conv (by kernel_rfl) h)))

theorem ub1_5ok (Q : QT) (E : ET) (τ : Tau) (H : Heap) (h : ub1_3_M Q E τ H) : vc Pr ub1_p1 τ (ub1_q1 Q E) E H :=
  (conv (B := vc Pr ub1_p1 τ (ub1_q1 Q E) E H) (by kernel_rfl) (vc_seq (K := (ub1_1_M Q E)) (ub1_4ok Q E τ H h) (ub1_2ok Q E)))

@[reducible] noncomputable def ub1_q3 (Q : QT) (E : ET) : Exit → Tau → Heap → Prop := (xthen (ub1_3_M Q E) (ub1_q1 Q E))

@[reducible] noncomputable def ub1_p4 : Code := sA ub1_p0

def ub1 (Q : QT) (E : ET) (a0 : OA) (a1 : Int) (H : Heap) : Prop :=
 ub1_3 Q E a0 a1 H

theorem ub1_fn (a0 : OA) (a1 : Int) (Q : QT) (E : ET) (H : Heap) (h : ub1 Q E a0 a1 H)   : Does Pr 49 #[(.pointer a0), (.int .i64 a1)] H Q E :=
  Fn_of_vc (fn := Try.f49) (c := ub1_p0) (args := [(.pointer a0), (.int .i64 a1)]) mixed (by kernel_rfl) (by kernel_rfl) (by kernel_rfl) (by kernel_rfl) (by kernel_rfl) ((conv (B := vc Pr ub1_p0 (argT [(.pointer a0), (.int .i64 a1)]) (ub1_q1 Q E) E H) (by kernel_rfl) (vc_seq (K := (ub1_3_M Q E)) (conv (B := vc Pr ub1_p4 (argT [(.pointer a0), (.int .i64 a1)]) (ub1_q3 Q E) E H) (by kernel_rfl) h) (ub1_5ok Q E))))

/-! (*jobmux/jobmuxmill.Deck).Left -/
@[reducible] noncomputable def uc1_q1 (Q : QT) (E : ET) : Exit → Tau → Heap → Prop := (retQ Pr (Try.f61).results.toList Q)

@[reducible] noncomputable def uc1_p0 : Code := bodyOf Try.f61

def uc1 (Q : QT) (E : ET) (a0 : OA) (H : Heap) : Prop :=
 ptr a0 fun q1 =>
 ldI .i64 (Addr.add q1 1) H fun n2 =>
 ptr a0 fun q3 =>
 ldSl q3 H fun p4 l5 c6 =>
 Q (.bool (decide ((n2 : Int) < ((l5 : Nat) : Int)))) H

theorem uc1_fn (a0 : OA) (Q : QT) (E : ET) (H : Heap) (h : uc1 Q E a0 H)   : Does Pr 61 #[(.pointer a0)] H Q E :=
  Fn_of_vc (fn := Try.f61) (c := uc1_p0) (args := [(.pointer a0)]) mixed (by kernel_rfl) (by kernel_rfl) (by kernel_rfl) (by kernel_rfl) (by kernel_rfl) ((conv (B := vc Pr uc1_p0 (argT [(.pointer a0)]) (uc1_q1 Q E) E H) (by kernel_rfl) h))

/-! jobmux/jobmuxmill.Output -/
@[reducible] noncomputable def ud1_q1 (Q : QT) (E : ET) : Exit → Tau → Heap → Prop := (retQ Pr (Try.f76).results.toList Q)

@[reducible] noncomputable def ud1_p0 : Code := bodyOf Try.f76

def ud1 (Q : QT) (E : ET) (a0 : OA) (H : Heap) : Prop :=
 nw (.cells #[(.string ⟨[111, 107].toArray⟩), (.string ⟨[111].toArray⟩), (.string ⟨[107].toArray⟩), (.string ⟨[114, 101, 97, 100, 121, 10].toArray⟩), (.string ⟨[117, 112].toArray⟩), (.string ⟨[10, 103, 111, 111].toArray⟩), (.string ⟨[49, 50, 120].toArray⟩), (.string ⟨[97, 98, 97, 98, 99].toArray⟩), (.string ⟨[99].toArray⟩), (.string ⟨[10].toArray⟩), (.string ⟨[122, 122].toArray⟩), (.string ⟨[27, 91, 49, 109, 104, 105, 13, 10].toArray⟩)] 9 (0, 0)) H fun i1 H2 =>
 Does Pr 49 #[(.pointer a0), (.int .i64 12)] H2 (fun v3 H4 =>
 ∃ n5 : Int, v3 = (.int .i64 n5) ∧ (0 ≤ (n5 : Int) ∧ (n5 : Int) < ((12 : Nat) : Int)) ∧ ldS (Addr.add ⟨i1, 0, none⟩ ((n5 : Int).toNat * 1)) H4 fun s6 =>
 ∀ c7, ByteArray.size s6 ≤ c7 → nw (.cells (bytesV s6 ++ List.replicate (c7 - ByteArray.size s6) (Value.int .u8 0)).toArray 5 (c7, c7 + 1)) H4 fun i8 H9 =>
 Q (.slice (some ⟨i8, 0, none⟩) (ByteArray.size s6) c7) H9) E

theorem ud1_fn (a0 : OA) (Q : QT) (E : ET) (H : Heap) (h : ud1 Q E a0 H)   : Does Pr 76 #[(.pointer a0)] H Q E :=
  Fn_of_vc (fn := Try.f76) (c := ud1_p0) (args := [(.pointer a0)]) mixed (by kernel_rfl) (by kernel_rfl) (by kernel_rfl) (by kernel_rfl) (by kernel_rfl) ((conv (B := vc Pr ud1_p0 (argT [(.pointer a0)]) (ud1_q1 Q E) E H) (by kernel_rfl) h))

end Go.Proofs.Ytaffcoiomggpfaa
