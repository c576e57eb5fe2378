import Derived.Test.YtaffcoiomggpfaaVPr
/- Printed by gen.py: the Go functions of package lang over a heap view, and that the model does so. -/
namespace Go.Proofs.Ytaffcoiomggpfaa
open Go.V
set_option linter.unusedVariables false
set_option maxRecDepth 100000
/-! jobmux/lang.First -/
@[reducible] noncomputable def zqt_q1 (Q : QT) (E : ET) : Exit → Tau → Heap → Prop := (retQ Pr (Try.f19).results.toList Q)

@[reducible] noncomputable def zqt_p0 : Code := bodyOf Try.f19

@[reducible] noncomputable def zqt_p1 : Code := sB zqt_p0

@[reducible] noncomputable def zqt_p2 : Code := sB zqt_p1

def zqt_1 (Q : QT) (E : ET) (x0 : OA) (l0 : Nat) (c0 : Nat) (x1 : OA) (l1 : Nat) (c1 : Nat) (H : Heap) : Prop :=
 Does Pr 51 #[(.slice x0 l0 c0)] H (fun v4 H5 =>
 ∃ (p6 : OA) (l7 c8 : Nat), v4 = (.slice p6 l7 c8) ∧ Does Pr 50 #[(.slice p6 l7 c8), (.bool false), (.bool true)] H5 (fun v9 H10 =>
 ∃ p11 : Option Addr, v9 = (.pointer p11) ∧ Does Pr 52 #[(.pointer p11), (.slice x1 l1 c1)] H10 (fun v12 H13 =>
 ∃ b14 : Bool, v12 = (.bool b14) ∧ Does Pr 53 #[(.pointer p11)] H13 (fun v15 H16 =>
 ∃ n17 : Int, v15 = (.int .i64 n17) ∧ Q (.int .i64 n17) H16) E) E) E) E

def zqt_1_M (Q : QT) (E : ET) (τ : Tau) (H : Heap) : Prop := mSl (τ 0) fun x0 l0 c0 => mSl (τ 1) fun x1 l1 c1 => zqt_1 Q E x0 l0 c0 x1 l1 c1 H

theorem zqt_2ok (Q : QT) (E : ET) (τ : Tau) (H : Heap) (h : zqt_1_M Q E τ H) : vc Pr zqt_p2 τ (zqt_q1 Q E) E H :=
  vSl (i := 0) h (fun x0 l0 c0 h => vSl (i := 1) h (fun x1 l1 c1 h => (conv (by kernel_rfl) h)))

@[reducible] noncomputable def zqt_q2 (Q : QT) (E : ET) : Exit → Tau → Heap → Prop := (xthen (zqt_1_M Q E) (zqt_q1 Q E))

@[reducible] noncomputable def zqt_p3 : Code := sA zqt_p1

def zqt_3 (Q : QT) (E : ET) (x0 : OA) (l0 : Nat) (c0 : Nat) (x1 : OA) (l1 : Nat) (c1 : Nat) (H : Heap) : Prop :=
 Does Pr 40 #[(.slice x0 l0 c0)] H (fun v18 H19 =>
 ∃ b20 : Bool, v18 = (.bool b20) ∧ sel (!b20)
 (Q (.int .i64 (-1)) H19)
 (zqt_1 Q E x0 l0 c0 x1 l1 c1 H19)) E

def zqt_3_M (Q : QT) (E : ET) (τ : Tau) (H : Heap) : Prop := mSl (τ 0) fun x0 l0 c0 => mSl (τ 1) fun x1 l1 c1 => zqt_3 Q E x0 l0 c0 x1 l1 c1 H

theorem zqt_4ok (Q : QT) (E : ET) (τ : Tau) (H : Heap) (h : zqt_3_M Q E τ H) : vc Pr zqt_p3 τ (zqt_q2 Q E) E H :=
  vSl (i := 0) h (fun x0 l0 c0 h => vSl (i := 1) h (fun x1 l1 c1 h => (conv (by kernel_rfl) h)))

theorem zqt_5ok (Q : QT) (E : ET) (τ : Tau) (H : Heap) (h : zqt_3_M Q E τ H) : vc Pr zqt_p1 τ (zqt_q1 Q E) E H :=
  (conv (B := vc Pr zqt_p1 τ (zqt_q1 Q E) E H) (by kernel_rfl) (vc_seq (K := (zqt_1_M Q E)) (zqt_4ok Q E τ H h) (zqt_2ok Q E)))

@[reducible] noncomputable def zqt_q3 (Q : QT) (E : ET) : Exit → Tau → Heap → Prop := (xthen (zqt_3_M Q E) (zqt_q1 Q E))

@[reducible] noncomputable def zqt_p4 : Code := sA zqt_p0

def zqt (Q : QT) (E : ET) (a0 : OA) (a0l : Nat) (a0c : Nat) (a1 : OA) (a1l : Nat) (a1c : Nat) (H : Heap) : Prop :=
 zqt_3 Q E a0 a0l a0c a1 a1l a1c H

theorem zqt_fn (a0 : OA) (a0l : Nat) (a0c : Nat) (a1 : OA) (a1l : Nat) (a1c : Nat) (Q : QT) (E : ET) (H : Heap) (h : zqt Q E a0 a0l a0c a1 a1l a1c H)   : Does Pr 19 #[(.slice a0 a0l a0c), (.slice a1 a1l a1c)] H Q E :=
  Fn_of_vc (fn := Try.f19) (c := zqt_p0) (args := [(.slice a0 a0l a0c), (.slice a1 a1l a1c)]) mixed (by kernel_rfl) (by kernel_rfl) (by kernel_rfl) (by kernel_rfl) (by kernel_rfl) ((conv (B := vc Pr zqt_p0 (argT [(.slice a0 a0l a0c), (.slice a1 a1l a1c)]) (zqt_q1 Q E) E H) (by kernel_rfl) (vc_seq (K := (zqt_3_M Q E)) (conv (B := vc Pr zqt_p4 (argT [(.slice a0 a0l a0c), (.slice a1 a1l a1c)]) (zqt_q3 Q E) E H) (by kernel_rfl) h) (zqt_5ok Q E))))

/-! jobmux/lang.Ends -/
@[reducible] noncomputable def zqu_q1 (Q : QT) (E : ET) : Exit → Tau → Heap → Prop := (retQ Pr (Try.f24).results.toList Q)

@[reducible] noncomputable def zqu_p0 : Code := bodyOf Try.f24

@[reducible] noncomputable def zqu_p1 : Code := sB zqu_p0

@[reducible] noncomputable def zqu_p2 : Code := sB zqu_p1

@[reducible] noncomputable def zqu_p3 : Code := sB zqu_p2

@[reducible] noncomputable def zqu_p4 : Code := sB zqu_p3

@[reducible] noncomputable def zqu_p5 : Code := sB zqu_p4

@[reducible] noncomputable def zqu_q2 (Q : QT) (E : ET) : Exit → Tau → Heap → Prop := (xblock 0 (zqu_q1 Q E))

@[reducible] noncomputable def zqu_p6 : Code := sI zqu_p5

@[reducible] noncomputable def zqu_q3 (nx17 : Option Addr → Nat → Nat → Int → HP) (Q : QT) (E : ET) : Exit → Tau → Heap → Prop := (xthen (fun τ H => mSl (τ 8) fun x8' l8' c8' => mI .i64 (τ 9) fun x9' => nx17 x8' l8' c8' x9' H) (zqu_q2 Q E))

@[reducible] noncomputable def zqu_p7 : Code := sI zqu_p6

@[reducible] noncomputable def zqu_p8 : Code := sB zqu_p7

def zqu_1 (nx17 : Option Addr → Nat → Nat → Int → HP) (Q : QT) (E : ET) (x1 : OA) (l1 : Nat) (c1 : Nat) (x7 : OA) (x8 : OA) (l8 : Nat) (c8 : Nat) (x9 : Int) (H : Heap) : Prop :=
 nx17 x8 l8 c8 (IntKind.wrap .i64 (x9 + 1)) H

def zqu_1_M (nx17 : Option Addr → Nat → Nat → Int → HP) (Q : QT) (E : ET) (τ : Tau) (H : Heap) : Prop := mSl (τ 1) fun x1 l1 c1 => mP (τ 7) fun x7 => mSl (τ 8) fun x8 l8 c8 => mI .i64 (τ 9) fun x9 => zqu_1 nx17 Q E x1 l1 c1 x7 x8 l8 c8 x9 H

theorem zqu_2ok (nx17 : Option Addr → Nat → Nat → Int → HP) (Q : QT) (E : ET) (τ : Tau) (H : Heap) (h : zqu_1_M nx17 Q E τ H) : vc Pr zqu_p8 τ (zqu_q3 nx17 Q E) E H :=
  vSl (i := 1) h (fun x1 l1 c1 h => vP (i := 7) h (fun x7 h => vSl (i := 8) h (fun x8 l8 c8 h => vI (i := 9) h (fun x9 h => (conv (by kernel_rfl) h)))))

@[reducible] noncomputable def zqu_q4 (nx17 : Option Addr → Nat → Nat → Int → HP) (Q : QT) (E : ET) : Exit → Tau → Heap → Prop := (xthen (zqu_1_M nx17 Q E) (zqu_q3 nx17 Q E))

@[reducible] noncomputable def zqu_p9 : Code := sA zqu_p7

@[reducible] noncomputable def zqu_q5 (nx17 : Option Addr → Nat → Nat → Int → HP) (Q : QT) (E : ET) : Exit → Tau → Heap → Prop := (xblock 1 (zqu_q4 nx17 Q E))

@[reducible] noncomputable def zqu_p10 : Code := sI zqu_p9

@[reducible] noncomputable def zqu_p11 : Code := sB zqu_p10

@[reducible] noncomputable def zqu_p12 : Code := sB zqu_p11

def zqu_3 (nx17 : Option Addr → Nat → Nat → Int → HP) (Q : QT) (E : ET) (x1 : OA) (l1 : Nat) (c1 : Nat) (x7 : OA) (x8 : OA) (l8 : Nat) (c8 : Nat) (x9 : Int) (H : Heap) : Prop :=
 (0 ≤ (x9 : Int) ∧ (x9 : Int) < ((l1 : Nat) : Int)) ∧ ptr x1 fun q40 =>
 ldI .u8 (Addr.add q40 ((x9 : Int).toNat * 1)) H fun n41 =>
 Does Pr 59 #[(.pointer x7), (.int .u8 n41)] H (fun v42 H43 =>
 zqu_1 nx17 Q E x1 l1 c1 x7 x8 l8 c8 x9 H43) E

def zqu_3_M (nx17 : Option Addr → Nat → Nat → Int → HP) (Q : QT) (E : ET) (τ : Tau) (H : Heap) : Prop := mSl (τ 1) fun x1 l1 c1 => mP (τ 7) fun x7 => mSl (τ 8) fun x8 l8 c8 => mI .i64 (τ 9) fun x9 => zqu_3 nx17 Q E x1 l1 c1 x7 x8 l8 c8 x9 H

theorem zqu_4ok (nx17 : Option Addr → Nat → Nat → Int → HP) (Q : QT) (E : ET) (τ : Tau) (H : Heap) (h : zqu_3_M nx17 Q E τ H) : vc Pr zqu_p12 τ (zqu_q5 nx17 Q E) E H :=
  vSl (i := 1) h (fun x1 l1 c1 h => vP (i := 7) h (fun x7 h => vSl (i := 8) h (fun x8 l8 c8 h => vI (i := 9) h (fun x9 h => (conv (by kernel_rfl) h)))))

@[reducible] noncomputable def zqu_q6 (nx17 : Option Addr → Nat → Nat → Int → HP) (Q : QT) (E : ET) : Exit → Tau → Heap → Prop := (xthen (zqu_3_M nx17 Q E) (zqu_q5 nx17 Q E))

@[reducible] noncomputable def zqu_p13 : Code := sA zqu_p11

def zqu_5 (nx17 : Option Addr → Nat → Nat → Int → HP) (Q : QT) (E : ET) (x1 : OA) (l1 : Nat) (c1 : Nat) (x7 : OA) (x8 : OA) (l8 : Nat) (c8 : Nat) (x9 : Int) (H : Heap) : Prop :=
 sel ((x9 : Int) == ((l1 : Nat) : Int))
 (Q (.slice x8 l8 c8) H)
 (zqu_3 nx17 Q E x1 l1 c1 x7 x8 l8 c8 x9 H)

def zqu_5_M (nx17 : Option Addr → Nat → Nat → Int → HP) (Q : QT) (E : ET) (τ : Tau) (H : Heap) : Prop := mSl (τ 1) fun x1 l1 c1 => mP (τ 7) fun x7 => mSl (τ 8) fun x8 l8 c8 => mI .i64 (τ 9) fun x9 => zqu_5 nx17 Q E x1 l1 c1 x7 x8 l8 c8 x9 H

theorem zqu_6ok (nx17 : Option Addr → Nat → Nat → Int → HP) (Q : QT) (E : ET) (τ : Tau) (H : Heap) (h : zqu_5_M nx17 Q E τ H) : vc Pr zqu_p13 τ (zqu_q6 nx17 Q E) E H :=
  vSl (i := 1) h (fun x1 l1 c1 h => vP (i := 7) h (fun x7 h => vSl (i := 8) h (fun x8 l8 c8 h => vI (i := 9) h (fun x9 h => (conv (by kernel_rfl) h)))))

theorem zqu_7ok (nx17 : Option Addr → Nat → Nat → Int → HP) (Q : QT) (E : ET) (τ : Tau) (H : Heap) (h : zqu_5_M nx17 Q E τ H) : vc Pr zqu_p11 τ (zqu_q5 nx17 Q E) E H :=
  (conv (B := vc Pr zqu_p11 τ (zqu_q5 nx17 Q E) E H) (by kernel_rfl) (vc_seq (K := (zqu_3_M nx17 Q E)) (zqu_6ok nx17 Q E τ H h) (zqu_4ok nx17 Q E)))

@[reducible] noncomputable def zqu_q7 (nx17 : Option Addr → Nat → Nat → Int → HP) (Q : QT) (E : ET) : Exit → Tau → Heap → Prop := (xthen (zqu_5_M nx17 Q E) (zqu_q5 nx17 Q E))

@[reducible] noncomputable def zqu_p14 : Code := sA zqu_p10

def zqu_8 (nx17 : Option Addr → Nat → Nat → Int → HP) (Q : QT) (E : ET) (x1 : OA) (l1 : Nat) (c1 : Nat) (x7 : OA) (x8 : OA) (l8 : Nat) (c8 : Nat) (x9 : Int) (H : Heap) : Prop :=
 (0 ≤ (x9 : Int) ∧ (x9 : Int) ≤ ((l1 : Nat) : Int)) ∧ Does Pr 58 #[(.pointer x7), (.slice (if c1 = (x9 : Int).toNat then x1 else Option.map (fun a => Addr.add a ((x9 : Int).toNat * 1)) x1) (l1 - (x9 : Int).toNat) (c1 - (x9 : Int).toNat))] H (fun v44 H45 =>
 ∃ b46 : Bool, v44 = (.bool b46) ∧ sel b46
 (nw (.cells #[(.int .i64 x9)] 3 (0, 0)) H45 fun i47 H48 =>
 app Pr 22 x8 l8 c8 (.slice (some ⟨i47, 0, none⟩) 1 1) H48 fun p49 l50 c51 H52 =>
 zqu_5 nx17 Q E x1 l1 c1 x7 p49 l50 c51 x9 H52)
 (zqu_5 nx17 Q E x1 l1 c1 x7 x8 l8 c8 x9 H45)) E

def zqu_8_M (nx17 : Option Addr → Nat → Nat → Int → HP) (Q : QT) (E : ET) (τ : Tau) (H : Heap) : Prop := mSl (τ 1) fun x1 l1 c1 => mP (τ 7) fun x7 => mSl (τ 8) fun x8 l8 c8 => mI .i64 (τ 9) fun x9 => zqu_8 nx17 Q E x1 l1 c1 x7 x8 l8 c8 x9 H

theorem zqu_9ok (nx17 : Option Addr → Nat → Nat → Int → HP) (Q : QT) (E : ET) (τ : Tau) (H : Heap) (h : zqu_8_M nx17 Q E τ H) : vc Pr zqu_p14 τ (zqu_q7 nx17 Q E) E H :=
  vSl (i := 1) h (fun x1 l1 c1 h => vP (i := 7) h (fun x7 h => vSl (i := 8) h (fun x8 l8 c8 h => vI (i := 9) h (fun x9 h => (conv (by kernel_rfl) h)))))

theorem zqu_10ok (nx17 : Option Addr → Nat → Nat → Int → HP) (Q : QT) (E : ET) (τ : Tau) (H : Heap) (h : zqu_8_M nx17 Q E τ H) : vc Pr zqu_p10 τ (zqu_q5 nx17 Q E) E H :=
  (conv (B := vc Pr zqu_p10 τ (zqu_q5 nx17 Q E) E H) (by kernel_rfl) (vc_seq (K := (zqu_5_M nx17 Q E)) (zqu_9ok nx17 Q E τ H h) (zqu_7ok nx17 Q E)))

theorem zqu_11ok (nx17 : Option Addr → Nat → Nat → Int → HP) (Q : QT) (E : ET) (τ : Tau) (H : Heap) (h : zqu_8_M nx17 Q E τ H) : vc Pr zqu_p9 τ (zqu_q4 nx17 Q E) E H :=
  (conv (B := vc Pr zqu_p9 τ (zqu_q4 nx17 Q E) E H) (by kernel_rfl) (zqu_10ok nx17 Q E τ H h))

theorem zqu_12ok (nx17 : Option Addr → Nat → Nat → Int → HP) (Q : QT) (E : ET) (τ : Tau) (H : Heap) (h : zqu_8_M nx17 Q E τ H) : vc Pr zqu_p7 τ (zqu_q3 nx17 Q E) E H :=
  (conv (B := vc Pr zqu_p7 τ (zqu_q3 nx17 Q E) E H) (by kernel_rfl) (vc_seq (K := (zqu_1_M nx17 Q E)) (zqu_11ok nx17 Q E τ H h) (zqu_2ok nx17 Q E)))

def zqu_13 (Q : QT) (E : ET) (x1 : OA) (l1 : Nat) (c1 : Nat) (x7 : OA) (x8 : OA) (l8 : Nat) (c8 : Nat) (x9 : Int) (H : Heap) : Prop :=
 ∃ (I : Option Addr → Nat → Nat → Int → HP) (μ : Option Addr → Nat → Nat → Int → Heap → Nat), I x8 l8 c8 x9 H ∧ ∀ (x8 : OA) (l8 : Nat) (c8 : Nat) (x9 : Int) (H : Heap), I x8 l8 c8 x9 H →
 zqu_8 (fun x8' l8' c8' x9' H1 => I x8' l8' c8' x9' H1 ∧ μ x8' l8' c8' x9' H1 < μ x8 l8 c8 x9 H) Q E x1 l1 c1 x7 x8 l8 c8 x9 H

def zqu_13_M (Q : QT) (E : ET) (τ : Tau) (H : Heap) : Prop := mSl (τ 1) fun x1 l1 c1 => mP (τ 7) fun x7 => mSl (τ 8) fun x8 l8 c8 => mI .i64 (τ 9) fun x9 => zqu_13 Q E x1 l1 c1 x7 x8 l8 c8 x9 H

theorem zqu_14ok (Q : QT) (E : ET) (τ : Tau) (H : Heap) (h : zqu_13_M Q E τ H) : vc Pr zqu_p6 τ (zqu_q2 Q E) E H :=
  vSl (i := 1) h (fun x1 l1 c1 h => vP (i := 7) h (fun x7 h => vSl (i := 8) h (fun x8 l8 c8 h => vI (i := 9) h (fun x9 h => match h with | ⟨I, μ, h0, hr⟩ => (conv (B := vc Pr zqu_p6 (Tau.upd (Tau.upd (Tau.upd (Tau.upd τ 1 (.slice x1 l1 c1)) 7 (.pointer x7)) 8 (.slice x8 l8 c8)) 9 (.int .i64 x9)) (zqu_q2 Q E) E H) (by kernel_rfl) (vc_loop (c := sI zqu_p6) (τ := (Tau.upd (Tau.upd (Tau.upd (Tau.upd τ 1 (.slice x1 l1 c1)) 7 (.pointer x7)) 8 (.slice x8 l8 c8)) 9 (.int .i64 x9))) [1, 7] (fun τ H => mSl (τ 8) fun x8' l8' c8' => mI .i64 (τ 9) fun x9' => I x8' l8' c8' x9' H) (fun τ H => μ (gL1 (τ 8)) (gL2 (τ 8)) (gL3 (τ 8)) (gI (τ 9)) H) (by kernel_rfl) h0 (fun τ1 H1 hf hI => fix_elim (τ := τ1) (i := 1) (v := (.slice x1 l1 c1)) (G := fun τ => vc Pr (sI zqu_p6) τ (xthen (fun τ2 H2 => (mSl (τ2 8) fun x8' l8' c8' => mI .i64 (τ2 9) fun x9' => I x8' l8' c8' x9' H2) ∧ μ (gL1 (τ2 8)) (gL2 (τ2 8)) (gL3 (τ2 8)) (gI (τ2 9)) H2 < μ (gL1 (τ 8)) (gL2 (τ 8)) (gL3 (τ 8)) (gI (τ 9)) H1) (zqu_q2 Q E)) E H1) (hf 1 (by simp)) (fix_elim (τ := (Tau.upd τ1 1 (.slice x1 l1 c1))) (i := 7) (v := (.pointer x7)) (G := fun τ => vc Pr (sI zqu_p6) τ (xthen (fun τ2 H2 => (mSl (τ2 8) fun x8' l8' c8' => mI .i64 (τ2 9) fun x9' => I x8' l8' c8' x9' H2) ∧ μ (gL1 (τ2 8)) (gL2 (τ2 8)) (gL3 (τ2 8)) (gI (τ2 9)) H2 < μ (gL1 (τ 8)) (gL2 (τ 8)) (gL3 (τ 8)) (gI (τ 9)) H1) (zqu_q2 Q E)) E H1) (hf 7 (by simp)) (mSl_elim (i := 8) (G := fun τ => vc Pr (sI zqu_p6) τ (xthen (fun τ2 H2 => (mSl (τ2 8) fun x8' l8' c8' => mI .i64 (τ2 9) fun x9' => I x8' l8' c8' x9' H2) ∧ μ (gL1 (τ2 8)) (gL2 (τ2 8)) (gL3 (τ2 8)) (gI (τ2 9)) H2 < μ (gL1 (τ 8)) (gL2 (τ 8)) (gL3 (τ 8)) (gI (τ 9)) H1) (zqu_q2 Q E)) E H1) hI (fun x8r l8r c8r h => mI_elim (i := 9) (G := fun τ => vc Pr (sI zqu_p6) τ (xthen (fun τ2 H2 => (mSl (τ2 8) fun x8' l8' c8' => mI .i64 (τ2 9) fun x9' => I x8' l8' c8' x9' H2) ∧ μ (gL1 (τ2 8)) (gL2 (τ2 8)) (gL3 (τ2 8)) (gI (τ2 9)) H2 < μ (gL1 (τ 8)) (gL2 (τ 8)) (gL3 (τ 8)) (gI (τ 9)) H1) (zqu_q2 Q E)) E H1) h (fun x9r h => (conv (B := vc Pr (sI zqu_p6) (Tau.upd (Tau.upd (Tau.upd (Tau.upd τ1 1 (.slice x1 l1 c1)) 7 (.pointer x7)) 8 (.slice x8r l8r c8r)) 9 (.int .i64 x9r)) (xthen (fun τ2 H2 => (mSl (τ2 8) fun x8' l8' c8' => mI .i64 (τ2 9) fun x9' => I x8' l8' c8' x9' H2) ∧ μ (gL1 (τ2 8)) (gL2 (τ2 8)) (gL3 (τ2 8)) (gI (τ2 9)) H2 < μ (gL1 ((Tau.upd (Tau.upd (Tau.upd (Tau.upd τ1 1 (.slice x1 l1 c1)) 7 (.pointer x7)) 8 (.slice x8r l8r c8r)) 9 (.int .i64 x9r)) 8)) (gL2 ((Tau.upd (Tau.upd (Tau.upd (Tau.upd τ1 1 (.slice x1 l1 c1)) 7 (.pointer x7)) 8 (.slice x8r l8r c8r)) 9 (.int .i64 x9r)) 8)) (gL3 ((Tau.upd (Tau.upd (Tau.upd (Tau.upd τ1 1 (.slice x1 l1 c1)) 7 (.pointer x7)) 8 (.slice x8r l8r c8r)) 9 (.int .i64 x9r)) 8)) (gI ((Tau.upd (Tau.upd (Tau.upd (Tau.upd τ1 1 (.slice x1 l1 c1)) 7 (.pointer x7)) 8 (.slice x8r l8r c8r)) 9 (.int .i64 x9r)) 9)) H1) (zqu_q2 Q E)) E H1) (by kernel_rfl) (vc_xthen (zqu_12ok (fun x8' l8' c8' x9' H2 => I x8' l8' c8' x9' H2 ∧ μ x8' l8' c8' x9' H2 < μ x8r l8r c8r x9r H1) Q E (Tau.upd (Tau.upd (Tau.upd (Tau.upd τ1 1 (.slice x1 l1 c1)) 7 (.pointer x7)) 8 (.slice x8r l8r c8r)) 9 (.int .i64 x9r)) H1 (conv (B := zqu_8_M (fun x8' l8' c8' x9' H2 => I x8' l8' c8' x9' H2 ∧ μ x8' l8' c8' x9' H2 < μ x8r l8r c8r x9r H1) Q E (Tau.upd (Tau.upd (Tau.upd (Tau.upd τ1 1 (.slice x1 l1 c1)) 7 (.pointer x7)) 8 (.slice x8r l8r c8r)) 9 (.int .i64 x9r)) H1) (by kernel_rfl) (hr x8r l8r c8r x9r H1 h))) (fun τ2 H2 hk => mSl_elim (i := 8) (G := fun τ => (mSl (τ 8) fun x8' l8' c8' => mI .i64 (τ 9) fun x9' => I x8' l8' c8' x9' H2) ∧ μ (gL1 (τ 8)) (gL2 (τ 8)) (gL3 (τ 8)) (gI (τ 9)) H2 < μ x8r l8r c8r x9r H1) hk (fun x8' l8' c8' h => mI_elim (i := 9) (G := fun τ => (mSl (τ 8) fun x8' l8' c8' => mI .i64 (τ 9) fun x9' => I x8' l8' c8' x9' H2) ∧ μ (gL1 (τ 8)) (gL2 (τ 8)) (gL3 (τ 8)) (gI (τ 9)) H2 < μ x8r l8r c8r x9r H1) h (fun x9' h => h))))))))))))))))

theorem zqu_15ok (Q : QT) (E : ET) (τ : Tau) (H : Heap) (h : zqu_13_M Q E τ H) : vc Pr zqu_p5 τ (zqu_q1 Q E) E H :=
  (conv (B := vc Pr zqu_p5 τ (zqu_q1 Q E) E H) (by kernel_rfl) (zqu_14ok Q E τ H h))

@[reducible] noncomputable def zqu_q8 (Q : QT) (E : ET) : Exit → Tau → Heap → Prop := (xthen (zqu_13_M Q E) (zqu_q1 Q E))

@[reducible] noncomputable def zqu_p15 : Code := sA zqu_p4

def zqu_16 (Q : QT) (E : ET) (x1 : OA) (l1 : Nat) (c1 : Nat) (x2 : Int) (x7 : OA) (x8 : OA) (l8 : Nat) (c8 : Nat) (H : Heap) : Prop :=
 zqu_13 Q E x1 l1 c1 x7 x8 l8 c8 x2 H

def zqu_16_M (Q : QT) (E : ET) (τ : Tau) (H : Heap) : Prop := mSl (τ 1) fun x1 l1 c1 => mI .i64 (τ 2) fun x2 => mP (τ 7) fun x7 => mSl (τ 8) fun x8 l8 c8 => zqu_16 Q E x1 l1 c1 x2 x7 x8 l8 c8 H

theorem zqu_17ok (Q : QT) (E : ET) (τ : Tau) (H : Heap) (h : zqu_16_M Q E τ H) : vc Pr zqu_p15 τ (zqu_q8 Q E) E H :=
  vSl (i := 1) h (fun x1 l1 c1 h => vI (i := 2) h (fun x2 h => vP (i := 7) h (fun x7 h => vSl (i := 8) h (fun x8 l8 c8 h => (conv (by kernel_rfl) h)))))

theorem zqu_18ok (Q : QT) (E : ET) (τ : Tau) (H : Heap) (h : zqu_16_M Q E τ H) : vc Pr zqu_p4 τ (zqu_q1 Q E) E H :=
  (conv (B := vc Pr zqu_p4 τ (zqu_q1 Q E) E H) (by kernel_rfl) (vc_seq (K := (zqu_13_M Q E)) (zqu_17ok Q E τ H h) (zqu_15ok Q E)))

@[reducible] noncomputable def zqu_q9 (Q : QT) (E : ET) : Exit → Tau → Heap → Prop := (xthen (zqu_16_M Q E) (zqu_q1 Q E))

@[reducible] noncomputable def zqu_p16 : Code := sA zqu_p3

def zqu_19 (Q : QT) (E : ET) (x1 : OA) (l1 : Nat) (c1 : Nat) (x2 : Int) (x7 : OA) (H : Heap) : Prop :=
 zqu_16 Q E x1 l1 c1 x2 x7 none 0 0 H

def zqu_19_M (Q : QT) (E : ET) (τ : Tau) (H : Heap) : Prop := mSl (τ 1) fun x1 l1 c1 => mI .i64 (τ 2) fun x2 => mP (τ 7) fun x7 => zqu_19 Q E x1 l1 c1 x2 x7 H

theorem zqu_20ok (Q : QT) (E : ET) (τ : Tau) (H : Heap) (h : zqu_19_M Q E τ H) : vc Pr zqu_p16 τ (zqu_q9 Q E) E H :=
  vSl (i := 1) h (fun x1 l1 c1 h => vI (i := 2) h (fun x2 h => vP (i := 7) h (fun x7 h => (conv (by kernel_rfl) h))))

theorem zqu_21ok (Q : QT) (E : ET) (τ : Tau) (H : Heap) (h : zqu_19_M Q E τ H) : vc Pr zqu_p3 τ (zqu_q1 Q E) E H :=
  (conv (B := vc Pr zqu_p3 τ (zqu_q1 Q E) E H) (by kernel_rfl) (vc_seq (K := (zqu_16_M Q E)) (zqu_20ok Q E τ H h) (zqu_18ok Q E)))

@[reducible] noncomputable def zqu_q10 (Q : QT) (E : ET) : Exit → Tau → Heap → Prop := (xthen (zqu_19_M Q E) (zqu_q1 Q E))

@[reducible] noncomputable def zqu_p17 : Code := sA zqu_p2

def zqu_22 (Q : QT) (E : ET) (x0 : OA) (l0 : Nat) (c0 : Nat) (x1 : OA) (l1 : Nat) (c1 : Nat) (x2 : Int) (H : Heap) : Prop :=
 Does Pr 51 #[(.slice x0 l0 c0)] H (fun v53 H54 =>
 ∃ (p55 : OA) (l56 c57 : Nat), v53 = (.slice p55 l56 c57) ∧ sel ((x2 : Int) == 0)
 (Does Pr 50 #[(.slice p55 l56 c57), (.bool true), (.bool true)] H54 (fun v58 H59 =>
 ∃ p60 : Option Addr, v58 = (.pointer p60) ∧ zqu_19 Q E x1 l1 c1 x2 p60 H59) E)
 ((0 ≤ ((IntKind.wrap .i64 (x2 - 1)) : Int) ∧ ((IntKind.wrap .i64 (x2 - 1)) : Int) < ((l1 : Nat) : Int)) ∧ ptr x1 fun q61 =>
 ldI .u8 (Addr.add q61 (((IntKind.wrap .i64 (x2 - 1)) : Int).toNat * 1)) H54 fun n62 =>
 Does Pr 50 #[(.slice p55 l56 c57), (.bool true), (.bool ((n62 : Int) == 10))] H54 (fun v63 H64 =>
 ∃ p65 : Option Addr, v63 = (.pointer p65) ∧ zqu_19 Q E x1 l1 c1 x2 p65 H64) E)) E

def zqu_22_M (Q : QT) (E : ET) (τ : Tau) (H : Heap) : Prop := mSl (τ 0) fun x0 l0 c0 => mSl (τ 1) fun x1 l1 c1 => mI .i64 (τ 2) fun x2 => zqu_22 Q E x0 l0 c0 x1 l1 c1 x2 H

theorem zqu_23ok (Q : QT) (E : ET) (τ : Tau) (H : Heap) (h : zqu_22_M Q E τ H) : vc Pr zqu_p17 τ (zqu_q10 Q E) E H :=
  vSl (i := 0) h (fun x0 l0 c0 h => vSl (i := 1) h (fun x1 l1 c1 h => vI (i := 2) h (fun x2 h => (conv (by kernel_rfl) h))))

theorem zqu_24ok (Q : QT) (E : ET) (τ : Tau) (H : Heap) (h : zqu_22_M Q E τ H) : vc Pr zqu_p2 τ (zqu_q1 Q E) E H :=
  (conv (B := vc Pr zqu_p2 τ (zqu_q1 Q E) E H) (by kernel_rfl) (vc_seq (K := (zqu_19_M Q E)) (zqu_23ok Q E τ H h) (zqu_21ok Q E)))

@[reducible] noncomputable def zqu_q11 (Q : QT) (E : ET) : Exit → Tau → Heap → Prop := (xthen (zqu_22_M Q E) (zqu_q1 Q E))

@[reducible] noncomputable def zqu_p18 : Code := sA zqu_p1

@[reducible] noncomputable def zqu_p19 : Code := sB zqu_p18

def zqu_25 (Q : QT) (E : ET) (x0 : OA) (l0 : Nat) (c0 : Nat) (x1 : OA) (l1 : Nat) (c1 : Nat) (x2 : Int) (x22 : Bool) (H : Heap) : Prop :=
 sel x22
 (Q (.slice none 0 0) H)
 (zqu_22 Q E x0 l0 c0 x1 l1 c1 x2 H)

def zqu_25_M (Q : QT) (E : ET) (τ : Tau) (H : Heap) : Prop := mSl (τ 0) fun x0 l0 c0 => mSl (τ 1) fun x1 l1 c1 => mI .i64 (τ 2) fun x2 => mB (τ 22) fun x22 => zqu_25 Q E x0 l0 c0 x1 l1 c1 x2 x22 H

theorem zqu_26ok (Q : QT) (E : ET) (τ : Tau) (H : Heap) (h : zqu_25_M Q E τ H) : vc Pr zqu_p19 τ (zqu_q11 Q E) E H :=
  vSl (i := 0) h (fun x0 l0 c0 h => vSl (i := 1) h (fun x1 l1 c1 h => vI (i := 2) h (fun x2 h => vB (i := 22) h (fun x22 h => (conv (by kernel_rfl) h)))))

@[reducible] noncomputable def zqu_q12 (Q : QT) (E : ET) : Exit → Tau → Heap → Prop := (xthen (zqu_25_M Q E) (zqu_q11 Q E))

@[reducible] noncomputable def zqu_p20 : Code := sA zqu_p18

def zqu_27 (Q : QT) (E : ET) (x0 : OA) (l0 : Nat) (c0 : Nat) (x1 : OA) (l1 : Nat) (c1 : Nat) (x2 : Int) (H : Heap) : Prop :=
 Does Pr 40 #[(.slice x0 l0 c0)] H (fun v69 H70 =>
 ∃ b71 : Bool, v69 = (.bool b71) ∧ sel (!b71)
 (zqu_25 Q E x0 l0 c0 x1 l1 c1 x2 true H70)
 (sel (decide ((x2 : Int) < 0))
 (zqu_25 Q E x0 l0 c0 x1 l1 c1 x2 true H70)
 (zqu_25 Q E x0 l0 c0 x1 l1 c1 x2 (decide ((x2 : Int) > ((l1 : Nat) : Int))) H70))) E

def zqu_27_M (Q : QT) (E : ET) (τ : Tau) (H : Heap) : Prop := mSl (τ 0) fun x0 l0 c0 => mSl (τ 1) fun x1 l1 c1 => mI .i64 (τ 2) fun x2 => zqu_27 Q E x0 l0 c0 x1 l1 c1 x2 H

theorem zqu_28ok (Q : QT) (E : ET) (τ : Tau) (H : Heap) (h : zqu_27_M Q E τ H) : vc Pr zqu_p20 τ (zqu_q12 Q E) E H :=
  vSl (i := 0) h (fun x0 l0 c0 h => vSl (i := 1) h (fun x1 l1 c1 h => vI (i := 2) h (fun x2 h => (conv (by kernel_rfl) h))))

theorem zqu_29ok (Q : QT) (E : ET) (τ : Tau) (H : Heap) (h : zqu_27_M Q E τ H) : vc Pr zqu_p18 τ (zqu_q11 Q E) E H :=
  (conv (B := vc Pr zqu_p18 τ (zqu_q11 Q E) E H) (by kernel_rfl) (vc_seq (K := (zqu_25_M Q E)) (zqu_28ok Q E τ H h) (zqu_26ok Q E)))

theorem zqu_30ok (Q : QT) (E : ET) (τ : Tau) (H : Heap) (h : zqu_27_M Q E τ H) : vc Pr zqu_p1 τ (zqu_q1 Q E) E H :=
  (conv (B := vc Pr zqu_p1 τ (zqu_q1 Q E) E H) (by kernel_rfl) (vc_seq (K := (zqu_22_M Q E)) (zqu_29ok Q E τ H h) (zqu_24ok Q E)))

@[reducible] noncomputable def zqu_q13 (Q : QT) (E : ET) : Exit → Tau → Heap → Prop := (xthen (zqu_27_M Q E) (zqu_q1 Q E))

@[reducible] noncomputable def zqu_p21 : Code := sA zqu_p0

def zqu (Q : QT) (E : ET) (a0 : OA) (a0l : Nat) (a0c : Nat) (a1 : OA) (a1l : Nat) (a1c : Nat) (a2 : Int) (H : Heap) : Prop :=
 zqu_27 Q E a0 a0l a0c a1 a1l a1c a2 H

theorem zqu_fn (a0 : OA) (a0l : Nat) (a0c : Nat) (a1 : OA) (a1l : Nat) (a1c : Nat) (a2 : Int) (Q : QT) (E : ET) (H : Heap) (h : zqu Q E a0 a0l a0c a1 a1l a1c a2 H)   : Does Pr 24 #[(.slice a0 a0l a0c), (.slice a1 a1l a1c), (.int .i64 a2)] H Q E :=
  Fn_of_vc (fn := Try.f24) (c := zqu_p0) (args := [(.slice a0 a0l a0c), (.slice a1 a1l a1c), (.int .i64 a2)]) mixed (by kernel_rfl) (by kernel_rfl) (by kernel_rfl) (by kernel_rfl) (by kernel_rfl) ((conv (B := vc Pr zqu_p0 (argT [(.slice a0 a0l a0c), (.slice a1 a1l a1c), (.int .i64 a2)]) (zqu_q1 Q E) E H) (by kernel_rfl) (vc_seq (K := (zqu_27_M Q E)) (conv (B := vc Pr zqu_p21 (argT [(.slice a0 a0l a0c), (.slice a1 a1l a1c), (.int .i64 a2)]) (zqu_q13 Q E) E H) (by kernel_rfl) h) (zqu_30ok Q E))))

end Go.Proofs.Ytaffcoiomggpfaa
