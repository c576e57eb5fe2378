import Derived.Test.YtaffcoiomggpfaaVPr
/- Printed by gen.py: the Go functions of package lang over a heap view, and that the model does so. -/
namespace Go.Proofs.Ytaffcoiomggpfaa
open Go.V
set_option linter.unusedVariables false
set_option maxRecDepth 100000
/-! jobmux/lang.First -/
@[reducible] noncomputable def lang_First_q1 (Q : QT) (E : ET) : Exit → Tau → Heap → Prop := (retQ Pr (Try.f19).results.toList Q)

@[reducible] noncomputable def lang_First_p0 : Code := bodyOf Try.f19

@[reducible] noncomputable def lang_First_p1 : Code := sB lang_First_p0

@[reducible] noncomputable def lang_First_p2 : Code := sB lang_First_p1

def lang_First_1 (Q : QT) (E : ET) (x0 : OA) (l0 : Nat) (c0 : Nat) (x1 : OA) (l1 : Nat) (c1 : Nat) (H : Heap) : Prop :=
 Does Pr 51 #[(.slice x0 l0 c0)] H (fun v4 H5 =>
 ∃ (p6 : OA) (l7 c8 : Nat), v4 = (.slice p6 l7 c8) ∧ Does Pr 50 #[(.slice p6 l7 c8), (.bool false), (.bool true)] H5 (fun v9 H10 =>
 ∃ p11 : Option Addr, v9 = (.pointer p11) ∧ Does Pr 52 #[(.pointer p11), (.slice x1 l1 c1)] H10 (fun v12 H13 =>
 ∃ b14 : Bool, v12 = (.bool b14) ∧ Does Pr 53 #[(.pointer p11)] H13 (fun v15 H16 =>
 ∃ n17 : Int, v15 = (.int .i64 n17) ∧ Q (.int .i64 n17) H16) E) E) E) E

def lang_First_1_M (Q : QT) (E : ET) (τ : Tau) (H : Heap) : Prop := mSl (τ 0) fun x0 l0 c0 => mSl (τ 1) fun x1 l1 c1 => lang_First_1 Q E x0 l0 c0 x1 l1 c1 H

theorem lang_First_2ok (Q : QT) (E : ET) (τ : Tau) (H : Heap) (h : lang_First_1_M Q E τ H) : vc Pr lang_First_p2 τ (lang_First_q1 Q E) E H :=
  vSl (i := 0) h (fun x0 l0 c0 h => vSl (i := 1) h (fun x1 l1 c1 h => (conv (by kernel_rfl) h)))

@[reducible] noncomputable def lang_First_q2 (Q : QT) (E : ET) : Exit → Tau → Heap → Prop := (xthen (lang_First_1_M Q E) (lang_First_q1 Q E))

@[reducible] noncomputable def lang_First_p3 : Code := sA lang_First_p1

def lang_First_3 (Q : QT) (E : ET) (x0 : OA) (l0 : Nat) (c0 : Nat) (x1 : OA) (l1 : Nat) (c1 : Nat) (H : Heap) : Prop :=
 Does Pr 40 #[(.slice x0 l0 c0)] H (fun v18 H19 =>
 ∃ b20 : Bool, v18 = (.bool b20) ∧ sel (!b20)
 (Q (.int .i64 (-1)) H19)
 (lang_First_1 Q E x0 l0 c0 x1 l1 c1 H19)) E

def lang_First_3_M (Q : QT) (E : ET) (τ : Tau) (H : Heap) : Prop := mSl (τ 0) fun x0 l0 c0 => mSl (τ 1) fun x1 l1 c1 => lang_First_3 Q E x0 l0 c0 x1 l1 c1 H

theorem lang_First_4ok (Q : QT) (E : ET) (τ : Tau) (H : Heap) (h : lang_First_3_M Q E τ H) : vc Pr lang_First_p3 τ (lang_First_q2 Q E) E H :=
  vSl (i := 0) h (fun x0 l0 c0 h => vSl (i := 1) h (fun x1 l1 c1 h => (conv (by kernel_rfl) h)))

theorem lang_First_5ok (Q : QT) (E : ET) (τ : Tau) (H : Heap) (h : lang_First_3_M Q E τ H) : vc Pr lang_First_p1 τ (lang_First_q1 Q E) E H :=
  (conv (B := vc Pr lang_First_p1 τ (lang_First_q1 Q E) E H) (by kernel_rfl) (vc_seq (K := (lang_First_1_M Q E)) (lang_First_4ok Q E τ H h) (lang_First_2ok Q E)))

@[reducible] noncomputable def lang_First_q3 (Q : QT) (E : ET) : Exit → Tau → Heap → Prop := (xthen (lang_First_3_M Q E) (lang_First_q1 Q E))

@[reducible] noncomputable def lang_First_p4 : Code := sA lang_First_p0

def lang_First (Q : QT) (E : ET) (a0 : OA) (a0l : Nat) (a0c : Nat) (a1 : OA) (a1l : Nat) (a1c : Nat) (H : Heap) : Prop :=
 lang_First_3 Q E a0 a0l a0c a1 a1l a1c H

theorem lang_First_fn (a0 : OA) (a0l : Nat) (a0c : Nat) (a1 : OA) (a1l : Nat) (a1c : Nat) (Q : QT) (E : ET) (H : Heap) (h : lang_First Q E a0 a0l a0c a1 a1l a1c H)   : Does Pr 19 #[(.slice a0 a0l a0c), (.slice a1 a1l a1c)] H Q E :=
  Fn_of_vc (fn := Try.f19) (c := lang_First_p0) (args := [(.slice a0 a0l a0c), (.slice a1 a1l a1c)]) mixed (by kernel_rfl) (by kernel_rfl) (by kernel_rfl) (by kernel_rfl) (by kernel_rfl) ((conv (B := vc Pr lang_First_p0 (argT [(.slice a0 a0l a0c), (.slice a1 a1l a1c)]) (lang_First_q1 Q E) E H) (by kernel_rfl) (vc_seq (K := (lang_First_3_M Q E)) (conv (B := vc Pr lang_First_p4 (argT [(.slice a0 a0l a0c), (.slice a1 a1l a1c)]) (lang_First_q3 Q E) E H) (by kernel_rfl) h) (lang_First_5ok Q E))))

/-! jobmux/lang.Ends -/
@[reducible] noncomputable def lang_Ends_q1 (Q : QT) (E : ET) : Exit → Tau → Heap → Prop := (retQ Pr (Try.f24).results.toList Q)

@[reducible] noncomputable def lang_Ends_p0 : Code := bodyOf Try.f24

@[reducible] noncomputable def lang_Ends_p1 : Code := sB lang_Ends_p0

@[reducible] noncomputable def lang_Ends_p2 : Code := sB lang_Ends_p1

@[reducible] noncomputable def lang_Ends_p3 : Code := sB lang_Ends_p2

@[reducible] noncomputable def lang_Ends_p4 : Code := sB lang_Ends_p3

@[reducible] noncomputable def lang_Ends_p5 : Code := sB lang_Ends_p4

@[reducible] noncomputable def lang_Ends_q2 (Q : QT) (E : ET) : Exit → Tau → Heap → Prop := (xblock 0 (lang_Ends_q1 Q E))

@[reducible] noncomputable def lang_Ends_p6 : Code := sI lang_Ends_p5

@[reducible] noncomputable def lang_Ends_q3 (nx17 : Option Addr → Nat → Nat → Int → HP) (Q : QT) (E : ET) : Exit → Tau → Heap → Prop := (xthen (fun τ H => mSl (τ 8) fun x8' l8' c8' => mI .i64 (τ 9) fun x9' => nx17 x8' l8' c8' x9' H) (lang_Ends_q2 Q E))

@[reducible] noncomputable def lang_Ends_p7 : Code := sI lang_Ends_p6

@[reducible] noncomputable def lang_Ends_p8 : Code := sB lang_Ends_p7

def lang_Ends_1 (nx17 : Option Addr → Nat → Nat → Int → HP) (Q : QT) (E : ET) (x1 : OA) (l1 : Nat) (c1 : Nat) (x7 : OA) (x8 : OA) (l8 : Nat) (c8 : Nat) (x9 : Int) (H : Heap) : Prop :=
 nx17 x8 l8 c8 (IntKind.wrap .i64 (x9 + 1)) H

def lang_Ends_1_M (nx17 : Option Addr → Nat → Nat → Int → HP) (Q : QT) (E : ET) (τ : Tau) (H : Heap) : Prop := mSl (τ 1) fun x1 l1 c1 => mP (τ 7) fun x7 => mSl (τ 8) fun x8 l8 c8 => mI .i64 (τ 9) fun x9 => lang_Ends_1 nx17 Q E x1 l1 c1 x7 x8 l8 c8 x9 H

theorem lang_Ends_2ok (nx17 : Option Addr → Nat → Nat → Int → HP) (Q : QT) (E : ET) (τ : Tau) (H : Heap) (h : lang_Ends_1_M nx17 Q E τ H) : vc Pr lang_Ends_p8 τ (lang_Ends_q3 nx17 Q E) E H :=
  vSl (i := 1) h (fun x1 l1 c1 h => vP (i := 7) h (fun x7 h => vSl (i := 8) h (fun x8 l8 c8 h => vI (i := 9) h (fun x9 h => (conv (by kernel_rfl) h)))))

@[reducible] noncomputable def lang_Ends_q4 (nx17 : Option Addr → Nat → Nat → Int → HP) (Q : QT) (E : ET) : Exit → Tau → Heap → Prop := (xthen (lang_Ends_1_M nx17 Q E) (lang_Ends_q3 nx17 Q E))

@[reducible] noncomputable def lang_Ends_p9 : Code := sA lang_Ends_p7

@[reducible] noncomputable def lang_Ends_q5 (nx17 : Option Addr → Nat → Nat → Int → HP) (Q : QT) (E : ET) : Exit → Tau → Heap → Prop := (xblock 1 (lang_Ends_q4 nx17 Q E))

@[reducible] noncomputable def lang_Ends_p10 : Code := sI lang_Ends_p9

@[reducible] noncomputable def lang_Ends_p11 : Code := sB lang_Ends_p10

@[reducible] noncomputable def lang_Ends_p12 : Code := sB lang_Ends_p11

def lang_Ends_3 (nx17 : Option Addr → Nat → Nat → Int → HP) (Q : QT) (E : ET) (x1 : OA) (l1 : Nat) (c1 : Nat) (x7 : OA) (x8 : OA) (l8 : Nat) (c8 : Nat) (x9 : Int) (H : Heap) : Prop :=
 (0 ≤ (x9 : Int) ∧ (x9 : Int) < ((l1 : Nat) : Int)) ∧ ptr x1 fun q40 =>
 ldI .u8 (Addr.add q40 ((x9 : Int).toNat * 1)) H fun n41 =>
 Does Pr 59 #[(.pointer x7), (.int .u8 n41)] H (fun v42 H43 =>
 lang_Ends_1 nx17 Q E x1 l1 c1 x7 x8 l8 c8 x9 H43) E

def lang_Ends_3_M (nx17 : Option Addr → Nat → Nat → Int → HP) (Q : QT) (E : ET) (τ : Tau) (H : Heap) : Prop := mSl (τ 1) fun x1 l1 c1 => mP (τ 7) fun x7 => mSl (τ 8) fun x8 l8 c8 => mI .i64 (τ 9) fun x9 => lang_Ends_3 nx17 Q E x1 l1 c1 x7 x8 l8 c8 x9 H

theorem lang_Ends_4ok (nx17 : Option Addr → Nat → Nat → Int → HP) (Q : QT) (E : ET) (τ : Tau) (H : Heap) (h : lang_Ends_3_M nx17 Q E τ H) : vc Pr lang_Ends_p12 τ (lang_Ends_q5 nx17 Q E) E H :=
  vSl (i := 1) h (fun x1 l1 c1 h => vP (i := 7) h (fun x7 h => vSl (i := 8) h (fun x8 l8 c8 h => vI (i := 9) h (fun x9 h => (conv (by kernel_rfl) h)))))

@[reducible] noncomputable def lang_Ends_q6 (nx17 : Option Addr → Nat → Nat → Int → HP) (Q : QT) (E : ET) : Exit → Tau → Heap → Prop := (xthen (lang_Ends_3_M nx17 Q E) (lang_Ends_q5 nx17 Q E))

@[reducible] noncomputable def lang_Ends_p13 : Code := sA lang_Ends_p11

def lang_Ends_5 (nx17 : Option Addr → Nat → Nat → Int → HP) (Q : QT) (E : ET) (x1 : OA) (l1 : Nat) (c1 : Nat) (x7 : OA) (x8 : OA) (l8 : Nat) (c8 : Nat) (x9 : Int) (H : Heap) : Prop :=
 sel ((x9 : Int) == ((l1 : Nat) : Int))
 (Q (.slice x8 l8 c8) H)
 (lang_Ends_3 nx17 Q E x1 l1 c1 x7 x8 l8 c8 x9 H)

def lang_Ends_5_M (nx17 : Option Addr → Nat → Nat → Int → HP) (Q : QT) (E : ET) (τ : Tau) (H : Heap) : Prop := mSl (τ 1) fun x1 l1 c1 => mP (τ 7) fun x7 => mSl (τ 8) fun x8 l8 c8 => mI .i64 (τ 9) fun x9 => lang_Ends_5 nx17 Q E x1 l1 c1 x7 x8 l8 c8 x9 H

theorem lang_Ends_6ok (nx17 : Option Addr → Nat → Nat → Int → HP) (Q : QT) (E : ET) (τ : Tau) (H : Heap) (h : lang_Ends_5_M nx17 Q E τ H) : vc Pr lang_Ends_p13 τ (lang_Ends_q6 nx17 Q E) E H :=
  vSl (i := 1) h (fun x1 l1 c1 h => vP (i := 7) h (fun x7 h => vSl (i := 8) h (fun x8 l8 c8 h => vI (i := 9) h (fun x9 h => (conv (by kernel_rfl) h)))))

theorem lang_Ends_7ok (nx17 : Option Addr → Nat → Nat → Int → HP) (Q : QT) (E : ET) (τ : Tau) (H : Heap) (h : lang_Ends_5_M nx17 Q E τ H) : vc Pr lang_Ends_p11 τ (lang_Ends_q5 nx17 Q E) E H :=
  (conv (B := vc Pr lang_Ends_p11 τ (lang_Ends_q5 nx17 Q E) E H) (by kernel_rfl) (vc_seq (K := (lang_Ends_3_M nx17 Q E)) (lang_Ends_6ok nx17 Q E τ H h) (lang_Ends_4ok nx17 Q E)))

@[reducible] noncomputable def lang_Ends_q7 (nx17 : Option Addr → Nat → Nat → Int → HP) (Q : QT) (E : ET) : Exit → Tau → Heap → Prop := (xthen (lang_Ends_5_M nx17 Q E) (lang_Ends_q5 nx17 Q E))

@[reducible] noncomputable def lang_Ends_p14 : Code := sA lang_Ends_p10

def lang_Ends_8 (nx17 : Option Addr → Nat → Nat → Int → HP) (Q : QT) (E : ET) (x1 : OA) (l1 : Nat) (c1 : Nat) (x7 : OA) (x8 : OA) (l8 : Nat) (c8 : Nat) (x9 : Int) (H : Heap) : Prop :=
 (0 ≤ (x9 : Int) ∧ (x9 : Int) ≤ ((l1 : Nat) : Int)) ∧ Does Pr 58 #[(.pointer x7), (.slice (if c1 = (x9 : Int).toNat then x1 else Option.map (fun a => Addr.add a ((x9 : Int).toNat * 1)) x1) (l1 - (x9 : Int).toNat) (c1 - (x9 : Int).toNat))] H (fun v44 H45 =>
 ∃ b46 : Bool, v44 = (.bool b46) ∧ sel b46
 (nw (.cells #[(.int .i64 x9)] 3 (0, 0)) H45 fun i47 H48 =>
 app Pr 22 x8 l8 c8 (.slice (some ⟨i47, 0, none⟩) 1 1) H48 fun p49 l50 c51 H52 =>
 lang_Ends_5 nx17 Q E x1 l1 c1 x7 p49 l50 c51 x9 H52)
 (lang_Ends_5 nx17 Q E x1 l1 c1 x7 x8 l8 c8 x9 H45)) E

def lang_Ends_8_M (nx17 : Option Addr → Nat → Nat → Int → HP) (Q : QT) (E : ET) (τ : Tau) (H : Heap) : Prop := mSl (τ 1) fun x1 l1 c1 => mP (τ 7) fun x7 => mSl (τ 8) fun x8 l8 c8 => mI .i64 (τ 9) fun x9 => lang_Ends_8 nx17 Q E x1 l1 c1 x7 x8 l8 c8 x9 H

theorem lang_Ends_9ok (nx17 : Option Addr → Nat → Nat → Int → HP) (Q : QT) (E : ET) (τ : Tau) (H : Heap) (h : lang_Ends_8_M nx17 Q E τ H) : vc Pr lang_Ends_p14 τ (lang_Ends_q7 nx17 Q E) E H :=
  vSl (i := 1) h (fun x1 l1 c1 h => vP (i := 7) h (fun x7 h => vSl (i := 8) h (fun x8 l8 c8 h => vI (i := 9) h (fun x9 h => (conv (by kernel_rfl) h)))))

theorem lang_Ends_10ok (nx17 : Option Addr → Nat → Nat → Int → HP) (Q : QT) (E : ET) (τ : Tau) (H : Heap) (h : lang_Ends_8_M nx17 Q E τ H) : vc Pr lang_Ends_p10 τ (lang_Ends_q5 nx17 Q E) E H :=
  (conv (B := vc Pr lang_Ends_p10 τ (lang_Ends_q5 nx17 Q E) E H) (by kernel_rfl) (vc_seq (K := (lang_Ends_5_M nx17 Q E)) (lang_Ends_9ok nx17 Q E τ H h) (lang_Ends_7ok nx17 Q E)))

theorem lang_Ends_11ok (nx17 : Option Addr → Nat → Nat → Int → HP) (Q : QT) (E : ET) (τ : Tau) (H : Heap) (h : lang_Ends_8_M nx17 Q E τ H) : vc Pr lang_Ends_p9 τ (lang_Ends_q4 nx17 Q E) E H :=
  (conv (B := vc Pr lang_Ends_p9 τ (lang_Ends_q4 nx17 Q E) E H) (by kernel_rfl) (lang_Ends_10ok nx17 Q E τ H h))

theorem lang_Ends_12ok (nx17 : Option Addr → Nat → Nat → Int → HP) (Q : QT) (E : ET) (τ : Tau) (H : Heap) (h : lang_Ends_8_M nx17 Q E τ H) : vc Pr lang_Ends_p7 τ (lang_Ends_q3 nx17 Q E) E H :=
  (conv (B := vc Pr lang_Ends_p7 τ (lang_Ends_q3 nx17 Q E) E H) (by kernel_rfl) (vc_seq (K := (lang_Ends_1_M nx17 Q E)) (lang_Ends_11ok nx17 Q E τ H h) (lang_Ends_2ok nx17 Q E)))

def lang_Ends_13 (Q : QT) (E : ET) (x1 : OA) (l1 : Nat) (c1 : Nat) (x7 : OA) (x8 : OA) (l8 : Nat) (c8 : Nat) (x9 : Int) (H : Heap) : Prop :=
 ∃ (I : Option Addr → Nat → Nat → Int → HP) (μ : Option Addr → Nat → Nat → Int → Heap → Nat), I x8 l8 c8 x9 H ∧ ∀ (x8 : OA) (l8 : Nat) (c8 : Nat) (x9 : Int) (H : Heap), I x8 l8 c8 x9 H →
 lang_Ends_8 (fun x8' l8' c8' x9' H1 => I x8' l8' c8' x9' H1 ∧ μ x8' l8' c8' x9' H1 < μ x8 l8 c8 x9 H) Q E x1 l1 c1 x7 x8 l8 c8 x9 H

def lang_Ends_13_M (Q : QT) (E : ET) (τ : Tau) (H : Heap) : Prop := mSl (τ 1) fun x1 l1 c1 => mP (τ 7) fun x7 => mSl (τ 8) fun x8 l8 c8 => mI .i64 (τ 9) fun x9 => lang_Ends_13 Q E x1 l1 c1 x7 x8 l8 c8 x9 H

theorem lang_Ends_14ok (Q : QT) (E : ET) (τ : Tau) (H : Heap) (h : lang_Ends_13_M Q E τ H) : vc Pr lang_Ends_p6 τ (lang_Ends_q2 Q E) E H :=
  vSl (i := 1) h (fun x1 l1 c1 h => vP (i := 7) h (fun x7 h => vSl (i := 8) h (fun x8 l8 c8 h => vI (i := 9) h (fun x9 h => match h with | ⟨I, μ, h0, hr⟩ => (conv (B := vc Pr lang_Ends_p6 (Tau.upd (Tau.upd (Tau.upd (Tau.upd τ 1 (.slice x1 l1 c1)) 7 (.pointer x7)) 8 (.slice x8 l8 c8)) 9 (.int .i64 x9)) (lang_Ends_q2 Q E) E H) (by kernel_rfl) (vc_loop (c := sI lang_Ends_p6) (τ := (Tau.upd (Tau.upd (Tau.upd (Tau.upd τ 1 (.slice x1 l1 c1)) 7 (.pointer x7)) 8 (.slice x8 l8 c8)) 9 (.int .i64 x9))) [1, 7] (fun τ H => mSl (τ 8) fun x8' l8' c8' => mI .i64 (τ 9) fun x9' => I x8' l8' c8' x9' H) (fun τ H => μ (gL1 (τ 8)) (gL2 (τ 8)) (gL3 (τ 8)) (gI (τ 9)) H) (by kernel_rfl) h0 (fun τ1 H1 hf hI => fix_elim (τ := τ1) (i := 1) (v := (.slice x1 l1 c1)) (G := fun τ => vc Pr (sI lang_Ends_p6) τ (xthen (fun τ2 H2 => (mSl (τ2 8) fun x8' l8' c8' => mI .i64 (τ2 9) fun x9' => I x8' l8' c8' x9' H2) ∧ μ (gL1 (τ2 8)) (gL2 (τ2 8)) (gL3 (τ2 8)) (gI (τ2 9)) H2 < μ (gL1 (τ 8)) (gL2 (τ 8)) (gL3 (τ 8)) (gI (τ 9)) H1) (lang_Ends_q2 Q E)) E H1) (hf 1 (by simp)) (fix_elim (τ := (Tau.upd τ1 1 (.slice x1 l1 c1))) (i := 7) (v := (.pointer x7)) (G := fun τ => vc Pr (sI lang_Ends_p6) τ (xthen (fun τ2 H2 => (mSl (τ2 8) fun x8' l8' c8' => mI .i64 (τ2 9) fun x9' => I x8' l8' c8' x9' H2) ∧ μ (gL1 (τ2 8)) (gL2 (τ2 8)) (gL3 (τ2 8)) (gI (τ2 9)) H2 < μ (gL1 (τ 8)) (gL2 (τ 8)) (gL3 (τ 8)) (gI (τ 9)) H1) (lang_Ends_q2 Q E)) E H1) (hf 7 (by simp)) (mSl_elim (i := 8) (G := fun τ => vc Pr (sI lang_Ends_p6) τ (xthen (fun τ2 H2 => (mSl (τ2 8) fun x8' l8' c8' => mI .i64 (τ2 9) fun x9' => I x8' l8' c8' x9' H2) ∧ μ (gL1 (τ2 8)) (gL2 (τ2 8)) (gL3 (τ2 8)) (gI (τ2 9)) H2 < μ (gL1 (τ 8)) (gL2 (τ 8)) (gL3 (τ 8)) (gI (τ 9)) H1) (lang_Ends_q2 Q E)) E H1) hI (fun x8r l8r c8r h => mI_elim (i := 9) (G := fun τ => vc Pr (sI lang_Ends_p6) τ (xthen (fun τ2 H2 => (mSl (τ2 8) fun x8' l8' c8' => mI .i64 (τ2 9) fun x9' => I x8' l8' c8' x9' H2) ∧ μ (gL1 (τ2 8)) (gL2 (τ2 8)) (gL3 (τ2 8)) (gI (τ2 9)) H2 < μ (gL1 (τ 8)) (gL2 (τ 8)) (gL3 (τ 8)) (gI (τ 9)) H1) (lang_Ends_q2 Q E)) E H1) h (fun x9r h => (conv (B := vc Pr (sI lang_Ends_p6) (Tau.upd (Tau.upd (Tau.upd (Tau.upd τ1 1 (.slice x1 l1 c1)) 7 (.pointer x7)) 8 (.slice x8r l8r c8r)) 9 (.int .i64 x9r)) (xthen (fun τ2 H2 => (mSl (τ2 8) fun x8' l8' c8' => mI .i64 (τ2 9) fun x9' => I x8' l8' c8' x9' H2) ∧ μ (gL1 (τ2 8)) (gL2 (τ2 8)) (gL3 (τ2 8)) (gI (τ2 9)) H2 < μ (gL1 ((Tau.upd (Tau.upd (Tau.upd (Tau.upd τ1 1 (.slice x1 l1 c1)) 7 (.pointer x7)) 8 (.slice x8r l8r c8r)) 9 (.int .i64 x9r)) 8)) (gL2 ((Tau.upd (Tau.upd (Tau.upd (Tau.upd τ1 1 (.slice x1 l1 c1)) 7 (.pointer x7)) 8 (.slice x8r l8r c8r)) 9 (.int .i64 x9r)) 8)) (gL3 ((Tau.upd (Tau.upd (Tau.upd (Tau.upd τ1 1 (.slice x1 l1 c1)) 7 (.pointer x7)) 8 (.slice x8r l8r c8r)) 9 (.int .i64 x9r)) 8)) (gI ((Tau.upd (Tau.upd (Tau.upd (Tau.upd τ1 1 (.slice x1 l1 c1)) 7 (.pointer x7)) 8 (.slice x8r l8r c8r)) 9 (.int .i64 x9r)) 9)) H1) (lang_Ends_q2 Q E)) E H1) (by kernel_rfl) (vc_xthen (lang_Ends_12ok (fun x8' l8' c8' x9' H2 => I x8' l8' c8' x9' H2 ∧ μ x8' l8' c8' x9' H2 < μ x8r l8r c8r x9r H1) Q E (Tau.upd (Tau.upd (Tau.upd (Tau.upd τ1 1 (.slice x1 l1 c1)) 7 (.pointer x7)) 8 (.slice x8r l8r c8r)) 9 (.int .i64 x9r)) H1 (conv (B := lang_Ends_8_M (fun x8' l8' c8' x9' H2 => I x8' l8' c8' x9' H2 ∧ μ x8' l8' c8' x9' H2 < μ x8r l8r c8r x9r H1) Q E (Tau.upd (Tau.upd (Tau.upd (Tau.upd τ1 1 (.slice x1 l1 c1)) 7 (.pointer x7)) 8 (.slice x8r l8r c8r)) 9 (.int .i64 x9r)) H1) (by kernel_rfl) (hr x8r l8r c8r x9r H1 h))) (fun τ2 H2 hk => mSl_elim (i := 8) (G := fun τ => (mSl (τ 8) fun x8' l8' c8' => mI .i64 (τ 9) fun x9' => I x8' l8' c8' x9' H2) ∧ μ (gL1 (τ 8)) (gL2 (τ 8)) (gL3 (τ 8)) (gI (τ 9)) H2 < μ x8r l8r c8r x9r H1) hk (fun x8' l8' c8' h => mI_elim (i := 9) (G := fun τ => (mSl (τ 8) fun x8' l8' c8' => mI .i64 (τ 9) fun x9' => I x8' l8' c8' x9' H2) ∧ μ (gL1 (τ 8)) (gL2 (τ 8)) (gL3 (τ 8)) (gI (τ 9)) H2 < μ x8r l8r c8r x9r H1) h (fun x9' h => h))))))))))))))))

theorem lang_Ends_15ok (Q : QT) (E : ET) (τ : Tau) (H : Heap) (h : lang_Ends_13_M Q E τ H) : vc Pr lang_Ends_p5 τ (lang_Ends_q1 Q E) E H :=
  (conv (B := vc Pr lang_Ends_p5 τ (lang_Ends_q1 Q E) E H) (by kernel_rfl) (lang_Ends_14ok Q E τ H h))

@[reducible] noncomputable def lang_Ends_q8 (Q : QT) (E : ET) : Exit → Tau → Heap → Prop := (xthen (lang_Ends_13_M Q E) (lang_Ends_q1 Q E))

@[reducible] noncomputable def lang_Ends_p15 : Code := sA lang_Ends_p4

def lang_Ends_16 (Q : QT) (E : ET) (x1 : OA) (l1 : Nat) (c1 : Nat) (x2 : Int) (x7 : OA) (x8 : OA) (l8 : Nat) (c8 : Nat) (H : Heap) : Prop :=
 lang_Ends_13 Q E x1 l1 c1 x7 x8 l8 c8 x2 H

def lang_Ends_16_M (Q : QT) (E : ET) (τ : Tau) (H : Heap) : Prop := mSl (τ 1) fun x1 l1 c1 => mI .i64 (τ 2) fun x2 => mP (τ 7) fun x7 => mSl (τ 8) fun x8 l8 c8 => lang_Ends_16 Q E x1 l1 c1 x2 x7 x8 l8 c8 H

theorem lang_Ends_17ok (Q : QT) (E : ET) (τ : Tau) (H : Heap) (h : lang_Ends_16_M Q E τ H) : vc Pr lang_Ends_p15 τ (lang_Ends_q8 Q E) E H :=
  vSl (i := 1) h (fun x1 l1 c1 h => vI (i := 2) h (fun x2 h => vP (i := 7) h (fun x7 h => vSl (i := 8) h (fun x8 l8 c8 h => (conv (by kernel_rfl) h)))))

theorem lang_Ends_18ok (Q : QT) (E : ET) (τ : Tau) (H : Heap) (h : lang_Ends_16_M Q E τ H) : vc Pr lang_Ends_p4 τ (lang_Ends_q1 Q E) E H :=
  (conv (B := vc Pr lang_Ends_p4 τ (lang_Ends_q1 Q E) E H) (by kernel_rfl) (vc_seq (K := (lang_Ends_13_M Q E)) (lang_Ends_17ok Q E τ H h) (lang_Ends_15ok Q E)))

@[reducible] noncomputable def lang_Ends_q9 (Q : QT) (E : ET) : Exit → Tau → Heap → Prop := (xthen (lang_Ends_16_M Q E) (lang_Ends_q1 Q E))

@[reducible] noncomputable def lang_Ends_p16 : Code := sA lang_Ends_p3

def lang_Ends_19 (Q : QT) (E : ET) (x1 : OA) (l1 : Nat) (c1 : Nat) (x2 : Int) (x7 : OA) (H : Heap) : Prop :=
 lang_Ends_16 Q E x1 l1 c1 x2 x7 none 0 0 H

def lang_Ends_19_M (Q : QT) (E : ET) (τ : Tau) (H : Heap) : Prop := mSl (τ 1) fun x1 l1 c1 => mI .i64 (τ 2) fun x2 => mP (τ 7) fun x7 => lang_Ends_19 Q E x1 l1 c1 x2 x7 H

theorem lang_Ends_20ok (Q : QT) (E : ET) (τ : Tau) (H : Heap) (h : lang_Ends_19_M Q E τ H) : vc Pr lang_Ends_p16 τ (lang_Ends_q9 Q E) E H :=
  vSl (i := 1) h (fun x1 l1 c1 h => vI (i := 2) h (fun x2 h => vP (i := 7) h (fun x7 h => (conv (by kernel_rfl) h))))

theorem lang_Ends_21ok (Q : QT) (E : ET) (τ : Tau) (H : Heap) (h : lang_Ends_19_M Q E τ H) : vc Pr lang_Ends_p3 τ (lang_Ends_q1 Q E) E H :=
  (conv (B := vc Pr lang_Ends_p3 τ (lang_Ends_q1 Q E) E H) (by kernel_rfl) (vc_seq (K := (lang_Ends_16_M Q E)) (lang_Ends_20ok Q E τ H h) (lang_Ends_18ok Q E)))

@[reducible] noncomputable def lang_Ends_q10 (Q : QT) (E : ET) : Exit → Tau → Heap → Prop := (xthen (lang_Ends_19_M Q E) (lang_Ends_q1 Q E))

@[reducible] noncomputable def lang_Ends_p17 : Code := sA lang_Ends_p2

def lang_Ends_22 (Q : QT) (E : ET) (x0 : OA) (l0 : Nat) (c0 : Nat) (x1 : OA) (l1 : Nat) (c1 : Nat) (x2 : Int) (H : Heap) : Prop :=
 Does Pr 51 #[(.slice x0 l0 c0)] H (fun v53 H54 =>
 ∃ (p55 : OA) (l56 c57 : Nat), v53 = (.slice p55 l56 c57) ∧ sel ((x2 : Int) == 0)
 (Does Pr 50 #[(.slice p55 l56 c57), (.bool true), (.bool true)] H54 (fun v58 H59 =>
 ∃ p60 : Option Addr, v58 = (.pointer p60) ∧ lang_Ends_19 Q E x1 l1 c1 x2 p60 H59) E)
 ((0 ≤ ((IntKind.wrap .i64 (x2 - 1)) : Int) ∧ ((IntKind.wrap .i64 (x2 - 1)) : Int) < ((l1 : Nat) : Int)) ∧ ptr x1 fun q61 =>
 ldI .u8 (Addr.add q61 (((IntKind.wrap .i64 (x2 - 1)) : Int).toNat * 1)) H54 fun n62 =>
 Does Pr 50 #[(.slice p55 l56 c57), (.bool true), (.bool ((n62 : Int) == 10))] H54 (fun v63 H64 =>
 ∃ p65 : Option Addr, v63 = (.pointer p65) ∧ lang_Ends_19 Q E x1 l1 c1 x2 p65 H64) E)) E

def lang_Ends_22_M (Q : QT) (E : ET) (τ : Tau) (H : Heap) : Prop := mSl (τ 0) fun x0 l0 c0 => mSl (τ 1) fun x1 l1 c1 => mI .i64 (τ 2) fun x2 => lang_Ends_22 Q E x0 l0 c0 x1 l1 c1 x2 H

theorem lang_Ends_23ok (Q : QT) (E : ET) (τ : Tau) (H : Heap) (h : lang_Ends_22_M Q E τ H) : vc Pr lang_Ends_p17 τ (lang_Ends_q10 Q E) E H :=
  vSl (i := 0) h (fun x0 l0 c0 h => vSl (i := 1) h (fun x1 l1 c1 h => vI (i := 2) h (fun x2 h => (conv (by kernel_rfl) h))))

theorem lang_Ends_24ok (Q : QT) (E : ET) (τ : Tau) (H : Heap) (h : lang_Ends_22_M Q E τ H) : vc Pr lang_Ends_p2 τ (lang_Ends_q1 Q E) E H :=
  (conv (B := vc Pr lang_Ends_p2 τ (lang_Ends_q1 Q E) E H) (by kernel_rfl) (vc_seq (K := (lang_Ends_19_M Q E)) (lang_Ends_23ok Q E τ H h) (lang_Ends_21ok Q E)))

@[reducible] noncomputable def lang_Ends_q11 (Q : QT) (E : ET) : Exit → Tau → Heap → Prop := (xthen (lang_Ends_22_M Q E) (lang_Ends_q1 Q E))

@[reducible] noncomputable def lang_Ends_p18 : Code := sA lang_Ends_p1

@[reducible] noncomputable def lang_Ends_p19 : Code := sB lang_Ends_p18

def lang_Ends_25 (Q : QT) (E : ET) (x0 : OA) (l0 : Nat) (c0 : Nat) (x1 : OA) (l1 : Nat) (c1 : Nat) (x2 : Int) (x22 : Bool) (H : Heap) : Prop :=
 sel x22
 (Q (.slice none 0 0) H)
 (lang_Ends_22 Q E x0 l0 c0 x1 l1 c1 x2 H)

def lang_Ends_25_M (Q : QT) (E : ET) (τ : Tau) (H : Heap) : Prop := mSl (τ 0) fun x0 l0 c0 => mSl (τ 1) fun x1 l1 c1 => mI .i64 (τ 2) fun x2 => mB (τ 22) fun x22 => lang_Ends_25 Q E x0 l0 c0 x1 l1 c1 x2 x22 H

theorem lang_Ends_26ok (Q : QT) (E : ET) (τ : Tau) (H : Heap) (h : lang_Ends_25_M Q E τ H) : vc Pr lang_Ends_p19 τ (lang_Ends_q11 Q E) E H :=
  vSl (i := 0) h (fun x0 l0 c0 h => vSl (i := 1) h (fun x1 l1 c1 h => vI (i := 2) h (fun x2 h => vB (i := 22) h (fun x22 h => (conv (by kernel_rfl) h)))))

@[reducible] noncomputable def lang_Ends_q12 (Q : QT) (E : ET) : Exit → Tau → Heap → Prop := (xthen (lang_Ends_25_M Q E) (lang_Ends_q11 Q E))

@[reducible] noncomputable def lang_Ends_p20 : Code := sA lang_Ends_p18

def lang_Ends_27 (Q : QT) (E : ET) (x0 : OA) (l0 : Nat) (c0 : Nat) (x1 : OA) (l1 : Nat) (c1 : Nat) (x2 : Int) (H : Heap) : Prop :=
 Does Pr 40 #[(.slice x0 l0 c0)] H (fun v69 H70 =>
 ∃ b71 : Bool, v69 = (.bool b71) ∧ sel (!b71)
 (lang_Ends_25 Q E x0 l0 c0 x1 l1 c1 x2 true H70)
 (sel (decide ((x2 : Int) < 0))
 (lang_Ends_25 Q E x0 l0 c0 x1 l1 c1 x2 true H70)
 (lang_Ends_25 Q E x0 l0 c0 x1 l1 c1 x2 (decide ((x2 : Int) > ((l1 : Nat) : Int))) H70))) E

def lang_Ends_27_M (Q : QT) (E : ET) (τ : Tau) (H : Heap) : Prop := mSl (τ 0) fun x0 l0 c0 => mSl (τ 1) fun x1 l1 c1 => mI .i64 (τ 2) fun x2 => lang_Ends_27 Q E x0 l0 c0 x1 l1 c1 x2 H

theorem lang_Ends_28ok (Q : QT) (E : ET) (τ : Tau) (H : Heap) (h : lang_Ends_27_M Q E τ H) : vc Pr lang_Ends_p20 τ (lang_Ends_q12 Q E) E H :=
  vSl (i := 0) h (fun x0 l0 c0 h => vSl (i := 1) h (fun x1 l1 c1 h => vI (i := 2) h (fun x2 h => (conv (by kernel_rfl) h))))

theorem lang_Ends_29ok (Q : QT) (E : ET) (τ : Tau) (H : Heap) (h : lang_Ends_27_M Q E τ H) : vc Pr lang_Ends_p18 τ (lang_Ends_q11 Q E) E H :=
  (conv (B := vc Pr lang_Ends_p18 τ (lang_Ends_q11 Q E) E H) (by kernel_rfl) (vc_seq (K := (lang_Ends_25_M Q E)) (lang_Ends_28ok Q E τ H h) (lang_Ends_26ok Q E)))

theorem lang_Ends_30ok (Q : QT) (E : ET) (τ : Tau) (H : Heap) (h : lang_Ends_27_M Q E τ H) : vc Pr lang_Ends_p1 τ (lang_Ends_q1 Q E) E H :=
  (conv (B := vc Pr lang_Ends_p1 τ (lang_Ends_q1 Q E) E H) (by kernel_rfl) (vc_seq (K := (lang_Ends_22_M Q E)) (lang_Ends_29ok Q E τ H h) (lang_Ends_24ok Q E)))

@[reducible] noncomputable def lang_Ends_q13 (Q : QT) (E : ET) : Exit → Tau → Heap → Prop := (xthen (lang_Ends_27_M Q E) (lang_Ends_q1 Q E))

@[reducible] noncomputable def lang_Ends_p21 : Code := sA lang_Ends_p0

def lang_Ends (Q : QT) (E : ET) (a0 : OA) (a0l : Nat) (a0c : Nat) (a1 : OA) (a1l : Nat) (a1c : Nat) (a2 : Int) (H : Heap) : Prop :=
 lang_Ends_27 Q E a0 a0l a0c a1 a1l a1c a2 H

theorem lang_Ends_fn (a0 : OA) (a0l : Nat) (a0c : Nat) (a1 : OA) (a1l : Nat) (a1c : Nat) (a2 : Int) (Q : QT) (E : ET) (H : Heap) (h : lang_Ends Q E a0 a0l a0c a1 a1l a1c a2 H)   : Does Pr 24 #[(.slice a0 a0l a0c), (.slice a1 a1l a1c), (.int .i64 a2)] H Q E :=
  Fn_of_vc (fn := Try.f24) (c := lang_Ends_p0) (args := [(.slice a0 a0l a0c), (.slice a1 a1l a1c), (.int .i64 a2)]) mixed (by kernel_rfl) (by kernel_rfl) (by kernel_rfl) (by kernel_rfl) (by kernel_rfl) ((conv (B := vc Pr lang_Ends_p0 (argT [(.slice a0 a0l a0c), (.slice a1 a1l a1c), (.int .i64 a2)]) (lang_Ends_q1 Q E) E H) (by kernel_rfl) (vc_seq (K := (lang_Ends_27_M Q E)) (conv (B := vc Pr lang_Ends_p21 (argT [(.slice a0 a0l a0c), (.slice a1 a1l a1c), (.int .i64 a2)]) (lang_Ends_q13 Q E) E H) (by kernel_rfl) h) (lang_Ends_30ok Q E))))

end Go.Proofs.Ytaffcoiomggpfaa
