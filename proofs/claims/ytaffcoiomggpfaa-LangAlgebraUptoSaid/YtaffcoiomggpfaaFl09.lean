import Derived.Test.YtaffcoiomggpfaaVPr
import Derived.Test.YtaffcoiomggpfaaFl09_1
/- Printed by gen.py: the Go functions of package l09 over a heap view, and that the model does so. -/
namespace Go.Proofs.Ytaffcoiomggpfaa
open Go.V
set_option linter.unusedVariables false
set_option maxRecDepth 100000
/-! jobmux/jobmuxlaw09.LangLines -/
@[reducible] noncomputable def l09_LangLines_q1 (Q : QT) (E : ET) : Exit → Tau → Heap → Prop := (retQ Pr (Try.f6).results.toList Q)

@[reducible] noncomputable def l09_LangLines_p0 : Code := bodyOf Try.f6

@[reducible] noncomputable def l09_LangLines_p1 : Code := sB l09_LangLines_p0

@[reducible] noncomputable def l09_LangLines_p2 : Code := sB l09_LangLines_p1

@[reducible] noncomputable def l09_LangLines_p3 : Code := sB l09_LangLines_p2

@[reducible] noncomputable def l09_LangLines_p4 : Code := sB l09_LangLines_p3

@[reducible] noncomputable def l09_LangLines_p5 : Code := sB l09_LangLines_p4

@[reducible] noncomputable def l09_LangLines_p6 : Code := sB l09_LangLines_p5

@[reducible] noncomputable def l09_LangLines_p7 : Code := sB l09_LangLines_p6

@[reducible] noncomputable def l09_LangLines_p8 : Code := sB l09_LangLines_p7

def l09_LangLines_1 (Q : QT) (E : ET)  (H : Heap) : Prop :=
 Q (.bool true) H

def l09_LangLines_1_M (Q : QT) (E : ET) (τ : Tau) (H : Heap) : Prop := l09_LangLines_1 Q E  H

theorem l09_LangLines_2ok (Q : QT) (E : ET) (τ : Tau) (H : Heap) (h : l09_LangLines_1_M Q E τ H) : vc Pr l09_LangLines_p8 τ (l09_LangLines_q1 Q E) E H :=
  (conv (B := vc Pr l09_LangLines_p8 τ (l09_LangLines_q1 Q E) E H) (by kernel_rfl) h)

@[reducible] noncomputable def l09_LangLines_q2 (Q : QT) (E : ET) : Exit → Tau → Heap → Prop := (xthen (l09_LangLines_1_M Q E) (l09_LangLines_q1 Q E))

@[reducible] noncomputable def l09_LangLines_p9 : Code := sA l09_LangLines_p7

@[reducible] noncomputable def l09_LangLines_p10 : Code := sB l09_LangLines_p9

@[reducible] noncomputable def l09_LangLines_q3 (Q : QT) (E : ET) : Exit → Tau → Heap → Prop := (xblock 0 (l09_LangLines_q2 Q E))

@[reducible] noncomputable def l09_LangLines_p11 : Code := sI l09_LangLines_p10

@[reducible] noncomputable def l09_LangLines_q4 (nx48 : Int → HP) (Q : QT) (E : ET) : Exit → Tau → Heap → Prop := (xthen (fun τ H => mI .i64 (τ 45) fun x45' => nx48 x45' H) (l09_LangLines_q3 Q E))

@[reducible] noncomputable def l09_LangLines_p12 : Code := sI l09_LangLines_p11

@[reducible] noncomputable def l09_LangLines_p13 : Code := sB l09_LangLines_p12

@[reducible] noncomputable def l09_LangLines_p14 : Code := sB l09_LangLines_p13

@[reducible] noncomputable def l09_LangLines_p15 : Code := sB l09_LangLines_p14

def l09_LangLines_3 (nx48 : Int → HP) (Q : QT) (E : ET) (x7 : OA) (l7 : Nat) (c7 : Nat) (x8 : OA) (l8 : Nat) (c8 : Nat) (x9 : OA) (l9 : Nat) (c9 : Nat) (x44 : Int) (x45 : Int) (H : Heap) : Prop :=
 nx48 (IntKind.wrap .i64 (x45 + 1)) H

def l09_LangLines_3_M (nx48 : Int → HP) (Q : QT) (E : ET) (τ : Tau) (H : Heap) : Prop := mSl (τ 7) fun x7 l7 c7 => mSl (τ 8) fun x8 l8 c8 => mSl (τ 9) fun x9 l9 c9 => mI .i64 (τ 44) fun x44 => mI .i64 (τ 45) fun x45 => l09_LangLines_3 nx48 Q E x7 l7 c7 x8 l8 c8 x9 l9 c9 x44 x45 H

theorem l09_LangLines_4ok (nx48 : Int → HP) (Q : QT) (E : ET) (τ : Tau) (H : Heap) (h : l09_LangLines_3_M nx48 Q E τ H) : vc Pr l09_LangLines_p15 τ (l09_LangLines_q4 nx48 Q E) E H :=
  vSl (i := 7) h (fun x7 l7 c7 h => vSl (i := 8) h (fun x8 l8 c8 h => vSl (i := 9) h (fun x9 l9 c9 h => vI (i := 44) h (fun x44 h => vI (i := 45) h (fun x45 h => (conv (by kernel_rfl) h))))))

@[reducible] noncomputable def l09_LangLines_q5 (nx48 : Int → HP) (Q : QT) (E : ET) : Exit → Tau → Heap → Prop := (xthen (l09_LangLines_3_M nx48 Q E) (l09_LangLines_q4 nx48 Q E))

@[reducible] noncomputable def l09_LangLines_p16 : Code := sA l09_LangLines_p14

def l09_LangLines_5 (nx48 : Int → HP) (Q : QT) (E : ET) (x7 : OA) (l7 : Nat) (c7 : Nat) (x8 : OA) (l8 : Nat) (c8 : Nat) (x9 : OA) (l9 : Nat) (c9 : Nat) (x44 : Int) (x45 : Int) (H : Heap) : Prop :=
 (0 ≤ (x45 : Int) ∧ (x45 : Int) < ((l8 : Nat) : Int)) ∧ ptr x8 fun q53 =>
 ldI .i64 (Addr.add q53 ((x45 : Int).toNat * 1)) H fun n54 =>
 (0 ≤ (x45 : Int) ∧ (x45 : Int) < ((l9 : Nat) : Int)) ∧ ptr x9 fun q55 =>
 ldI .i64 (Addr.add q55 ((x45 : Int).toNat * 1)) H fun n56 =>
 sel (((IntKind.wrap .i64 (n54 + ((l7 : Nat) : Int))) : Int) != n56)
 (Q (.bool false) H)
 (l09_LangLines_3 nx48 Q E x7 l7 c7 x8 l8 c8 x9 l9 c9 x44 x45 H)

def l09_LangLines_5_M (nx48 : Int → HP) (Q : QT) (E : ET) (τ : Tau) (H : Heap) : Prop := mSl (τ 7) fun x7 l7 c7 => mSl (τ 8) fun x8 l8 c8 => mSl (τ 9) fun x9 l9 c9 => mI .i64 (τ 44) fun x44 => mI .i64 (τ 45) fun x45 => l09_LangLines_5 nx48 Q E x7 l7 c7 x8 l8 c8 x9 l9 c9 x44 x45 H

theorem l09_LangLines_6ok (nx48 : Int → HP) (Q : QT) (E : ET) (τ : Tau) (H : Heap) (h : l09_LangLines_5_M nx48 Q E τ H) : vc Pr l09_LangLines_p16 τ (l09_LangLines_q5 nx48 Q E) E H :=
  vSl (i := 7) h (fun x7 l7 c7 h => vSl (i := 8) h (fun x8 l8 c8 h => vSl (i := 9) h (fun x9 l9 c9 h => vI (i := 44) h (fun x44 h => vI (i := 45) h (fun x45 h => (conv (by kernel_rfl) h))))))

theorem l09_LangLines_7ok (nx48 : Int → HP) (Q : QT) (E : ET) (τ : Tau) (H : Heap) (h : l09_LangLines_5_M nx48 Q E τ H) : vc Pr l09_LangLines_p14 τ (l09_LangLines_q4 nx48 Q E) E H :=
  (conv (B := vc Pr l09_LangLines_p14 τ (l09_LangLines_q4 nx48 Q E) E H) (by kernel_rfl) (vc_seq (K := (l09_LangLines_3_M nx48 Q E)) (l09_LangLines_6ok nx48 Q E τ H h) (l09_LangLines_4ok nx48 Q E)))

@[reducible] noncomputable def l09_LangLines_q6 (nx48 : Int → HP) (Q : QT) (E : ET) : Exit → Tau → Heap → Prop := (xthen (l09_LangLines_5_M nx48 Q E) (l09_LangLines_q4 nx48 Q E))

@[reducible] noncomputable def l09_LangLines_p17 : Code := sA l09_LangLines_p13

def l09_LangLines_8 (nx48 : Int → HP) (Q : QT) (E : ET) (x7 : OA) (l7 : Nat) (c7 : Nat) (x8 : OA) (l8 : Nat) (c8 : Nat) (x9 : OA) (l9 : Nat) (c9 : Nat) (x44 : Int) (x45 : Int) (x46 : Bool) (H : Heap) : Prop :=
 sel x46
 (l09_LangLines_5 nx48 Q E x7 l7 c7 x8 l8 c8 x9 l9 c9 x44 x45 H)
 (l09_LangLines_1 Q E  H)

def l09_LangLines_8_M (nx48 : Int → HP) (Q : QT) (E : ET) (τ : Tau) (H : Heap) : Prop := mSl (τ 7) fun x7 l7 c7 => mSl (τ 8) fun x8 l8 c8 => mSl (τ 9) fun x9 l9 c9 => mI .i64 (τ 44) fun x44 => mI .i64 (τ 45) fun x45 => mB (τ 46) fun x46 => l09_LangLines_8 nx48 Q E x7 l7 c7 x8 l8 c8 x9 l9 c9 x44 x45 x46 H

theorem l09_LangLines_9ok (nx48 : Int → HP) (Q : QT) (E : ET) (τ : Tau) (H : Heap) (h : l09_LangLines_8_M nx48 Q E τ H) : vc Pr l09_LangLines_p17 τ (l09_LangLines_q6 nx48 Q E) E H :=
  vSl (i := 7) h (fun x7 l7 c7 h => vSl (i := 8) h (fun x8 l8 c8 h => vSl (i := 9) h (fun x9 l9 c9 h => vI (i := 44) h (fun x44 h => vI (i := 45) h (fun x45 h => vB (i := 46) h (fun x46 h => (conv (by kernel_rfl) h)))))))

theorem l09_LangLines_10ok (nx48 : Int → HP) (Q : QT) (E : ET) (τ : Tau) (H : Heap) (h : l09_LangLines_8_M nx48 Q E τ H) : vc Pr l09_LangLines_p13 τ (l09_LangLines_q4 nx48 Q E) E H :=
  (conv (B := vc Pr l09_LangLines_p13 τ (l09_LangLines_q4 nx48 Q E) E H) (by kernel_rfl) (vc_seq (K := (l09_LangLines_5_M nx48 Q E)) (l09_LangLines_9ok nx48 Q E τ H h) (l09_LangLines_7ok nx48 Q E)))

@[reducible] noncomputable def l09_LangLines_q7 (nx48 : Int → HP) (Q : QT) (E : ET) : Exit → Tau → Heap → Prop := (xthen (l09_LangLines_8_M nx48 Q E) (l09_LangLines_q4 nx48 Q E))

@[reducible] noncomputable def l09_LangLines_p18 : Code := sA l09_LangLines_p12

def l09_LangLines_11 (nx48 : Int → HP) (Q : QT) (E : ET) (x7 : OA) (l7 : Nat) (c7 : Nat) (x8 : OA) (l8 : Nat) (c8 : Nat) (x9 : OA) (l9 : Nat) (c9 : Nat) (x44 : Int) (x45 : Int) (H : Heap) : Prop :=
 l09_LangLines_8 nx48 Q E x7 l7 c7 x8 l8 c8 x9 l9 c9 x44 x45 (decide ((x45 : Int) < x44)) H

def l09_LangLines_11_M (nx48 : Int → HP) (Q : QT) (E : ET) (τ : Tau) (H : Heap) : Prop := mSl (τ 7) fun x7 l7 c7 => mSl (τ 8) fun x8 l8 c8 => mSl (τ 9) fun x9 l9 c9 => mI .i64 (τ 44) fun x44 => mI .i64 (τ 45) fun x45 => l09_LangLines_11 nx48 Q E x7 l7 c7 x8 l8 c8 x9 l9 c9 x44 x45 H

theorem l09_LangLines_12ok (nx48 : Int → HP) (Q : QT) (E : ET) (τ : Tau) (H : Heap) (h : l09_LangLines_11_M nx48 Q E τ H) : vc Pr l09_LangLines_p18 τ (l09_LangLines_q7 nx48 Q E) E H :=
  vSl (i := 7) h (fun x7 l7 c7 h => vSl (i := 8) h (fun x8 l8 c8 h => vSl (i := 9) h (fun x9 l9 c9 h => vI (i := 44) h (fun x44 h => vI (i := 45) h (fun x45 h => (conv (by kernel_rfl) h))))))

theorem l09_LangLines_13ok (nx48 : Int → HP) (Q : QT) (E : ET) (τ : Tau) (H : Heap) (h : l09_LangLines_11_M nx48 Q E τ H) : vc Pr l09_LangLines_p12 τ (l09_LangLines_q4 nx48 Q E) E H :=
  (conv (B := vc Pr l09_LangLines_p12 τ (l09_LangLines_q4 nx48 Q E) E H) (by kernel_rfl) (vc_seq (K := (l09_LangLines_8_M nx48 Q E)) (l09_LangLines_12ok nx48 Q E τ H h) (l09_LangLines_10ok nx48 Q E)))

def l09_LangLines_14 (Q : QT) (E : ET) (x7 : OA) (l7 : Nat) (c7 : Nat) (x8 : OA) (l8 : Nat) (c8 : Nat) (x9 : OA) (l9 : Nat) (c9 : Nat) (x44 : Int) (x45 : Int) (H : Heap) : Prop :=
 ∃ (I : Int → HP) (μ : Int → Heap → Nat), I x45 H ∧ ∀ (x45 : Int) (H : Heap), I x45 H →
 l09_LangLines_11 (fun x45' H1 => I x45' H1 ∧ μ x45' H1 < μ x45 H) Q E x7 l7 c7 x8 l8 c8 x9 l9 c9 x44 x45 H

def l09_LangLines_14_M (Q : QT) (E : ET) (τ : Tau) (H : Heap) : Prop := mSl (τ 7) fun x7 l7 c7 => mSl (τ 8) fun x8 l8 c8 => mSl (τ 9) fun x9 l9 c9 => mI .i64 (τ 44) fun x44 => mI .i64 (τ 45) fun x45 => l09_LangLines_14 Q E x7 l7 c7 x8 l8 c8 x9 l9 c9 x44 x45 H

theorem l09_LangLines_15ok (Q : QT) (E : ET) (τ : Tau) (H : Heap) (h : l09_LangLines_14_M Q E τ H) : vc Pr l09_LangLines_p11 τ (l09_LangLines_q3 Q E) E H :=
  vSl (i := 7) h (fun x7 l7 c7 h => vSl (i := 8) h (fun x8 l8 c8 h => vSl (i := 9) h (fun x9 l9 c9 h => vI (i := 44) h (fun x44 h => vI (i := 45) h (fun x45 h => match h with | ⟨I, μ, h0, hr⟩ => (conv (B := vc Pr l09_LangLines_p11 (Tau.upd (Tau.upd (Tau.upd (Tau.upd (Tau.upd τ 7 (.slice x7 l7 c7)) 8 (.slice x8 l8 c8)) 9 (.slice x9 l9 c9)) 44 (.int .i64 x44)) 45 (.int .i64 x45)) (l09_LangLines_q3 Q E) E H) (by kernel_rfl) (vc_loop (c := sI l09_LangLines_p11) (τ := (Tau.upd (Tau.upd (Tau.upd (Tau.upd (Tau.upd τ 7 (.slice x7 l7 c7)) 8 (.slice x8 l8 c8)) 9 (.slice x9 l9 c9)) 44 (.int .i64 x44)) 45 (.int .i64 x45))) [7, 8, 9, 44] (fun τ H => mI .i64 (τ 45) fun x45' => I x45' H) (fun τ H => μ (gI (τ 45)) H) (by kernel_rfl) h0 (fun τ1 H1 hf hI => fix_elim (τ := τ1) (i := 7) (v := (.slice x7 l7 c7)) (G := fun τ => vc Pr (sI l09_LangLines_p11) τ (xthen (fun τ2 H2 => (mI .i64 (τ2 45) fun x45' => I x45' H2) ∧ μ (gI (τ2 45)) H2 < μ (gI (τ 45)) H1) (l09_LangLines_q3 Q E)) E H1) (hf 7 (by simp)) (fix_elim (τ := (Tau.upd τ1 7 (.slice x7 l7 c7))) (i := 8) (v := (.slice x8 l8 c8)) (G := fun τ => vc Pr (sI l09_LangLines_p11) τ (xthen (fun τ2 H2 => (mI .i64 (τ2 45) fun x45' => I x45' H2) ∧ μ (gI (τ2 45)) H2 < μ (gI (τ 45)) H1) (l09_LangLines_q3 Q E)) E H1) (hf 8 (by simp)) (fix_elim (τ := (Tau.upd (Tau.upd τ1 7 (.slice x7 l7 c7)) 8 (.slice x8 l8 c8))) (i := 9) (v := (.slice x9 l9 c9)) (G := fun τ => vc Pr (sI l09_LangLines_p11) τ (xthen (fun τ2 H2 => (mI .i64 (τ2 45) fun x45' => I x45' H2) ∧ μ (gI (τ2 45)) H2 < μ (gI (τ 45)) H1) (l09_LangLines_q3 Q E)) E H1) (hf 9 (by simp)) (fix_elim (τ := (Tau.upd (Tau.upd (Tau.upd τ1 7 (.slice x7 l7 c7)) 8 (.slice x8 l8 c8)) 9 (.slice x9 l9 c9))) (i := 44) (v := (.int .i64 x44)) (G := fun τ => vc Pr (sI l09_LangLines_p11) τ (xthen (fun τ2 H2 => (mI .i64 (τ2 45) fun x45' => I x45' H2) ∧ μ (gI (τ2 45)) H2 < μ (gI (τ 45)) H1) (l09_LangLines_q3 Q E)) E H1) (hf 44 (by simp)) (mI_elim (i := 45) (G := fun τ => vc Pr (sI l09_LangLines_p11) τ (xthen (fun τ2 H2 => (mI .i64 (τ2 45) fun x45' => I x45' H2) ∧ μ (gI (τ2 45)) H2 < μ (gI (τ 45)) H1) (l09_LangLines_q3 Q E)) E H1) hI (fun x45r h => (conv (B := vc Pr (sI l09_LangLines_p11) (Tau.upd (Tau.upd (Tau.upd (Tau.upd (Tau.upd τ1 7 (.slice x7 l7 c7)) 8 (.slice x8 l8 c8)) 9 (.slice x9 l9 c9)) 44 (.int .i64 x44)) 45 (.int .i64 x45r)) (xthen (fun τ2 H2 => (mI .i64 (τ2 45) fun x45' => I x45' H2) ∧ μ (gI (τ2 45)) H2 < μ (gI ((Tau.upd (Tau.upd (Tau.upd (Tau.upd (Tau.upd τ1 7 (.slice x7 l7 c7)) 8 (.slice x8 l8 c8)) 9 (.slice x9 l9 c9)) 44 (.int .i64 x44)) 45 (.int .i64 x45r)) 45)) H1) (l09_LangLines_q3 Q E)) E H1) (by kernel_rfl) (vc_xthen (l09_LangLines_13ok (fun x45' H2 => I x45' H2 ∧ μ x45' H2 < μ x45r H1) Q E (Tau.upd (Tau.upd (Tau.upd (Tau.upd (Tau.upd τ1 7 (.slice x7 l7 c7)) 8 (.slice x8 l8 c8)) 9 (.slice x9 l9 c9)) 44 (.int .i64 x44)) 45 (.int .i64 x45r)) H1 (conv (B := l09_LangLines_11_M (fun x45' H2 => I x45' H2 ∧ μ x45' H2 < μ x45r H1) Q E (Tau.upd (Tau.upd (Tau.upd (Tau.upd (Tau.upd τ1 7 (.slice x7 l7 c7)) 8 (.slice x8 l8 c8)) 9 (.slice x9 l9 c9)) 44 (.int .i64 x44)) 45 (.int .i64 x45r)) H1) (by kernel_rfl) (hr x45r H1 h))) (fun τ2 H2 hk => mI_elim (i := 45) (G := fun τ => (mI .i64 (τ 45) fun x45' => I x45' H2) ∧ μ (gI (τ 45)) H2 < μ x45r H1) hk (fun x45' h => h)))))))))))))))))

theorem l09_LangLines_16ok (Q : QT) (E : ET) (τ : Tau) (H : Heap) (h : l09_LangLines_14_M Q E τ H) : vc Pr l09_LangLines_p10 τ (l09_LangLines_q2 Q E) E H :=
  (conv (B := vc Pr l09_LangLines_p10 τ (l09_LangLines_q2 Q E) E H) (by kernel_rfl) (l09_LangLines_15ok Q E τ H h))

@[reducible] noncomputable def l09_LangLines_q8 (Q : QT) (E : ET) : Exit → Tau → Heap → Prop := (xthen (l09_LangLines_14_M Q E) (l09_LangLines_q2 Q E))

@[reducible] noncomputable def l09_LangLines_p19 : Code := sA l09_LangLines_p9

def l09_LangLines_17 (Q : QT) (E : ET) (x7 : OA) (l7 : Nat) (c7 : Nat) (x8 : OA) (l8 : Nat) (c8 : Nat) (x9 : OA) (l9 : Nat) (c9 : Nat) (H : Heap) : Prop :=
 l09_LangLines_14 Q E x7 l7 c7 x8 l8 c8 x9 l9 c9 ((l8 : Nat) : Int) 0 H

def l09_LangLines_17_M (Q : QT) (E : ET) (τ : Tau) (H : Heap) : Prop := mSl (τ 7) fun x7 l7 c7 => mSl (τ 8) fun x8 l8 c8 => mSl (τ 9) fun x9 l9 c9 => l09_LangLines_17 Q E x7 l7 c7 x8 l8 c8 x9 l9 c9 H

theorem l09_LangLines_18ok (Q : QT) (E : ET) (τ : Tau) (H : Heap) (h : l09_LangLines_17_M Q E τ H) : vc Pr l09_LangLines_p19 τ (l09_LangLines_q8 Q E) E H :=
  vSl (i := 7) h (fun x7 l7 c7 h => vSl (i := 8) h (fun x8 l8 c8 h => vSl (i := 9) h (fun x9 l9 c9 h => (conv (by kernel_rfl) h))))

theorem l09_LangLines_19ok (Q : QT) (E : ET) (τ : Tau) (H : Heap) (h : l09_LangLines_17_M Q E τ H) : vc Pr l09_LangLines_p9 τ (l09_LangLines_q2 Q E) E H :=
  (conv (B := vc Pr l09_LangLines_p9 τ (l09_LangLines_q2 Q E) E H) (by kernel_rfl) (vc_seq (K := (l09_LangLines_14_M Q E)) (l09_LangLines_18ok Q E τ H h) (l09_LangLines_16ok Q E)))

theorem l09_LangLines_20ok (Q : QT) (E : ET) (τ : Tau) (H : Heap) (h : l09_LangLines_17_M Q E τ H) : vc Pr l09_LangLines_p7 τ (l09_LangLines_q1 Q E) E H :=
  (conv (B := vc Pr l09_LangLines_p7 τ (l09_LangLines_q1 Q E) E H) (by kernel_rfl) (vc_seq (K := (l09_LangLines_1_M Q E)) (l09_LangLines_19ok Q E τ H h) (l09_LangLines_2ok Q E)))

@[reducible] noncomputable def l09_LangLines_q9 (Q : QT) (E : ET) : Exit → Tau → Heap → Prop := (xthen (l09_LangLines_17_M Q E) (l09_LangLines_q1 Q E))

@[reducible] noncomputable def l09_LangLines_p20 : Code := sA l09_LangLines_p6

def l09_LangLines_21 (Q : QT) (E : ET) (x7 : OA) (l7 : Nat) (c7 : Nat) (x8 : OA) (l8 : Nat) (c8 : Nat) (x9 : OA) (l9 : Nat) (c9 : Nat) (H : Heap) : Prop :=
 sel ((((l8 : Nat) : Int) : Int) != ((l9 : Nat) : Int))
 (Q (.bool false) H)
 (l09_LangLines_17 Q E x7 l7 c7 x8 l8 c8 x9 l9 c9 H)

def l09_LangLines_21_M (Q : QT) (E : ET) (τ : Tau) (H : Heap) : Prop := mSl (τ 7) fun x7 l7 c7 => mSl (τ 8) fun x8 l8 c8 => mSl (τ 9) fun x9 l9 c9 => l09_LangLines_21 Q E x7 l7 c7 x8 l8 c8 x9 l9 c9 H

theorem l09_LangLines_22ok (Q : QT) (E : ET) (τ : Tau) (H : Heap) (h : l09_LangLines_21_M Q E τ H) : vc Pr l09_LangLines_p20 τ (l09_LangLines_q9 Q E) E H :=
  vSl (i := 7) h (fun x7 l7 c7 h => vSl (i := 8) h (fun x8 l8 c8 h => vSl (i := 9) h (fun x9 l9 c9 h => (conv (by kernel_rfl) h))))

theorem l09_LangLines_23ok (Q : QT) (E : ET) (τ : Tau) (H : Heap) (h : l09_LangLines_21_M Q E τ H) : vc Pr l09_LangLines_p6 τ (l09_LangLines_q1 Q E) E H :=
  (conv (B := vc Pr l09_LangLines_p6 τ (l09_LangLines_q1 Q E) E H) (by kernel_rfl) (vc_seq (K := (l09_LangLines_17_M Q E)) (l09_LangLines_22ok Q E τ H h) (l09_LangLines_20ok Q E)))

@[reducible] noncomputable def l09_LangLines_q10 (Q : QT) (E : ET) : Exit → Tau → Heap → Prop := (xthen (l09_LangLines_21_M Q E) (l09_LangLines_q1 Q E))

@[reducible] noncomputable def l09_LangLines_p21 : Code := sA l09_LangLines_p5

def l09_LangLines_24 (Q : QT) (E : ET) (x5 : OA) (l5 : Nat) (c5 : Nat) (x6 : OA) (l6 : Nat) (c6 : Nat) (x7 : OA) (l7 : Nat) (c7 : Nat) (H : Heap) : Prop :=
 Does Pr 24 #[(.slice x5 l5 c5), (.slice x6 l6 c6), (.int .i64 0)] H (fun v57 H58 =>
 ∃ (p59 : OA) (l60 c61 : Nat), v57 = (.slice p59 l60 c61) ∧ nw (.cells #[] 5 (0, 0)) H58 fun i62 H63 =>
 app Pr 24 (some ⟨i62, 0, none⟩) 0 0 (.slice x7 l7 c7) H63 fun p64 l65 c66 H67 =>
 app Pr 24 p64 l65 c66 (.slice x6 l6 c6) H67 fun p68 l69 c70 H71 =>
 Does Pr 24 #[(.slice x5 l5 c5), (.slice p68 l69 c70), (.int .i64 ((l7 : Nat) : Int))] H71 (fun v72 H73 =>
 ∃ (p74 : OA) (l75 c76 : Nat), v72 = (.slice p74 l75 c76) ∧ l09_LangLines_21 Q E x7 l7 c7 p59 l60 c61 p74 l75 c76 H73) E) E

def l09_LangLines_24_M (Q : QT) (E : ET) (τ : Tau) (H : Heap) : Prop := mSl (τ 5) fun x5 l5 c5 => mSl (τ 6) fun x6 l6 c6 => mSl (τ 7) fun x7 l7 c7 => l09_LangLines_24 Q E x5 l5 c5 x6 l6 c6 x7 l7 c7 H

theorem l09_LangLines_25ok (Q : QT) (E : ET) (τ : Tau) (H : Heap) (h : l09_LangLines_24_M Q E τ H) : vc Pr l09_LangLines_p21 τ (l09_LangLines_q10 Q E) E H :=
  vSl (i := 5) h (fun x5 l5 c5 h => vSl (i := 6) h (fun x6 l6 c6 h => vSl (i := 7) h (fun x7 l7 c7 h => (conv (by kernel_rfl) h))))

theorem l09_LangLines_26ok (Q : QT) (E : ET) (τ : Tau) (H : Heap) (h : l09_LangLines_24_M Q E τ H) : vc Pr l09_LangLines_p5 τ (l09_LangLines_q1 Q E) E H :=
  (conv (B := vc Pr l09_LangLines_p5 τ (l09_LangLines_q1 Q E) E H) (by kernel_rfl) (vc_seq (K := (l09_LangLines_21_M Q E)) (l09_LangLines_25ok Q E τ H h) (l09_LangLines_23ok Q E)))

@[reducible] noncomputable def l09_LangLines_q11 (Q : QT) (E : ET) : Exit → Tau → Heap → Prop := (xthen (l09_LangLines_24_M Q E) (l09_LangLines_q1 Q E))

@[reducible] noncomputable def l09_LangLines_p22 : Code := sA l09_LangLines_p4

def l09_LangLines_27 (Q : QT) (E : ET) (x1 : OA) (l1 : Nat) (c1 : Nat) (x5 : OA) (l5 : Nat) (c5 : Nat) (x6 : OA) (l6 : Nat) (c6 : Nat) (H : Heap) : Prop :=
 nw (.cells #[] 5 (0, 0)) H fun i77 H78 =>
 app Pr 24 (some ⟨i77, 0, none⟩) 0 0 (.slice x1 l1 c1) H78 fun p79 l80 c81 H82 =>
 nw (.cells #[(.int .u8 10)] 5 (0, 0)) H82 fun i83 H84 =>
 app Pr 24 p79 l80 c81 (.slice (some ⟨i83, 0, none⟩) 1 1) H84 fun p85 l86 c87 H88 =>
 l09_LangLines_24 Q E x5 l5 c5 x6 l6 c6 p85 l86 c87 H88

def l09_LangLines_27_M (Q : QT) (E : ET) (τ : Tau) (H : Heap) : Prop := mSl (τ 1) fun x1 l1 c1 => mSl (τ 5) fun x5 l5 c5 => mSl (τ 6) fun x6 l6 c6 => l09_LangLines_27 Q E x1 l1 c1 x5 l5 c5 x6 l6 c6 H

theorem l09_LangLines_28ok (Q : QT) (E : ET) (τ : Tau) (H : Heap) (h : l09_LangLines_27_M Q E τ H) : vc Pr l09_LangLines_p22 τ (l09_LangLines_q11 Q E) E H :=
  vSl (i := 1) h (fun x1 l1 c1 h => vSl (i := 5) h (fun x5 l5 c5 h => vSl (i := 6) h (fun x6 l6 c6 h => (conv (by kernel_rfl) h))))

theorem l09_LangLines_29ok (Q : QT) (E : ET) (τ : Tau) (H : Heap) (h : l09_LangLines_27_M Q E τ H) : vc Pr l09_LangLines_p4 τ (l09_LangLines_q1 Q E) E H :=
  (conv (B := vc Pr l09_LangLines_p4 τ (l09_LangLines_q1 Q E) E H) (by kernel_rfl) (vc_seq (K := (l09_LangLines_24_M Q E)) (l09_LangLines_28ok Q E τ H h) (l09_LangLines_26ok Q E)))

@[reducible] noncomputable def l09_LangLines_q12 (Q : QT) (E : ET) : Exit → Tau → Heap → Prop := (xthen (l09_LangLines_27_M Q E) (l09_LangLines_q1 Q E))

@[reducible] noncomputable def l09_LangLines_p23 : Code := sA l09_LangLines_p3

def l09_LangLines_30 (Q : QT) (E : ET) (x0 : OA) (l0 : Nat) (c0 : Nat) (x1 : OA) (l1 : Nat) (c1 : Nat) (H : Heap) : Prop :=
 Does Pr 18 #[(.slice x0 l0 c0)] H (fun v89 H90 =>
 ∃ (p91 : OA) (l92 c93 : Nat), ∃ (p94 : OA) (l95 c96 : Nat), v89 = (.tuple #[(.slice p91 l92 c93), (.slice p94 l95 c96)]) ∧ l09_LangLines_27 Q E x1 l1 c1 p91 l92 c93 p94 l95 c96 H90) E

def l09_LangLines_30_M (Q : QT) (E : ET) (τ : Tau) (H : Heap) : Prop := mSl (τ 0) fun x0 l0 c0 => mSl (τ 1) fun x1 l1 c1 => l09_LangLines_30 Q E x0 l0 c0 x1 l1 c1 H

theorem l09_LangLines_31ok (Q : QT) (E : ET) (τ : Tau) (H : Heap) (h : l09_LangLines_30_M Q E τ H) : vc Pr l09_LangLines_p23 τ (l09_LangLines_q12 Q E) E H :=
  vSl (i := 0) h (fun x0 l0 c0 h => vSl (i := 1) h (fun x1 l1 c1 h => (conv (by kernel_rfl) h)))

theorem l09_LangLines_32ok (Q : QT) (E : ET) (τ : Tau) (H : Heap) (h : l09_LangLines_30_M Q E τ H) : vc Pr l09_LangLines_p3 τ (l09_LangLines_q1 Q E) E H :=
  (conv (B := vc Pr l09_LangLines_p3 τ (l09_LangLines_q1 Q E) E H) (by kernel_rfl) (vc_seq (K := (l09_LangLines_27_M Q E)) (l09_LangLines_31ok Q E τ H h) (l09_LangLines_29ok Q E)))

@[reducible] noncomputable def l09_LangLines_q13 (Q : QT) (E : ET) : Exit → Tau → Heap → Prop := (xthen (l09_LangLines_30_M Q E) (l09_LangLines_q1 Q E))

@[reducible] noncomputable def l09_LangLines_p24 : Code := sA l09_LangLines_p2

def l09_LangLines_33 (Q : QT) (E : ET) (x0 : OA) (l0 : Nat) (c0 : Nat) (x1 : OA) (l1 : Nat) (c1 : Nat) (H : Heap) : Prop :=
 sel (decide ((((l1 : Nat) : Int) : Int) > 8))
 (Q (.bool true) H)
 (l09_LangLines_30 Q E x0 l0 c0 x1 l1 c1 H)

def l09_LangLines_33_M (Q : QT) (E : ET) (τ : Tau) (H : Heap) : Prop := mSl (τ 0) fun x0 l0 c0 => mSl (τ 1) fun x1 l1 c1 => l09_LangLines_33 Q E x0 l0 c0 x1 l1 c1 H

theorem l09_LangLines_34ok (Q : QT) (E : ET) (τ : Tau) (H : Heap) (h : l09_LangLines_33_M Q E τ H) : vc Pr l09_LangLines_p24 τ (l09_LangLines_q13 Q E) E H :=
  vSl (i := 0) h (fun x0 l0 c0 h => vSl (i := 1) h (fun x1 l1 c1 h => (conv (by kernel_rfl) h)))

theorem l09_LangLines_35ok (Q : QT) (E : ET) (τ : Tau) (H : Heap) (h : l09_LangLines_33_M Q E τ H) : vc Pr l09_LangLines_p2 τ (l09_LangLines_q1 Q E) E H :=
  (conv (B := vc Pr l09_LangLines_p2 τ (l09_LangLines_q1 Q E) E H) (by kernel_rfl) (vc_seq (K := (l09_LangLines_30_M Q E)) (l09_LangLines_34ok Q E τ H h) (l09_LangLines_32ok Q E)))

@[reducible] noncomputable def l09_LangLines_q14 (Q : QT) (E : ET) : Exit → Tau → Heap → Prop := (xthen (l09_LangLines_33_M Q E) (l09_LangLines_q1 Q E))

@[reducible] noncomputable def l09_LangLines_p25 : Code := sA l09_LangLines_p1

def l09_LangLines_36 (Q : QT) (E : ET) (x0 : OA) (l0 : Nat) (c0 : Nat) (x1 : OA) (l1 : Nat) (c1 : Nat) (H : Heap) : Prop :=
 Does Pr 17 #[] H (fun v97 H98 =>
 ∃ b99 : Bool, v97 = (.bool b99) ∧ sel (!b99)
 (Q (.bool false) H98)
 (l09_LangLines_33 Q E x0 l0 c0 x1 l1 c1 H98)) E

def l09_LangLines_36_M (Q : QT) (E : ET) (τ : Tau) (H : Heap) : Prop := mSl (τ 0) fun x0 l0 c0 => mSl (τ 1) fun x1 l1 c1 => l09_LangLines_36 Q E x0 l0 c0 x1 l1 c1 H

theorem l09_LangLines_37ok (Q : QT) (E : ET) (τ : Tau) (H : Heap) (h : l09_LangLines_36_M Q E τ H) : vc Pr l09_LangLines_p25 τ (l09_LangLines_q14 Q E) E H :=
  vSl (i := 0) h (fun x0 l0 c0 h => vSl (i := 1) h (fun x1 l1 c1 h => (conv (by kernel_rfl) h)))

theorem l09_LangLines_38ok (Q : QT) (E : ET) (τ : Tau) (H : Heap) (h : l09_LangLines_36_M Q E τ H) : vc Pr l09_LangLines_p1 τ (l09_LangLines_q1 Q E) E H :=
  (conv (B := vc Pr l09_LangLines_p1 τ (l09_LangLines_q1 Q E) E H) (by kernel_rfl) (vc_seq (K := (l09_LangLines_33_M Q E)) (l09_LangLines_37ok Q E τ H h) (l09_LangLines_35ok Q E)))

@[reducible] noncomputable def l09_LangLines_q15 (Q : QT) (E : ET) : Exit → Tau → Heap → Prop := (xthen (l09_LangLines_36_M Q E) (l09_LangLines_q1 Q E))

@[reducible] noncomputable def l09_LangLines_p26 : Code := sA l09_LangLines_p0

def l09_LangLines (Q : QT) (E : ET) (a0 : OA) (a0l : Nat) (a0c : Nat) (a1 : OA) (a1l : Nat) (a1c : Nat) (H : Heap) : Prop :=
 l09_LangLines_36 Q E a0 a0l a0c a1 a1l a1c H

theorem l09_LangLines_fn (a0 : OA) (a0l : Nat) (a0c : Nat) (a1 : OA) (a1l : Nat) (a1c : Nat) (Q : QT) (E : ET) (H : Heap) (h : l09_LangLines Q E a0 a0l a0c a1 a1l a1c H)   : Does Pr 6 #[(.slice a0 a0l a0c), (.slice a1 a1l a1c)] H Q E :=
  Fn_of_vc (fn := Try.f6) (c := l09_LangLines_p0) (args := [(.slice a0 a0l a0c), (.slice a1 a1l a1c)]) mixed (by kernel_rfl) (by kernel_rfl) (by kernel_rfl) (by kernel_rfl) (by kernel_rfl) ((conv (B := vc Pr l09_LangLines_p0 (argT [(.slice a0 a0l a0c), (.slice a1 a1l a1c)]) (l09_LangLines_q1 Q E) E H) (by kernel_rfl) (vc_seq (K := (l09_LangLines_36_M Q E)) (conv (B := vc Pr l09_LangLines_p26 (argT [(.slice a0 a0l a0c), (.slice a1 a1l a1c)]) (l09_LangLines_q15 Q E) E H) (by kernel_rfl) h) (l09_LangLines_38ok Q E))))

/-! jobmux/jobmuxlaw09.sane -/
@[reducible] noncomputable def l09_sane_q1 (Q : QT) (E : ET) : Exit → Tau → Heap → Prop := (retQ Pr (Try.f17).results.toList Q)

@[reducible] noncomputable def l09_sane_p0 : Code := bodyOf Try.f17

def l09_sane (Q : QT) (E : ET)  (H : Heap) : Prop :=
 Does Pr 23 #[(.string ⟨[97, 42, 98].toArray⟩)] H (fun v1 H2 =>
 ∃ (p3 : OA) (l4 c5 : Nat), ∃ n6 : Int, v1 = (.tuple #[(.slice p3 l4 c5), (.int .i64 n6)]) ∧ Does Pr 23 #[(.string ⟨[36].toArray⟩)] H2 (fun v7 H8 =>
 ∃ (p9 : OA) (l10 c11 : Nat), ∃ n12 : Int, v7 = (.tuple #[(.slice p9 l10 c11), (.int .i64 n12)]) ∧ nw (.cells #[(.int .u8 97), (.int .u8 97), (.int .u8 98)] 5 (0, 0)) H8 fun i13 H14 =>
 ∃ (cs15 : Array Value) (t16 : TypeId), H14 i13 = some (.cells cs15 t16 (0, 0)) ∧ (fun H17 =>
 Does Pr 24 #[(.slice p3 l4 c5), (.slice (some ⟨i13, 0, none⟩) 3 3), (.int .i64 0)] H17 (fun v18 H19 =>
 ∃ (p20 : OA) (l21 c22 : Nat), v18 = (.slice p20 l21 c22) ∧ nw (.cells #[(.int .i64 3)] 3 (0, 0)) H19 fun i23 H24 =>
 Does Pr 26 #[(.slice p20 l21 c22), (.slice (some ⟨i23, 0, none⟩) 1 1)] H24 (fun v25 H26 =>
 ∃ b27 : Bool, v25 = (.bool b27) ∧ sel b27
 (nw (.cells #[(.int .u8 97), (.int .u8 97), (.int .u8 98)] 5 (0, 0)) H26 fun i28 H29 =>
 ∃ (cs30 : Array Value) (t31 : TypeId), H29 i28 = some (.cells cs30 t31 (0, 0)) ∧ (fun H32 =>
 Does Pr 19 #[(.slice p3 l4 c5), (.slice (some ⟨i28, 0, none⟩) 3 3)] H32 (fun v33 H34 =>
 ∃ n35 : Int, v33 = (.int .i64 n35) ∧ sel ((n35 : Int) == 3)
 (nw (.cells #[(.int .u8 120), (.int .u8 10)] 5 (0, 0)) H34 fun i36 H37 =>
 ∃ (cs38 : Array Value) (t39 : TypeId), H37 i36 = some (.cells cs38 t39 (0, 0)) ∧ (fun H40 =>
 Does Pr 19 #[(.slice p9 l10 c11), (.slice (some ⟨i36, 0, none⟩) 2 2)] H40 (fun v41 H42 =>
 ∃ n43 : Int, v41 = (.int .i64 n43) ∧ Q (.bool ((n43 : Int) == 2)) H42) E) (Heap.set H37 i36 (.cells cs38 t39 (cs38.size, cs38.size + 1))))
 (Q (.bool false) H34)) E) (Heap.set H29 i28 (.cells cs30 t31 (cs30.size, cs30.size + 1))))
 (Q (.bool false) H26)) E) E) (Heap.set H14 i13 (.cells cs15 t16 (cs15.size, cs15.size + 1)))) E) E

theorem l09_sane_fn  (Q : QT) (E : ET) (H : Heap) (h : l09_sane Q E  H)   : Does Pr 17 #[] H Q E :=
  Fn_of_vc (fn := Try.f17) (c := l09_sane_p0) (args := []) mixed (by kernel_rfl) (by kernel_rfl) (by kernel_rfl) (by kernel_rfl) (by kernel_rfl) ((conv (B := vc Pr l09_sane_p0 (argT []) (l09_sane_q1 Q E) E H) (by kernel_rfl) h))

/-! jobmux/jobmuxlaw09.pattern -/
@[reducible] noncomputable def l09_pattern_q1 (Q : QT) (E : ET) : Exit → Tau → Heap → Prop := (retQ Pr (Try.f18).results.toList Q)

@[reducible] noncomputable def l09_pattern_p0 : Code := bodyOf Try.f18

@[reducible] noncomputable def l09_pattern_p1 : Code := sB l09_pattern_p0

@[reducible] noncomputable def l09_pattern_p2 : Code := sB l09_pattern_p1

@[reducible] noncomputable def l09_pattern_p3 : Code := sB l09_pattern_p2

@[reducible] noncomputable def l09_pattern_p4 : Code := sB l09_pattern_p3

@[reducible] noncomputable def l09_pattern_p5 : Code := sB l09_pattern_p4

@[reducible] noncomputable def l09_pattern_p6 : Code := sB l09_pattern_p5

@[reducible] noncomputable def l09_pattern_p7 : Code := sB l09_pattern_p6

def l09_pattern_1 (Q : QT) (E : ET) (x6 : OA) (l6 : Nat) (c6 : Nat) (x9 : OA) (l9 : Nat) (c9 : Nat) (H : Heap) : Prop :=
 Q (.tuple #[(.slice x9 l9 c9), (.slice x6 l6 c6)]) H

def l09_pattern_1_M (Q : QT) (E : ET) (τ : Tau) (H : Heap) : Prop := mSl (τ 6) fun x6 l6 c6 => mSl (τ 9) fun x9 l9 c9 => l09_pattern_1 Q E x6 l6 c6 x9 l9 c9 H

theorem l09_pattern_2ok (Q : QT) (E : ET) (τ : Tau) (H : Heap) (h : l09_pattern_1_M Q E τ H) : vc Pr l09_pattern_p7 τ (l09_pattern_q1 Q E) E H :=
  vSl (i := 6) h (fun x6 l6 c6 h => vSl (i := 9) h (fun x9 l9 c9 h => (conv (by kernel_rfl) h)))

@[reducible] noncomputable def l09_pattern_q2 (Q : QT) (E : ET) : Exit → Tau → Heap → Prop := (xthen (l09_pattern_1_M Q E) (l09_pattern_q1 Q E))

@[reducible] noncomputable def l09_pattern_p8 : Code := sA l09_pattern_p6

def l09_pattern_3 (Q : QT) (E : ET) (x4 : OA) (x6 : OA) (l6 : Nat) (c6 : Nat) (x9 : OA) (l9 : Nat) (c9 : Nat) (x10 : Int) (H : Heap) : Prop :=
 sel ((x10 : Int) != 0)
 (Does Pr 21 #[] H (fun v51 H52 =>
 ∃ (p53 : OA) (l54 c55 : Nat), v51 = (.slice p53 l54 c55) ∧ Does Pr 49 #[(.pointer x4), (.int .i64 7)] H52 (fun v56 H57 =>
 ∃ n58 : Int, v56 = (.int .i64 n58) ∧ (0 ≤ (n58 : Int) ∧ (n58 : Int) < ((l54 : Nat) : Int)) ∧ ptr p53 fun q59 =>
 ldS (Addr.add q59 ((n58 : Int).toNat * 1)) H57 fun s60 =>
 Does Pr 23 #[(.string s60)] H57 (fun v61 H62 =>
 ∃ (p63 : OA) (l64 c65 : Nat), ∃ n66 : Int, v61 = (.tuple #[(.slice p63 l64 c65), (.int .i64 n66)]) ∧ l09_pattern_1 Q E x6 l6 c6 p63 l64 c65 H62) E) E) E)
 (l09_pattern_1 Q E x6 l6 c6 x9 l9 c9 H)

def l09_pattern_3_M (Q : QT) (E : ET) (τ : Tau) (H : Heap) : Prop := mP (τ 4) fun x4 => mSl (τ 6) fun x6 l6 c6 => mSl (τ 9) fun x9 l9 c9 => mI .i64 (τ 10) fun x10 => l09_pattern_3 Q E x4 x6 l6 c6 x9 l9 c9 x10 H

theorem l09_pattern_4ok (Q : QT) (E : ET) (τ : Tau) (H : Heap) (h : l09_pattern_3_M Q E τ H) : vc Pr l09_pattern_p8 τ (l09_pattern_q2 Q E) E H :=
  vP (i := 4) h (fun x4 h => vSl (i := 6) h (fun x6 l6 c6 h => vSl (i := 9) h (fun x9 l9 c9 h => vI (i := 10) h (fun x10 h => (conv (by kernel_rfl) h)))))

theorem l09_pattern_5ok (Q : QT) (E : ET) (τ : Tau) (H : Heap) (h : l09_pattern_3_M Q E τ H) : vc Pr l09_pattern_p6 τ (l09_pattern_q1 Q E) E H :=
  (conv (B := vc Pr l09_pattern_p6 τ (l09_pattern_q1 Q E) E H) (by kernel_rfl) (vc_seq (K := (l09_pattern_1_M Q E)) (l09_pattern_4ok Q E τ H h) (l09_pattern_2ok Q E)))

@[reducible] noncomputable def l09_pattern_q3 (Q : QT) (E : ET) : Exit → Tau → Heap → Prop := (xthen (l09_pattern_3_M Q E) (l09_pattern_q1 Q E))

@[reducible] noncomputable def l09_pattern_p9 : Code := sA l09_pattern_p5

def l09_pattern_6 (Q : QT) (E : ET) (x4 : OA) (x5 : OA) (l5 : Nat) (c5 : Nat) (x6 : OA) (l6 : Nat) (c6 : Nat) (H : Heap) : Prop :=
 ∃ bs67 : List UInt8, bs67.length = l5 ∧ Heap.rdS H x5 (bs67.map byteV) ∧ Does Pr 23 #[(.string (⟨bs67.toArray⟩ : ByteArray))] H (fun v68 H69 =>
 ∃ (p70 : OA) (l71 c72 : Nat), ∃ n73 : Int, v68 = (.tuple #[(.slice p70 l71 c72), (.int .i64 n73)]) ∧ l09_pattern_3 Q E x4 x6 l6 c6 p70 l71 c72 n73 H69) E

def l09_pattern_6_M (Q : QT) (E : ET) (τ : Tau) (H : Heap) : Prop := mP (τ 4) fun x4 => mSl (τ 5) fun x5 l5 c5 => mSl (τ 6) fun x6 l6 c6 => l09_pattern_6 Q E x4 x5 l5 c5 x6 l6 c6 H

theorem l09_pattern_7ok (Q : QT) (E : ET) (τ : Tau) (H : Heap) (h : l09_pattern_6_M Q E τ H) : vc Pr l09_pattern_p9 τ (l09_pattern_q3 Q E) E H :=
  vP (i := 4) h (fun x4 h => vSl (i := 5) h (fun x5 l5 c5 h => vSl (i := 6) h (fun x6 l6 c6 h => (conv (by kernel_rfl) h))))

theorem l09_pattern_8ok (Q : QT) (E : ET) (τ : Tau) (H : Heap) (h : l09_pattern_6_M Q E τ H) : vc Pr l09_pattern_p5 τ (l09_pattern_q1 Q E) E H :=
  (conv (B := vc Pr l09_pattern_p5 τ (l09_pattern_q1 Q E) E H) (by kernel_rfl) (vc_seq (K := (l09_pattern_3_M Q E)) (l09_pattern_7ok Q E τ H h) (l09_pattern_5ok Q E)))

@[reducible] noncomputable def l09_pattern_q4 (Q : QT) (E : ET) : Exit → Tau → Heap → Prop := (xthen (l09_pattern_6_M Q E) (l09_pattern_q1 Q E))

@[reducible] noncomputable def l09_pattern_p10 : Code := sA l09_pattern_p4

@[reducible] noncomputable def l09_pattern_p11 : Code := sB l09_pattern_p10

@[reducible] noncomputable def l09_pattern_q5 (Q : QT) (E : ET) : Exit → Tau → Heap → Prop := (xblock 2 (l09_pattern_q4 Q E))

@[reducible] noncomputable def l09_pattern_p12 : Code := sI l09_pattern_p11

@[reducible] noncomputable def l09_pattern_q6 (nx77 : Option Addr → Nat → Nat → Int → HP) (Q : QT) (E : ET) : Exit → Tau → Heap → Prop := (xthen (fun τ H => mSl (τ 6) fun x6' l6' c6' => mI .i64 (τ 8) fun x8' => nx77 x6' l6' c6' x8' H) (l09_pattern_q5 Q E))

@[reducible] noncomputable def l09_pattern_p13 : Code := sI l09_pattern_p12

@[reducible] noncomputable def l09_pattern_p14 : Code := sB l09_pattern_p13

def l09_pattern_9 (nx77 : Option Addr → Nat → Nat → Int → HP) (Q : QT) (E : ET) (x4 : OA) (x5 : OA) (l5 : Nat) (c5 : Nat) (x6 : OA) (l6 : Nat) (c6 : Nat) (x8 : Int) (H : Heap) : Prop :=
 Does Pr 49 #[(.pointer x4), (.int .i64 6)] H (fun v78 H79 =>
 ∃ n80 : Int, v78 = (.int .i64 n80) ∧ (0 ≤ (n80 : Int) ∧ (n80 : Int) < ((ByteArray.size ⟨[97, 98, 97, 98, 10, 120].toArray⟩ : Nat) : Int)) ∧ nw (.cells #[(.int .u8 (sAt ⟨[97, 98, 97, 98, 10, 120].toArray⟩ n80))] 5 (0, 0)) H79 fun i81 H82 =>
 app Pr 24 x6 l6 c6 (.slice (some ⟨i81, 0, none⟩) 1 1) H82 fun p83 l84 c85 H86 =>
 nx77 p83 l84 c85 (IntKind.wrap .i64 (x8 - 1)) H86) E

def l09_pattern_9_M (nx77 : Option Addr → Nat → Nat → Int → HP) (Q : QT) (E : ET) (τ : Tau) (H : Heap) : Prop := mP (τ 4) fun x4 => mSl (τ 5) fun x5 l5 c5 => mSl (τ 6) fun x6 l6 c6 => mI .i64 (τ 8) fun x8 => l09_pattern_9 nx77 Q E x4 x5 l5 c5 x6 l6 c6 x8 H

theorem l09_pattern_10ok (nx77 : Option Addr → Nat → Nat → Int → HP) (Q : QT) (E : ET) (τ : Tau) (H : Heap) (h : l09_pattern_9_M nx77 Q E τ H) : vc Pr l09_pattern_p14 τ (l09_pattern_q6 nx77 Q E) E H :=
  vP (i := 4) h (fun x4 h => vSl (i := 5) h (fun x5 l5 c5 h => vSl (i := 6) h (fun x6 l6 c6 h => vI (i := 8) h (fun x8 h => (conv (by kernel_rfl) h)))))

@[reducible] noncomputable def l09_pattern_q7 (nx77 : Option Addr → Nat → Nat → Int → HP) (Q : QT) (E : ET) : Exit → Tau → Heap → Prop := (xthen (l09_pattern_9_M nx77 Q E) (l09_pattern_q6 nx77 Q E))

@[reducible] noncomputable def l09_pattern_p15 : Code := sA l09_pattern_p13

def l09_pattern_11 (nx77 : Option Addr → Nat → Nat → Int → HP) (Q : QT) (E : ET) (x4 : OA) (x5 : OA) (l5 : Nat) (c5 : Nat) (x6 : OA) (l6 : Nat) (c6 : Nat) (x8 : Int) (H : Heap) : Prop :=
 sel (decide ((x8 : Int) > 0))
 (l09_pattern_9 nx77 Q E x4 x5 l5 c5 x6 l6 c6 x8 H)
 (l09_pattern_6 Q E x4 x5 l5 c5 x6 l6 c6 H)

def l09_pattern_11_M (nx77 : Option Addr → Nat → Nat → Int → HP) (Q : QT) (E : ET) (τ : Tau) (H : Heap) : Prop := mP (τ 4) fun x4 => mSl (τ 5) fun x5 l5 c5 => mSl (τ 6) fun x6 l6 c6 => mI .i64 (τ 8) fun x8 => l09_pattern_11 nx77 Q E x4 x5 l5 c5 x6 l6 c6 x8 H

theorem l09_pattern_12ok (nx77 : Option Addr → Nat → Nat → Int → HP) (Q : QT) (E : ET) (τ : Tau) (H : Heap) (h : l09_pattern_11_M nx77 Q E τ H) : vc Pr l09_pattern_p15 τ (l09_pattern_q7 nx77 Q E) E H :=
  vP (i := 4) h (fun x4 h => vSl (i := 5) h (fun x5 l5 c5 h => vSl (i := 6) h (fun x6 l6 c6 h => vI (i := 8) h (fun x8 h => (conv (by kernel_rfl) h)))))

theorem l09_pattern_13ok (nx77 : Option Addr → Nat → Nat → Int → HP) (Q : QT) (E : ET) (τ : Tau) (H : Heap) (h : l09_pattern_11_M nx77 Q E τ H) : vc Pr l09_pattern_p13 τ (l09_pattern_q6 nx77 Q E) E H :=
  (conv (B := vc Pr l09_pattern_p13 τ (l09_pattern_q6 nx77 Q E) E H) (by kernel_rfl) (vc_seq (K := (l09_pattern_9_M nx77 Q E)) (l09_pattern_12ok nx77 Q E τ H h) (l09_pattern_10ok nx77 Q E)))

def l09_pattern_14 (Q : QT) (E : ET) (x4 : OA) (x5 : OA) (l5 : Nat) (c5 : Nat) (x6 : OA) (l6 : Nat) (c6 : Nat) (x8 : Int) (H : Heap) : Prop :=
 ∃ (I : Option Addr → Nat → Nat → Int → HP) (μ : Option Addr → Nat → Nat → Int → Heap → Nat), I x6 l6 c6 x8 H ∧ ∀ (x6 : OA) (l6 : Nat) (c6 : Nat) (x8 : Int) (H : Heap), I x6 l6 c6 x8 H →
 l09_pattern_11 (fun x6' l6' c6' x8' H1 => I x6' l6' c6' x8' H1 ∧ μ x6' l6' c6' x8' H1 < μ x6 l6 c6 x8 H) Q E x4 x5 l5 c5 x6 l6 c6 x8 H

def l09_pattern_14_M (Q : QT) (E : ET) (τ : Tau) (H : Heap) : Prop := mP (τ 4) fun x4 => mSl (τ 5) fun x5 l5 c5 => mSl (τ 6) fun x6 l6 c6 => mI .i64 (τ 8) fun x8 => l09_pattern_14 Q E x4 x5 l5 c5 x6 l6 c6 x8 H

theorem l09_pattern_15ok (Q : QT) (E : ET) (τ : Tau) (H : Heap) (h : l09_pattern_14_M Q E τ H) : vc Pr l09_pattern_p12 τ (l09_pattern_q5 Q E) E H :=
  vP (i := 4) h (fun x4 h => vSl (i := 5) h (fun x5 l5 c5 h => vSl (i := 6) h (fun x6 l6 c6 h => vI (i := 8) h (fun x8 h => match h with | ⟨I, μ, h0, hr⟩ => (conv (B := vc Pr l09_pattern_p12 (Tau.upd (Tau.upd (Tau.upd (Tau.upd τ 4 (.pointer x4)) 5 (.slice x5 l5 c5)) 6 (.slice x6 l6 c6)) 8 (.int .i64 x8)) (l09_pattern_q5 Q E) E H) (by kernel_rfl) (vc_loop (c := sI l09_pattern_p12) (τ := (Tau.upd (Tau.upd (Tau.upd (Tau.upd τ 4 (.pointer x4)) 5 (.slice x5 l5 c5)) 6 (.slice x6 l6 c6)) 8 (.int .i64 x8))) [4, 5] (fun τ H => mSl (τ 6) fun x6' l6' c6' => mI .i64 (τ 8) fun x8' => I x6' l6' c6' x8' H) (fun τ H => μ (gL1 (τ 6)) (gL2 (τ 6)) (gL3 (τ 6)) (gI (τ 8)) H) (by kernel_rfl) h0 (fun τ1 H1 hf hI => fix_elim (τ := τ1) (i := 4) (v := (.pointer x4)) (G := fun τ => vc Pr (sI l09_pattern_p12) τ (xthen (fun τ2 H2 => (mSl (τ2 6) fun x6' l6' c6' => mI .i64 (τ2 8) fun x8' => I x6' l6' c6' x8' H2) ∧ μ (gL1 (τ2 6)) (gL2 (τ2 6)) (gL3 (τ2 6)) (gI (τ2 8)) H2 < μ (gL1 (τ 6)) (gL2 (τ 6)) (gL3 (τ 6)) (gI (τ 8)) H1) (l09_pattern_q5 Q E)) E H1) (hf 4 (by simp)) (fix_elim (τ := (Tau.upd τ1 4 (.pointer x4))) (i := 5) (v := (.slice x5 l5 c5)) (G := fun τ => vc Pr (sI l09_pattern_p12) τ (xthen (fun τ2 H2 => (mSl (τ2 6) fun x6' l6' c6' => mI .i64 (τ2 8) fun x8' => I x6' l6' c6' x8' H2) ∧ μ (gL1 (τ2 6)) (gL2 (τ2 6)) (gL3 (τ2 6)) (gI (τ2 8)) H2 < μ (gL1 (τ 6)) (gL2 (τ 6)) (gL3 (τ 6)) (gI (τ 8)) H1) (l09_pattern_q5 Q E)) E H1) (hf 5 (by simp)) (mSl_elim (i := 6) (G := fun τ => vc Pr (sI l09_pattern_p12) τ (xthen (fun τ2 H2 => (mSl (τ2 6) fun x6' l6' c6' => mI .i64 (τ2 8) fun x8' => I x6' l6' c6' x8' H2) ∧ μ (gL1 (τ2 6)) (gL2 (τ2 6)) (gL3 (τ2 6)) (gI (τ2 8)) H2 < μ (gL1 (τ 6)) (gL2 (τ 6)) (gL3 (τ 6)) (gI (τ 8)) H1) (l09_pattern_q5 Q E)) E H1) hI (fun x6r l6r c6r h => mI_elim (i := 8) (G := fun τ => vc Pr (sI l09_pattern_p12) τ (xthen (fun τ2 H2 => (mSl (τ2 6) fun x6' l6' c6' => mI .i64 (τ2 8) fun x8' => I x6' l6' c6' x8' H2) ∧ μ (gL1 (τ2 6)) (gL2 (τ2 6)) (gL3 (τ2 6)) (gI (τ2 8)) H2 < μ (gL1 (τ 6)) (gL2 (τ 6)) (gL3 (τ 6)) (gI (τ 8)) H1) (l09_pattern_q5 Q E)) E H1) h (fun x8r h => (conv (B := vc Pr (sI l09_pattern_p12) (Tau.upd (Tau.upd (Tau.upd (Tau.upd τ1 4 (.pointer x4)) 5 (.slice x5 l5 c5)) 6 (.slice x6r l6r c6r)) 8 (.int .i64 x8r)) (xthen (fun τ2 H2 => (mSl (τ2 6) fun x6' l6' c6' => mI .i64 (τ2 8) fun x8' => I x6' l6' c6' x8' H2) ∧ μ (gL1 (τ2 6)) (gL2 (τ2 6)) (gL3 (τ2 6)) (gI (τ2 8)) H2 < μ (gL1 ((Tau.upd (Tau.upd (Tau.upd (Tau.upd τ1 4 (.pointer x4)) 5 (.slice x5 l5 c5)) 6 (.slice x6r l6r c6r)) 8 (.int .i64 x8r)) 6)) (gL2 ((Tau.upd (Tau.upd (Tau.upd (Tau.upd τ1 4 (.pointer x4)) 5 (.slice x5 l5 c5)) 6 (.slice x6r l6r c6r)) 8 (.int .i64 x8r)) 6)) (gL3 ((Tau.upd (Tau.upd (Tau.upd (Tau.upd τ1 4 (.pointer x4)) 5 (.slice x5 l5 c5)) 6 (.slice x6r l6r c6r)) 8 (.int .i64 x8r)) 6)) (gI ((Tau.upd (Tau.upd (Tau.upd (Tau.upd τ1 4 (.pointer x4)) 5 (.slice x5 l5 c5)) 6 (.slice x6r l6r c6r)) 8 (.int .i64 x8r)) 8)) H1) (l09_pattern_q5 Q E)) E H1) (by kernel_rfl) (vc_xthen (l09_pattern_13ok (fun x6' l6' c6' x8' H2 => I x6' l6' c6' x8' H2 ∧ μ x6' l6' c6' x8' H2 < μ x6r l6r c6r x8r H1) Q E (Tau.upd (Tau.upd (Tau.upd (Tau.upd τ1 4 (.pointer x4)) 5 (.slice x5 l5 c5)) 6 (.slice x6r l6r c6r)) 8 (.int .i64 x8r)) H1 (conv (B := l09_pattern_11_M (fun x6' l6' c6' x8' H2 => I x6' l6' c6' x8' H2 ∧ μ x6' l6' c6' x8' H2 < μ x6r l6r c6r x8r H1) Q E (Tau.upd (Tau.upd (Tau.upd (Tau.upd τ1 4 (.pointer x4)) 5 (.slice x5 l5 c5)) 6 (.slice x6r l6r c6r)) 8 (.int .i64 x8r)) H1) (by kernel_rfl) (hr x6r l6r c6r x8r H1 h))) (fun τ2 H2 hk => mSl_elim (i := 6) (G := fun τ => (mSl (τ 6) fun x6' l6' c6' => mI .i64 (τ 8) fun x8' => I x6' l6' c6' x8' H2) ∧ μ (gL1 (τ 6)) (gL2 (τ 6)) (gL3 (τ 6)) (gI (τ 8)) H2 < μ x6r l6r c6r x8r H1) hk (fun x6' l6' c6' h => mI_elim (i := 8) (G := fun τ => (mSl (τ 6) fun x6' l6' c6' => mI .i64 (τ 8) fun x8' => I x6' l6' c6' x8' H2) ∧ μ (gL1 (τ 6)) (gL2 (τ 6)) (gL3 (τ 6)) (gI (τ 8)) H2 < μ x6r l6r c6r x8r H1) h (fun x8' h => h))))))))))))))))

theorem l09_pattern_16ok (Q : QT) (E : ET) (τ : Tau) (H : Heap) (h : l09_pattern_14_M Q E τ H) : vc Pr l09_pattern_p11 τ (l09_pattern_q4 Q E) E H :=
  (conv (B := vc Pr l09_pattern_p11 τ (l09_pattern_q4 Q E) E H) (by kernel_rfl) (l09_pattern_15ok Q E τ H h))

@[reducible] noncomputable def l09_pattern_q8 (Q : QT) (E : ET) : Exit → Tau → Heap → Prop := (xthen (l09_pattern_14_M Q E) (l09_pattern_q4 Q E))

@[reducible] noncomputable def l09_pattern_p16 : Code := sA l09_pattern_p10

def l09_pattern_17 (Q : QT) (E : ET) (x4 : OA) (x5 : OA) (l5 : Nat) (c5 : Nat) (x6 : OA) (l6 : Nat) (c6 : Nat) (H : Heap) : Prop :=
 Does Pr 49 #[(.pointer x4), (.int .i64 10)] H (fun v87 H88 =>
 ∃ n89 : Int, v87 = (.int .i64 n89) ∧ l09_pattern_14 Q E x4 x5 l5 c5 x6 l6 c6 n89 H88) E

def l09_pattern_17_M (Q : QT) (E : ET) (τ : Tau) (H : Heap) : Prop := mP (τ 4) fun x4 => mSl (τ 5) fun x5 l5 c5 => mSl (τ 6) fun x6 l6 c6 => l09_pattern_17 Q E x4 x5 l5 c5 x6 l6 c6 H

theorem l09_pattern_18ok (Q : QT) (E : ET) (τ : Tau) (H : Heap) (h : l09_pattern_17_M Q E τ H) : vc Pr l09_pattern_p16 τ (l09_pattern_q8 Q E) E H :=
  vP (i := 4) h (fun x4 h => vSl (i := 5) h (fun x5 l5 c5 h => vSl (i := 6) h (fun x6 l6 c6 h => (conv (by kernel_rfl) h))))

theorem l09_pattern_19ok (Q : QT) (E : ET) (τ : Tau) (H : Heap) (h : l09_pattern_17_M Q E τ H) : vc Pr l09_pattern_p10 τ (l09_pattern_q4 Q E) E H :=
  (conv (B := vc Pr l09_pattern_p10 τ (l09_pattern_q4 Q E) E H) (by kernel_rfl) (vc_seq (K := (l09_pattern_14_M Q E)) (l09_pattern_18ok Q E τ H h) (l09_pattern_16ok Q E)))

theorem l09_pattern_20ok (Q : QT) (E : ET) (τ : Tau) (H : Heap) (h : l09_pattern_17_M Q E τ H) : vc Pr l09_pattern_p4 τ (l09_pattern_q1 Q E) E H :=
  (conv (B := vc Pr l09_pattern_p4 τ (l09_pattern_q1 Q E) E H) (by kernel_rfl) (vc_seq (K := (l09_pattern_6_M Q E)) (l09_pattern_19ok Q E τ H h) (l09_pattern_8ok Q E)))

@[reducible] noncomputable def l09_pattern_q9 (Q : QT) (E : ET) : Exit → Tau → Heap → Prop := (xthen (l09_pattern_17_M Q E) (l09_pattern_q1 Q E))

@[reducible] noncomputable def l09_pattern_p17 : Code := sA l09_pattern_p3

@[reducible] noncomputable def l09_pattern_p18 : Code := sB l09_pattern_p17

@[reducible] noncomputable def l09_pattern_q10 (Q : QT) (E : ET) : Exit → Tau → Heap → Prop := (xblock 0 (l09_pattern_q9 Q E))

@[reducible] noncomputable def l09_pattern_p19 : Code := sI l09_pattern_p18

@[reducible] noncomputable def l09_pattern_q11 (nx93 : Option Addr → Nat → Nat → Int → HP) (Q : QT) (E : ET) : Exit → Tau → Heap → Prop := (xthen (fun τ H => mSl (τ 5) fun x5' l5' c5' => mI .i64 (τ 7) fun x7' => nx93 x5' l5' c5' x7' H) (l09_pattern_q10 Q E))

@[reducible] noncomputable def l09_pattern_p20 : Code := sI l09_pattern_p19

@[reducible] noncomputable def l09_pattern_p21 : Code := sB l09_pattern_p20

def l09_pattern_21 (nx93 : Option Addr → Nat → Nat → Int → HP) (Q : QT) (E : ET) (x4 : OA) (x5 : OA) (l5 : Nat) (c5 : Nat) (x6 : OA) (l6 : Nat) (c6 : Nat) (x7 : Int) (H : Heap) : Prop :=
 Does Pr 49 #[(.pointer x4), (.int .i64 14)] H (fun v94 H95 =>
 ∃ n96 : Int, v94 = (.int .i64 n96) ∧ (0 ≤ (n96 : Int) ∧ (n96 : Int) < ((ByteArray.size ⟨[97, 98, 46, 40, 42, 124, 41, 43, 63, 94, 36, 91, 98, 93].toArray⟩ : Nat) : Int)) ∧ nw (.cells #[(.int .u8 (sAt ⟨[97, 98, 46, 40, 42, 124, 41, 43, 63, 94, 36, 91, 98, 93].toArray⟩ n96))] 5 (0, 0)) H95 fun i97 H98 =>
 app Pr 24 x5 l5 c5 (.slice (some ⟨i97, 0, none⟩) 1 1) H98 fun p99 l100 c101 H102 =>
 nx93 p99 l100 c101 (IntKind.wrap .i64 (x7 - 1)) H102) E

def l09_pattern_21_M (nx93 : Option Addr → Nat → Nat → Int → HP) (Q : QT) (E : ET) (τ : Tau) (H : Heap) : Prop := mP (τ 4) fun x4 => mSl (τ 5) fun x5 l5 c5 => mSl (τ 6) fun x6 l6 c6 => mI .i64 (τ 7) fun x7 => l09_pattern_21 nx93 Q E x4 x5 l5 c5 x6 l6 c6 x7 H

theorem l09_pattern_22ok (nx93 : Option Addr → Nat → Nat → Int → HP) (Q : QT) (E : ET) (τ : Tau) (H : Heap) (h : l09_pattern_21_M nx93 Q E τ H) : vc Pr l09_pattern_p21 τ (l09_pattern_q11 nx93 Q E) E H :=
  vP (i := 4) h (fun x4 h => vSl (i := 5) h (fun x5 l5 c5 h => vSl (i := 6) h (fun x6 l6 c6 h => vI (i := 7) h (fun x7 h => (conv (by kernel_rfl) h)))))

@[reducible] noncomputable def l09_pattern_q12 (nx93 : Option Addr → Nat → Nat → Int → HP) (Q : QT) (E : ET) : Exit → Tau → Heap → Prop := (xthen (l09_pattern_21_M nx93 Q E) (l09_pattern_q11 nx93 Q E))

@[reducible] noncomputable def l09_pattern_p22 : Code := sA l09_pattern_p20

def l09_pattern_23 (nx93 : Option Addr → Nat → Nat → Int → HP) (Q : QT) (E : ET) (x4 : OA) (x5 : OA) (l5 : Nat) (c5 : Nat) (x6 : OA) (l6 : Nat) (c6 : Nat) (x7 : Int) (H : Heap) : Prop :=
 sel (decide ((x7 : Int) > 0))
 (l09_pattern_21 nx93 Q E x4 x5 l5 c5 x6 l6 c6 x7 H)
 (l09_pattern_17 Q E x4 x5 l5 c5 x6 l6 c6 H)

def l09_pattern_23_M (nx93 : Option Addr → Nat → Nat → Int → HP) (Q : QT) (E : ET) (τ : Tau) (H : Heap) : Prop := mP (τ 4) fun x4 => mSl (τ 5) fun x5 l5 c5 => mSl (τ 6) fun x6 l6 c6 => mI .i64 (τ 7) fun x7 => l09_pattern_23 nx93 Q E x4 x5 l5 c5 x6 l6 c6 x7 H

theorem l09_pattern_24ok (nx93 : Option Addr → Nat → Nat → Int → HP) (Q : QT) (E : ET) (τ : Tau) (H : Heap) (h : l09_pattern_23_M nx93 Q E τ H) : vc Pr l09_pattern_p22 τ (l09_pattern_q12 nx93 Q E) E H :=
  vP (i := 4) h (fun x4 h => vSl (i := 5) h (fun x5 l5 c5 h => vSl (i := 6) h (fun x6 l6 c6 h => vI (i := 7) h (fun x7 h => (conv (by kernel_rfl) h)))))

theorem l09_pattern_25ok (nx93 : Option Addr → Nat → Nat → Int → HP) (Q : QT) (E : ET) (τ : Tau) (H : Heap) (h : l09_pattern_23_M nx93 Q E τ H) : vc Pr l09_pattern_p20 τ (l09_pattern_q11 nx93 Q E) E H :=
  (conv (B := vc Pr l09_pattern_p20 τ (l09_pattern_q11 nx93 Q E) E H) (by kernel_rfl) (vc_seq (K := (l09_pattern_21_M nx93 Q E)) (l09_pattern_24ok nx93 Q E τ H h) (l09_pattern_22ok nx93 Q E)))

def l09_pattern_26 (Q : QT) (E : ET) (x4 : OA) (x6 : OA) (l6 : Nat) (c6 : Nat) (x5 : OA) (l5 : Nat) (c5 : Nat) (x7 : Int) (H : Heap) : Prop :=
 ∃ (I : Option Addr → Nat → Nat → Int → HP) (μ : Option Addr → Nat → Nat → Int → Heap → Nat), I x5 l5 c5 x7 H ∧ ∀ (x5 : OA) (l5 : Nat) (c5 : Nat) (x7 : Int) (H : Heap), I x5 l5 c5 x7 H →
 l09_pattern_23 (fun x5' l5' c5' x7' H1 => I x5' l5' c5' x7' H1 ∧ μ x5' l5' c5' x7' H1 < μ x5 l5 c5 x7 H) Q E x4 x5 l5 c5 x6 l6 c6 x7 H

def l09_pattern_26_M (Q : QT) (E : ET) (τ : Tau) (H : Heap) : Prop := mP (τ 4) fun x4 => mSl (τ 6) fun x6 l6 c6 => mSl (τ 5) fun x5 l5 c5 => mI .i64 (τ 7) fun x7 => l09_pattern_26 Q E x4 x6 l6 c6 x5 l5 c5 x7 H

theorem l09_pattern_27ok (Q : QT) (E : ET) (τ : Tau) (H : Heap) (h : l09_pattern_26_M Q E τ H) : vc Pr l09_pattern_p19 τ (l09_pattern_q10 Q E) E H :=
  vP (i := 4) h (fun x4 h => vSl (i := 6) h (fun x6 l6 c6 h => vSl (i := 5) h (fun x5 l5 c5 h => vI (i := 7) h (fun x7 h => match h with | ⟨I, μ, h0, hr⟩ => (conv (B := vc Pr l09_pattern_p19 (Tau.upd (Tau.upd (Tau.upd (Tau.upd τ 4 (.pointer x4)) 6 (.slice x6 l6 c6)) 5 (.slice x5 l5 c5)) 7 (.int .i64 x7)) (l09_pattern_q10 Q E) E H) (by kernel_rfl) (vc_loop (c := sI l09_pattern_p19) (τ := (Tau.upd (Tau.upd (Tau.upd (Tau.upd τ 4 (.pointer x4)) 6 (.slice x6 l6 c6)) 5 (.slice x5 l5 c5)) 7 (.int .i64 x7))) [4, 6] (fun τ H => mSl (τ 5) fun x5' l5' c5' => mI .i64 (τ 7) fun x7' => I x5' l5' c5' x7' H) (fun τ H => μ (gL1 (τ 5)) (gL2 (τ 5)) (gL3 (τ 5)) (gI (τ 7)) H) (by kernel_rfl) h0 (fun τ1 H1 hf hI => fix_elim (τ := τ1) (i := 4) (v := (.pointer x4)) (G := fun τ => vc Pr (sI l09_pattern_p19) τ (xthen (fun τ2 H2 => (mSl (τ2 5) fun x5' l5' c5' => mI .i64 (τ2 7) fun x7' => I x5' l5' c5' x7' H2) ∧ μ (gL1 (τ2 5)) (gL2 (τ2 5)) (gL3 (τ2 5)) (gI (τ2 7)) H2 < μ (gL1 (τ 5)) (gL2 (τ 5)) (gL3 (τ 5)) (gI (τ 7)) H1) (l09_pattern_q10 Q E)) E H1) (hf 4 (by simp)) (fix_elim (τ := (Tau.upd τ1 4 (.pointer x4))) (i := 6) (v := (.slice x6 l6 c6)) (G := fun τ => vc Pr (sI l09_pattern_p19) τ (xthen (fun τ2 H2 => (mSl (τ2 5) fun x5' l5' c5' => mI .i64 (τ2 7) fun x7' => I x5' l5' c5' x7' H2) ∧ μ (gL1 (τ2 5)) (gL2 (τ2 5)) (gL3 (τ2 5)) (gI (τ2 7)) H2 < μ (gL1 (τ 5)) (gL2 (τ 5)) (gL3 (τ 5)) (gI (τ 7)) H1) (l09_pattern_q10 Q E)) E H1) (hf 6 (by simp)) (mSl_elim (i := 5) (G := fun τ => vc Pr (sI l09_pattern_p19) τ (xthen (fun τ2 H2 => (mSl (τ2 5) fun x5' l5' c5' => mI .i64 (τ2 7) fun x7' => I x5' l5' c5' x7' H2) ∧ μ (gL1 (τ2 5)) (gL2 (τ2 5)) (gL3 (τ2 5)) (gI (τ2 7)) H2 < μ (gL1 (τ 5)) (gL2 (τ 5)) (gL3 (τ 5)) (gI (τ 7)) H1) (l09_pattern_q10 Q E)) E H1) hI (fun x5r l5r c5r h => mI_elim (i := 7) (G := fun τ => vc Pr (sI l09_pattern_p19) τ (xthen (fun τ2 H2 => (mSl (τ2 5) fun x5' l5' c5' => mI .i64 (τ2 7) fun x7' => I x5' l5' c5' x7' H2) ∧ μ (gL1 (τ2 5)) (gL2 (τ2 5)) (gL3 (τ2 5)) (gI (τ2 7)) H2 < μ (gL1 (τ 5)) (gL2 (τ 5)) (gL3 (τ 5)) (gI (τ 7)) H1) (l09_pattern_q10 Q E)) E H1) h (fun x7r h => (conv (B := vc Pr (sI l09_pattern_p19) (Tau.upd (Tau.upd (Tau.upd (Tau.upd τ1 4 (.pointer x4)) 6 (.slice x6 l6 c6)) 5 (.slice x5r l5r c5r)) 7 (.int .i64 x7r)) (xthen (fun τ2 H2 => (mSl (τ2 5) fun x5' l5' c5' => mI .i64 (τ2 7) fun x7' => I x5' l5' c5' x7' H2) ∧ μ (gL1 (τ2 5)) (gL2 (τ2 5)) (gL3 (τ2 5)) (gI (τ2 7)) H2 < μ (gL1 ((Tau.upd (Tau.upd (Tau.upd (Tau.upd τ1 4 (.pointer x4)) 6 (.slice x6 l6 c6)) 5 (.slice x5r l5r c5r)) 7 (.int .i64 x7r)) 5)) (gL2 ((Tau.upd (Tau.upd (Tau.upd (Tau.upd τ1 4 (.pointer x4)) 6 (.slice x6 l6 c6)) 5 (.slice x5r l5r c5r)) 7 (.int .i64 x7r)) 5)) (gL3 ((Tau.upd (Tau.upd (Tau.upd (Tau.upd τ1 4 (.pointer x4)) 6 (.slice x6 l6 c6)) 5 (.slice x5r l5r c5r)) 7 (.int .i64 x7r)) 5)) (gI ((Tau.upd (Tau.upd (Tau.upd (Tau.upd τ1 4 (.pointer x4)) 6 (.slice x6 l6 c6)) 5 (.slice x5r l5r c5r)) 7 (.int .i64 x7r)) 7)) H1) (l09_pattern_q10 Q E)) E H1) (by kernel_rfl) (vc_xthen (l09_pattern_25ok (fun x5' l5' c5' x7' H2 => I x5' l5' c5' x7' H2 ∧ μ x5' l5' c5' x7' H2 < μ x5r l5r c5r x7r H1) Q E (Tau.upd (Tau.upd (Tau.upd (Tau.upd τ1 4 (.pointer x4)) 6 (.slice x6 l6 c6)) 5 (.slice x5r l5r c5r)) 7 (.int .i64 x7r)) H1 (conv (B := l09_pattern_23_M (fun x5' l5' c5' x7' H2 => I x5' l5' c5' x7' H2 ∧ μ x5' l5' c5' x7' H2 < μ x5r l5r c5r x7r H1) Q E (Tau.upd (Tau.upd (Tau.upd (Tau.upd τ1 4 (.pointer x4)) 6 (.slice x6 l6 c6)) 5 (.slice x5r l5r c5r)) 7 (.int .i64 x7r)) H1) (by kernel_rfl) (hr x5r l5r c5r x7r H1 h))) (fun τ2 H2 hk => mSl_elim (i := 5) (G := fun τ => (mSl (τ 5) fun x5' l5' c5' => mI .i64 (τ 7) fun x7' => I x5' l5' c5' x7' H2) ∧ μ (gL1 (τ 5)) (gL2 (τ 5)) (gL3 (τ 5)) (gI (τ 7)) H2 < μ x5r l5r c5r x7r H1) hk (fun x5' l5' c5' h => mI_elim (i := 7) (G := fun τ => (mSl (τ 5) fun x5' l5' c5' => mI .i64 (τ 7) fun x7' => I x5' l5' c5' x7' H2) ∧ μ (gL1 (τ 5)) (gL2 (τ 5)) (gL3 (τ 5)) (gI (τ 7)) H2 < μ x5r l5r c5r x7r H1) h (fun x7' h => h))))))))))))))))

theorem l09_pattern_28ok (Q : QT) (E : ET) (τ : Tau) (H : Heap) (h : l09_pattern_26_M Q E τ H) : vc Pr l09_pattern_p18 τ (l09_pattern_q9 Q E) E H :=
  (conv (B := vc Pr l09_pattern_p18 τ (l09_pattern_q9 Q E) E H) (by kernel_rfl) (l09_pattern_27ok Q E τ H h))

@[reducible] noncomputable def l09_pattern_q13 (Q : QT) (E : ET) : Exit → Tau → Heap → Prop := (xthen (l09_pattern_26_M Q E) (l09_pattern_q9 Q E))

@[reducible] noncomputable def l09_pattern_p23 : Code := sA l09_pattern_p17

def l09_pattern_29 (Q : QT) (E : ET) (x4 : OA) (x5 : OA) (l5 : Nat) (c5 : Nat) (x6 : OA) (l6 : Nat) (c6 : Nat) (H : Heap) : Prop :=
 Does Pr 48 #[(.pointer x4), (.int .i64 1), (.int .i64 14)] H (fun v103 H104 =>
 ∃ n105 : Int, v103 = (.int .i64 n105) ∧ l09_pattern_26 Q E x4 x6 l6 c6 x5 l5 c5 n105 H104) E

def l09_pattern_29_M (Q : QT) (E : ET) (τ : Tau) (H : Heap) : Prop := mP (τ 4) fun x4 => mSl (τ 5) fun x5 l5 c5 => mSl (τ 6) fun x6 l6 c6 => l09_pattern_29 Q E x4 x5 l5 c5 x6 l6 c6 H

theorem l09_pattern_30ok (Q : QT) (E : ET) (τ : Tau) (H : Heap) (h : l09_pattern_29_M Q E τ H) : vc Pr l09_pattern_p23 τ (l09_pattern_q13 Q E) E H :=
  vP (i := 4) h (fun x4 h => vSl (i := 5) h (fun x5 l5 c5 h => vSl (i := 6) h (fun x6 l6 c6 h => (conv (by kernel_rfl) h))))

theorem l09_pattern_31ok (Q : QT) (E : ET) (τ : Tau) (H : Heap) (h : l09_pattern_29_M Q E τ H) : vc Pr l09_pattern_p17 τ (l09_pattern_q9 Q E) E H :=
  (conv (B := vc Pr l09_pattern_p17 τ (l09_pattern_q9 Q E) E H) (by kernel_rfl) (vc_seq (K := (l09_pattern_26_M Q E)) (l09_pattern_30ok Q E τ H h) (l09_pattern_28ok Q E)))

theorem l09_pattern_32ok (Q : QT) (E : ET) (τ : Tau) (H : Heap) (h : l09_pattern_29_M Q E τ H) : vc Pr l09_pattern_p3 τ (l09_pattern_q1 Q E) E H :=
  (conv (B := vc Pr l09_pattern_p3 τ (l09_pattern_q1 Q E) E H) (by kernel_rfl) (vc_seq (K := (l09_pattern_17_M Q E)) (l09_pattern_31ok Q E τ H h) (l09_pattern_20ok Q E)))

@[reducible] noncomputable def l09_pattern_q14 (Q : QT) (E : ET) : Exit → Tau → Heap → Prop := (xthen (l09_pattern_29_M Q E) (l09_pattern_q1 Q E))

@[reducible] noncomputable def l09_pattern_p24 : Code := sA l09_pattern_p2

def l09_pattern_33 (Q : QT) (E : ET) (x4 : OA) (H : Heap) : Prop :=
 l09_pattern_29 Q E x4 none 0 0 none 0 0 H

def l09_pattern_33_M (Q : QT) (E : ET) (τ : Tau) (H : Heap) : Prop := mP (τ 4) fun x4 => l09_pattern_33 Q E x4 H

theorem l09_pattern_34ok (Q : QT) (E : ET) (τ : Tau) (H : Heap) (h : l09_pattern_33_M Q E τ H) : vc Pr l09_pattern_p24 τ (l09_pattern_q14 Q E) E H :=
  vP (i := 4) h (fun x4 h => (conv (by kernel_rfl) h))

theorem l09_pattern_35ok (Q : QT) (E : ET) (τ : Tau) (H : Heap) (h : l09_pattern_33_M Q E τ H) : vc Pr l09_pattern_p2 τ (l09_pattern_q1 Q E) E H :=
  (conv (B := vc Pr l09_pattern_p2 τ (l09_pattern_q1 Q E) E H) (by kernel_rfl) (vc_seq (K := (l09_pattern_29_M Q E)) (l09_pattern_34ok Q E τ H h) (l09_pattern_32ok Q E)))

@[reducible] noncomputable def l09_pattern_q15 (Q : QT) (E : ET) : Exit → Tau → Heap → Prop := (xthen (l09_pattern_33_M Q E) (l09_pattern_q1 Q E))

@[reducible] noncomputable def l09_pattern_p25 : Code := sA l09_pattern_p1

def l09_pattern_36 (Q : QT) (E : ET) (x0 : OA) (l0 : Nat) (c0 : Nat) (H : Heap) : Prop :=
 Does Pr 47 #[(.slice x0 l0 c0)] H (fun v106 H107 =>
 ∃ p108 : Option Addr, v106 = (.pointer p108) ∧ l09_pattern_33 Q E p108 H107) E

def l09_pattern_36_M (Q : QT) (E : ET) (τ : Tau) (H : Heap) : Prop := mSl (τ 0) fun x0 l0 c0 => l09_pattern_36 Q E x0 l0 c0 H

theorem l09_pattern_37ok (Q : QT) (E : ET) (τ : Tau) (H : Heap) (h : l09_pattern_36_M Q E τ H) : vc Pr l09_pattern_p25 τ (l09_pattern_q15 Q E) E H :=
  vSl (i := 0) h (fun x0 l0 c0 h => (conv (by kernel_rfl) h))

theorem l09_pattern_38ok (Q : QT) (E : ET) (τ : Tau) (H : Heap) (h : l09_pattern_36_M Q E τ H) : vc Pr l09_pattern_p1 τ (l09_pattern_q1 Q E) E H :=
  (conv (B := vc Pr l09_pattern_p1 τ (l09_pattern_q1 Q E) E H) (by kernel_rfl) (vc_seq (K := (l09_pattern_33_M Q E)) (l09_pattern_37ok Q E τ H h) (l09_pattern_35ok Q E)))

@[reducible] noncomputable def l09_pattern_q16 (Q : QT) (E : ET) : Exit → Tau → Heap → Prop := (xthen (l09_pattern_36_M Q E) (l09_pattern_q1 Q E))

@[reducible] noncomputable def l09_pattern_p26 : Code := sA l09_pattern_p0

def l09_pattern (Q : QT) (E : ET) (a0 : OA) (a0l : Nat) (a0c : Nat) (H : Heap) : Prop :=
 l09_pattern_36 Q E a0 a0l a0c H

theorem l09_pattern_fn (a0 : OA) (a0l : Nat) (a0c : Nat) (Q : QT) (E : ET) (H : Heap) (h : l09_pattern Q E a0 a0l a0c H)   : Does Pr 18 #[(.slice a0 a0l a0c)] H Q E :=
  Fn_of_vc (fn := Try.f18) (c := l09_pattern_p0) (args := [(.slice a0 a0l a0c)]) mixed (by kernel_rfl) (by kernel_rfl) (by kernel_rfl) (by kernel_rfl) (by kernel_rfl) ((conv (B := vc Pr l09_pattern_p0 (argT [(.slice a0 a0l a0c)]) (l09_pattern_q1 Q E) E H) (by kernel_rfl) (vc_seq (K := (l09_pattern_36_M Q E)) (conv (B := vc Pr l09_pattern_p26 (argT [(.slice a0 a0l a0c)]) (l09_pattern_q16 Q E) E H) (by kernel_rfl) h) (l09_pattern_38ok Q E))))

/-! jobmux/jobmuxlaw09.has -/
@[reducible] noncomputable def l09_has_q1 (Q : QT) (E : ET) : Exit → Tau → Heap → Prop := (retQ Pr (Try.f25).results.toList Q)

@[reducible] noncomputable def l09_has_p0 : Code := bodyOf Try.f25

@[reducible] noncomputable def l09_has_p1 : Code := sB l09_has_p0

@[reducible] noncomputable def l09_has_p2 : Code := sB l09_has_p1

def l09_has_1 (Q : QT) (E : ET)  (H : Heap) : Prop :=
 Q (.bool false) H

def l09_has_1_M (Q : QT) (E : ET) (τ : Tau) (H : Heap) : Prop := l09_has_1 Q E  H

theorem l09_has_2ok (Q : QT) (E : ET) (τ : Tau) (H : Heap) (h : l09_has_1_M Q E τ H) : vc Pr l09_has_p2 τ (l09_has_q1 Q E) E H :=
  (conv (B := vc Pr l09_has_p2 τ (l09_has_q1 Q E) E H) (by kernel_rfl) h)

@[reducible] noncomputable def l09_has_q2 (Q : QT) (E : ET) : Exit → Tau → Heap → Prop := (xthen (l09_has_1_M Q E) (l09_has_q1 Q E))

@[reducible] noncomputable def l09_has_p3 : Code := sA l09_has_p1

@[reducible] noncomputable def l09_has_p4 : Code := sB l09_has_p3

@[reducible] noncomputable def l09_has_q3 (Q : QT) (E : ET) : Exit → Tau → Heap → Prop := (xblock 0 (l09_has_q2 Q E))

@[reducible] noncomputable def l09_has_p5 : Code := sI l09_has_p4

@[reducible] noncomputable def l09_has_q4 (nx3 : Int → HP) (Q : QT) (E : ET) : Exit → Tau → Heap → Prop := (xthen (fun τ H => mI .i64 (τ 9) fun x9' => nx3 x9' H) (l09_has_q3 Q E))

@[reducible] noncomputable def l09_has_p6 : Code := sI l09_has_p5

@[reducible] noncomputable def l09_has_p7 : Code := sB l09_has_p6

@[reducible] noncomputable def l09_has_p8 : Code := sB l09_has_p7

@[reducible] noncomputable def l09_has_p9 : Code := sB l09_has_p8

def l09_has_3 (nx3 : Int → HP) (Q : QT) (E : ET) (x1 : Int) (x7 : OA) (l7 : Nat) (c7 : Nat) (x8 : Int) (x9 : Int) (H : Heap) : Prop :=
 nx3 (IntKind.wrap .i64 (x9 + 1)) H

def l09_has_3_M (nx3 : Int → HP) (Q : QT) (E : ET) (τ : Tau) (H : Heap) : Prop := mI .i64 (τ 1) fun x1 => mSl (τ 7) fun x7 l7 c7 => mI .i64 (τ 8) fun x8 => mI .i64 (τ 9) fun x9 => l09_has_3 nx3 Q E x1 x7 l7 c7 x8 x9 H

theorem l09_has_4ok (nx3 : Int → HP) (Q : QT) (E : ET) (τ : Tau) (H : Heap) (h : l09_has_3_M nx3 Q E τ H) : vc Pr l09_has_p9 τ (l09_has_q4 nx3 Q E) E H :=
  vI (i := 1) h (fun x1 h => vSl (i := 7) h (fun x7 l7 c7 h => vI (i := 8) h (fun x8 h => vI (i := 9) h (fun x9 h => (conv (by kernel_rfl) h)))))

@[reducible] noncomputable def l09_has_q5 (nx3 : Int → HP) (Q : QT) (E : ET) : Exit → Tau → Heap → Prop := (xthen (l09_has_3_M nx3 Q E) (l09_has_q4 nx3 Q E))

@[reducible] noncomputable def l09_has_p10 : Code := sA l09_has_p8

def l09_has_5 (nx3 : Int → HP) (Q : QT) (E : ET) (x1 : Int) (x7 : OA) (l7 : Nat) (c7 : Nat) (x8 : Int) (x9 : Int) (H : Heap) : Prop :=
 (0 ≤ (x9 : Int) ∧ (x9 : Int) < ((l7 : Nat) : Int)) ∧ ptr x7 fun q6 =>
 ldI .i64 (Addr.add q6 ((x9 : Int).toNat * 1)) H fun n7 =>
 sel ((n7 : Int) == x1)
 (Q (.bool true) H)
 (l09_has_3 nx3 Q E x1 x7 l7 c7 x8 x9 H)

def l09_has_5_M (nx3 : Int → HP) (Q : QT) (E : ET) (τ : Tau) (H : Heap) : Prop := mI .i64 (τ 1) fun x1 => mSl (τ 7) fun x7 l7 c7 => mI .i64 (τ 8) fun x8 => mI .i64 (τ 9) fun x9 => l09_has_5 nx3 Q E x1 x7 l7 c7 x8 x9 H

theorem l09_has_6ok (nx3 : Int → HP) (Q : QT) (E : ET) (τ : Tau) (H : Heap) (h : l09_has_5_M nx3 Q E τ H) : vc Pr l09_has_p10 τ (l09_has_q5 nx3 Q E) E H :=
  vI (i := 1) h (fun x1 h => vSl (i := 7) h (fun x7 l7 c7 h => vI (i := 8) h (fun x8 h => vI (i := 9) h (fun x9 h => (conv (by kernel_rfl) h)))))

theorem l09_has_7ok (nx3 : Int → HP) (Q : QT) (E : ET) (τ : Tau) (H : Heap) (h : l09_has_5_M nx3 Q E τ H) : vc Pr l09_has_p8 τ (l09_has_q4 nx3 Q E) E H :=
  (conv (B := vc Pr l09_has_p8 τ (l09_has_q4 nx3 Q E) E H) (by kernel_rfl) (vc_seq (K := (l09_has_3_M nx3 Q E)) (l09_has_6ok nx3 Q E τ H h) (l09_has_4ok nx3 Q E)))

@[reducible] noncomputable def l09_has_q6 (nx3 : Int → HP) (Q : QT) (E : ET) : Exit → Tau → Heap → Prop := (xthen (l09_has_5_M nx3 Q E) (l09_has_q4 nx3 Q E))

@[reducible] noncomputable def l09_has_p11 : Code := sA l09_has_p7

def l09_has_8 (nx3 : Int → HP) (Q : QT) (E : ET) (x1 : Int) (x7 : OA) (l7 : Nat) (c7 : Nat) (x8 : Int) (x9 : Int) (x10 : Bool) (H : Heap) : Prop :=
 sel x10
 (l09_has_5 nx3 Q E x1 x7 l7 c7 x8 x9 H)
 (l09_has_1 Q E  H)

def l09_has_8_M (nx3 : Int → HP) (Q : QT) (E : ET) (τ : Tau) (H : Heap) : Prop := mI .i64 (τ 1) fun x1 => mSl (τ 7) fun x7 l7 c7 => mI .i64 (τ 8) fun x8 => mI .i64 (τ 9) fun x9 => mB (τ 10) fun x10 => l09_has_8 nx3 Q E x1 x7 l7 c7 x8 x9 x10 H

theorem l09_has_9ok (nx3 : Int → HP) (Q : QT) (E : ET) (τ : Tau) (H : Heap) (h : l09_has_8_M nx3 Q E τ H) : vc Pr l09_has_p11 τ (l09_has_q6 nx3 Q E) E H :=
  vI (i := 1) h (fun x1 h => vSl (i := 7) h (fun x7 l7 c7 h => vI (i := 8) h (fun x8 h => vI (i := 9) h (fun x9 h => vB (i := 10) h (fun x10 h => (conv (by kernel_rfl) h))))))

theorem l09_has_10ok (nx3 : Int → HP) (Q : QT) (E : ET) (τ : Tau) (H : Heap) (h : l09_has_8_M nx3 Q E τ H) : vc Pr l09_has_p7 τ (l09_has_q4 nx3 Q E) E H :=
  (conv (B := vc Pr l09_has_p7 τ (l09_has_q4 nx3 Q E) E H) (by kernel_rfl) (vc_seq (K := (l09_has_5_M nx3 Q E)) (l09_has_9ok nx3 Q E τ H h) (l09_has_7ok nx3 Q E)))

@[reducible] noncomputable def l09_has_q7 (nx3 : Int → HP) (Q : QT) (E : ET) : Exit → Tau → Heap → Prop := (xthen (l09_has_8_M nx3 Q E) (l09_has_q4 nx3 Q E))

@[reducible] noncomputable def l09_has_p12 : Code := sA l09_has_p6

def l09_has_11 (nx3 : Int → HP) (Q : QT) (E : ET) (x1 : Int) (x7 : OA) (l7 : Nat) (c7 : Nat) (x8 : Int) (x9 : Int) (H : Heap) : Prop :=
 l09_has_8 nx3 Q E x1 x7 l7 c7 x8 x9 (decide ((x9 : Int) < x8)) H

def l09_has_11_M (nx3 : Int → HP) (Q : QT) (E : ET) (τ : Tau) (H : Heap) : Prop := mI .i64 (τ 1) fun x1 => mSl (τ 7) fun x7 l7 c7 => mI .i64 (τ 8) fun x8 => mI .i64 (τ 9) fun x9 => l09_has_11 nx3 Q E x1 x7 l7 c7 x8 x9 H

theorem l09_has_12ok (nx3 : Int → HP) (Q : QT) (E : ET) (τ : Tau) (H : Heap) (h : l09_has_11_M nx3 Q E τ H) : vc Pr l09_has_p12 τ (l09_has_q7 nx3 Q E) E H :=
  vI (i := 1) h (fun x1 h => vSl (i := 7) h (fun x7 l7 c7 h => vI (i := 8) h (fun x8 h => vI (i := 9) h (fun x9 h => (conv (by kernel_rfl) h)))))

theorem l09_has_13ok (nx3 : Int → HP) (Q : QT) (E : ET) (τ : Tau) (H : Heap) (h : l09_has_11_M nx3 Q E τ H) : vc Pr l09_has_p6 τ (l09_has_q4 nx3 Q E) E H :=
  (conv (B := vc Pr l09_has_p6 τ (l09_has_q4 nx3 Q E) E H) (by kernel_rfl) (vc_seq (K := (l09_has_8_M nx3 Q E)) (l09_has_12ok nx3 Q E τ H h) (l09_has_10ok nx3 Q E)))

def l09_has_14 (Q : QT) (E : ET) (x1 : Int) (x7 : OA) (l7 : Nat) (c7 : Nat) (x8 : Int) (x9 : Int) (H : Heap) : Prop :=
 ∃ (I : Int → HP) (μ : Int → Heap → Nat), I x9 H ∧ ∀ (x9 : Int) (H : Heap), I x9 H →
 l09_has_11 (fun x9' H1 => I x9' H1 ∧ μ x9' H1 < μ x9 H) Q E x1 x7 l7 c7 x8 x9 H

def l09_has_14_M (Q : QT) (E : ET) (τ : Tau) (H : Heap) : Prop := mI .i64 (τ 1) fun x1 => mSl (τ 7) fun x7 l7 c7 => mI .i64 (τ 8) fun x8 => mI .i64 (τ 9) fun x9 => l09_has_14 Q E x1 x7 l7 c7 x8 x9 H

theorem l09_has_15ok (Q : QT) (E : ET) (τ : Tau) (H : Heap) (h : l09_has_14_M Q E τ H) : vc Pr l09_has_p5 τ (l09_has_q3 Q E) E H :=
  vI (i := 1) h (fun x1 h => vSl (i := 7) h (fun x7 l7 c7 h => vI (i := 8) h (fun x8 h => vI (i := 9) h (fun x9 h => match h with | ⟨I, μ, h0, hr⟩ => (conv (B := vc Pr l09_has_p5 (Tau.upd (Tau.upd (Tau.upd (Tau.upd τ 1 (.int .i64 x1)) 7 (.slice x7 l7 c7)) 8 (.int .i64 x8)) 9 (.int .i64 x9)) (l09_has_q3 Q E) E H) (by kernel_rfl) (vc_loop (c := sI l09_has_p5) (τ := (Tau.upd (Tau.upd (Tau.upd (Tau.upd τ 1 (.int .i64 x1)) 7 (.slice x7 l7 c7)) 8 (.int .i64 x8)) 9 (.int .i64 x9))) [1, 7, 8] (fun τ H => mI .i64 (τ 9) fun x9' => I x9' H) (fun τ H => μ (gI (τ 9)) H) (by kernel_rfl) h0 (fun τ1 H1 hf hI => fix_elim (τ := τ1) (i := 1) (v := (.int .i64 x1)) (G := fun τ => vc Pr (sI l09_has_p5) τ (xthen (fun τ2 H2 => (mI .i64 (τ2 9) fun x9' => I x9' H2) ∧ μ (gI (τ2 9)) H2 < μ (gI (τ 9)) H1) (l09_has_q3 Q E)) E H1) (hf 1 (by simp)) (fix_elim (τ := (Tau.upd τ1 1 (.int .i64 x1))) (i := 7) (v := (.slice x7 l7 c7)) (G := fun τ => vc Pr (sI l09_has_p5) τ (xthen (fun τ2 H2 => (mI .i64 (τ2 9) fun x9' => I x9' H2) ∧ μ (gI (τ2 9)) H2 < μ (gI (τ 9)) H1) (l09_has_q3 Q E)) E H1) (hf 7 (by simp)) (fix_elim (τ := (Tau.upd (Tau.upd τ1 1 (.int .i64 x1)) 7 (.slice x7 l7 c7))) (i := 8) (v := (.int .i64 x8)) (G := fun τ => vc Pr (sI l09_has_p5) τ (xthen (fun τ2 H2 => (mI .i64 (τ2 9) fun x9' => I x9' H2) ∧ μ (gI (τ2 9)) H2 < μ (gI (τ 9)) H1) (l09_has_q3 Q E)) E H1) (hf 8 (by simp)) (mI_elim (i := 9) (G := fun τ => vc Pr (sI l09_has_p5) τ (xthen (fun τ2 H2 => (mI .i64 (τ2 9) fun x9' => I x9' H2) ∧ μ (gI (τ2 9)) H2 < μ (gI (τ 9)) H1) (l09_has_q3 Q E)) E H1) hI (fun x9r h => (conv (B := vc Pr (sI l09_has_p5) (Tau.upd (Tau.upd (Tau.upd (Tau.upd τ1 1 (.int .i64 x1)) 7 (.slice x7 l7 c7)) 8 (.int .i64 x8)) 9 (.int .i64 x9r)) (xthen (fun τ2 H2 => (mI .i64 (τ2 9) fun x9' => I x9' H2) ∧ μ (gI (τ2 9)) H2 < μ (gI ((Tau.upd (Tau.upd (Tau.upd (Tau.upd τ1 1 (.int .i64 x1)) 7 (.slice x7 l7 c7)) 8 (.int .i64 x8)) 9 (.int .i64 x9r)) 9)) H1) (l09_has_q3 Q E)) E H1) (by kernel_rfl) (vc_xthen (l09_has_13ok (fun x9' H2 => I x9' H2 ∧ μ x9' H2 < μ x9r H1) Q E (Tau.upd (Tau.upd (Tau.upd (Tau.upd τ1 1 (.int .i64 x1)) 7 (.slice x7 l7 c7)) 8 (.int .i64 x8)) 9 (.int .i64 x9r)) H1 (conv (B := l09_has_11_M (fun x9' H2 => I x9' H2 ∧ μ x9' H2 < μ x9r H1) Q E (Tau.upd (Tau.upd (Tau.upd (Tau.upd τ1 1 (.int .i64 x1)) 7 (.slice x7 l7 c7)) 8 (.int .i64 x8)) 9 (.int .i64 x9r)) H1) (by kernel_rfl) (hr x9r H1 h))) (fun τ2 H2 hk => mI_elim (i := 9) (G := fun τ => (mI .i64 (τ 9) fun x9' => I x9' H2) ∧ μ (gI (τ 9)) H2 < μ x9r H1) hk (fun x9' h => h)))))))))))))))

theorem l09_has_16ok (Q : QT) (E : ET) (τ : Tau) (H : Heap) (h : l09_has_14_M Q E τ H) : vc Pr l09_has_p4 τ (l09_has_q2 Q E) E H :=
  (conv (B := vc Pr l09_has_p4 τ (l09_has_q2 Q E) E H) (by kernel_rfl) (l09_has_15ok Q E τ H h))

@[reducible] noncomputable def l09_has_q8 (Q : QT) (E : ET) : Exit → Tau → Heap → Prop := (xthen (l09_has_14_M Q E) (l09_has_q2 Q E))

@[reducible] noncomputable def l09_has_p13 : Code := sA l09_has_p3

def l09_has_17 (Q : QT) (E : ET) (x0 : OA) (l0 : Nat) (c0 : Nat) (x1 : Int) (H : Heap) : Prop :=
 l09_has_14 Q E x1 x0 l0 c0 ((l0 : Nat) : Int) 0 H

def l09_has_17_M (Q : QT) (E : ET) (τ : Tau) (H : Heap) : Prop := mSl (τ 0) fun x0 l0 c0 => mI .i64 (τ 1) fun x1 => l09_has_17 Q E x0 l0 c0 x1 H

theorem l09_has_18ok (Q : QT) (E : ET) (τ : Tau) (H : Heap) (h : l09_has_17_M Q E τ H) : vc Pr l09_has_p13 τ (l09_has_q8 Q E) E H :=
  vSl (i := 0) h (fun x0 l0 c0 h => vI (i := 1) h (fun x1 h => (conv (by kernel_rfl) h)))

theorem l09_has_19ok (Q : QT) (E : ET) (τ : Tau) (H : Heap) (h : l09_has_17_M Q E τ H) : vc Pr l09_has_p3 τ (l09_has_q2 Q E) E H :=
  (conv (B := vc Pr l09_has_p3 τ (l09_has_q2 Q E) E H) (by kernel_rfl) (vc_seq (K := (l09_has_14_M Q E)) (l09_has_18ok Q E τ H h) (l09_has_16ok Q E)))

theorem l09_has_20ok (Q : QT) (E : ET) (τ : Tau) (H : Heap) (h : l09_has_17_M Q E τ H) : vc Pr l09_has_p1 τ (l09_has_q1 Q E) E H :=
  (conv (B := vc Pr l09_has_p1 τ (l09_has_q1 Q E) E H) (by kernel_rfl) (vc_seq (K := (l09_has_1_M Q E)) (l09_has_19ok Q E τ H h) (l09_has_2ok Q E)))

@[reducible] noncomputable def l09_has_q9 (Q : QT) (E : ET) : Exit → Tau → Heap → Prop := (xthen (l09_has_17_M Q E) (l09_has_q1 Q E))

@[reducible] noncomputable def l09_has_p14 : Code := sA l09_has_p0

def l09_has (Q : QT) (E : ET) (a0 : OA) (a0l : Nat) (a0c : Nat) (a1 : Int) (H : Heap) : Prop :=
 l09_has_17 Q E a0 a0l a0c a1 H

theorem l09_has_fn (a0 : OA) (a0l : Nat) (a0c : Nat) (a1 : Int) (Q : QT) (E : ET) (H : Heap) (h : l09_has Q E a0 a0l a0c a1 H)   : Does Pr 25 #[(.slice a0 a0l a0c), (.int .i64 a1)] H Q E :=
  Fn_of_vc (fn := Try.f25) (c := l09_has_p0) (args := [(.slice a0 a0l a0c), (.int .i64 a1)]) mixed (by kernel_rfl) (by kernel_rfl) (by kernel_rfl) (by kernel_rfl) (by kernel_rfl) ((conv (B := vc Pr l09_has_p0 (argT [(.slice a0 a0l a0c), (.int .i64 a1)]) (l09_has_q1 Q E) E H) (by kernel_rfl) (vc_seq (K := (l09_has_17_M Q E)) (conv (B := vc Pr l09_has_p14 (argT [(.slice a0 a0l a0c), (.int .i64 a1)]) (l09_has_q9 Q E) E H) (by kernel_rfl) h) (l09_has_20ok Q E))))

/-! jobmux/jobmuxlaw09.same -/
@[reducible] noncomputable def l09_same_q1 (Q : QT) (E : ET) : Exit → Tau → Heap → Prop := (retQ Pr (Try.f26).results.toList Q)

@[reducible] noncomputable def l09_same_p0 : Code := bodyOf Try.f26

@[reducible] noncomputable def l09_same_p1 : Code := sB l09_same_p0

@[reducible] noncomputable def l09_same_p2 : Code := sB l09_same_p1

@[reducible] noncomputable def l09_same_p3 : Code := sB l09_same_p2

def l09_same_1 (Q : QT) (E : ET)  (H : Heap) : Prop :=
 Q (.bool true) H

def l09_same_1_M (Q : QT) (E : ET) (τ : Tau) (H : Heap) : Prop := l09_same_1 Q E  H

theorem l09_same_2ok (Q : QT) (E : ET) (τ : Tau) (H : Heap) (h : l09_same_1_M Q E τ H) : vc Pr l09_same_p3 τ (l09_same_q1 Q E) E H :=
  (conv (B := vc Pr l09_same_p3 τ (l09_same_q1 Q E) E H) (by kernel_rfl) h)

@[reducible] noncomputable def l09_same_q2 (Q : QT) (E : ET) : Exit → Tau → Heap → Prop := (xthen (l09_same_1_M Q E) (l09_same_q1 Q E))

@[reducible] noncomputable def l09_same_p4 : Code := sA l09_same_p2

@[reducible] noncomputable def l09_same_p5 : Code := sB l09_same_p4

@[reducible] noncomputable def l09_same_q3 (Q : QT) (E : ET) : Exit → Tau → Heap → Prop := (xblock 0 (l09_same_q2 Q E))

@[reducible] noncomputable def l09_same_p6 : Code := sI l09_same_p5

@[reducible] noncomputable def l09_same_q4 (nx5 : Int → HP) (Q : QT) (E : ET) : Exit → Tau → Heap → Prop := (xthen (fun τ H => mI .i64 (τ 13) fun x13' => nx5 x13' H) (l09_same_q3 Q E))

@[reducible] noncomputable def l09_same_p7 : Code := sI l09_same_p6

@[reducible] noncomputable def l09_same_p8 : Code := sB l09_same_p7

@[reducible] noncomputable def l09_same_p9 : Code := sB l09_same_p8

@[reducible] noncomputable def l09_same_p10 : Code := sB l09_same_p9

def l09_same_3 (nx5 : Int → HP) (Q : QT) (E : ET) (x0 : OA) (l0 : Nat) (c0 : Nat) (x1 : OA) (l1 : Nat) (c1 : Nat) (x12 : Int) (x13 : Int) (H : Heap) : Prop :=
 nx5 (IntKind.wrap .i64 (x13 + 1)) H

def l09_same_3_M (nx5 : Int → HP) (Q : QT) (E : ET) (τ : Tau) (H : Heap) : Prop := mSl (τ 0) fun x0 l0 c0 => mSl (τ 1) fun x1 l1 c1 => mI .i64 (τ 12) fun x12 => mI .i64 (τ 13) fun x13 => l09_same_3 nx5 Q E x0 l0 c0 x1 l1 c1 x12 x13 H

theorem l09_same_4ok (nx5 : Int → HP) (Q : QT) (E : ET) (τ : Tau) (H : Heap) (h : l09_same_3_M nx5 Q E τ H) : vc Pr l09_same_p10 τ (l09_same_q4 nx5 Q E) E H :=
  vSl (i := 0) h (fun x0 l0 c0 h => vSl (i := 1) h (fun x1 l1 c1 h => vI (i := 12) h (fun x12 h => vI (i := 13) h (fun x13 h => (conv (by kernel_rfl) h)))))

@[reducible] noncomputable def l09_same_q5 (nx5 : Int → HP) (Q : QT) (E : ET) : Exit → Tau → Heap → Prop := (xthen (l09_same_3_M nx5 Q E) (l09_same_q4 nx5 Q E))

@[reducible] noncomputable def l09_same_p11 : Code := sA l09_same_p9

def l09_same_5 (nx5 : Int → HP) (Q : QT) (E : ET) (x0 : OA) (l0 : Nat) (c0 : Nat) (x1 : OA) (l1 : Nat) (c1 : Nat) (x12 : Int) (x13 : Int) (H : Heap) : Prop :=
 (0 ≤ (x13 : Int) ∧ (x13 : Int) < ((l0 : Nat) : Int)) ∧ ptr x0 fun q10 =>
 ldI .i64 (Addr.add q10 ((x13 : Int).toNat * 1)) H fun n11 =>
 (0 ≤ (x13 : Int) ∧ (x13 : Int) < ((l1 : Nat) : Int)) ∧ ptr x1 fun q12 =>
 ldI .i64 (Addr.add q12 ((x13 : Int).toNat * 1)) H fun n13 =>
 sel ((n11 : Int) != n13)
 (Q (.bool false) H)
 (l09_same_3 nx5 Q E x0 l0 c0 x1 l1 c1 x12 x13 H)

def l09_same_5_M (nx5 : Int → HP) (Q : QT) (E : ET) (τ : Tau) (H : Heap) : Prop := mSl (τ 0) fun x0 l0 c0 => mSl (τ 1) fun x1 l1 c1 => mI .i64 (τ 12) fun x12 => mI .i64 (τ 13) fun x13 => l09_same_5 nx5 Q E x0 l0 c0 x1 l1 c1 x12 x13 H

theorem l09_same_6ok (nx5 : Int → HP) (Q : QT) (E : ET) (τ : Tau) (H : Heap) (h : l09_same_5_M nx5 Q E τ H) : vc Pr l09_same_p11 τ (l09_same_q5 nx5 Q E) E H :=
  vSl (i := 0) h (fun x0 l0 c0 h => vSl (i := 1) h (fun x1 l1 c1 h => vI (i := 12) h (fun x12 h => vI (i := 13) h (fun x13 h => (conv (by kernel_rfl) h)))))

theorem l09_same_7ok (nx5 : Int → HP) (Q : QT) (E : ET) (τ : Tau) (H : Heap) (h : l09_same_5_M nx5 Q E τ H) : vc Pr l09_same_p9 τ (l09_same_q4 nx5 Q E) E H :=
  (conv (B := vc Pr l09_same_p9 τ (l09_same_q4 nx5 Q E) E H) (by kernel_rfl) (vc_seq (K := (l09_same_3_M nx5 Q E)) (l09_same_6ok nx5 Q E τ H h) (l09_same_4ok nx5 Q E)))

@[reducible] noncomputable def l09_same_q6 (nx5 : Int → HP) (Q : QT) (E : ET) : Exit → Tau → Heap → Prop := (xthen (l09_same_5_M nx5 Q E) (l09_same_q4 nx5 Q E))

@[reducible] noncomputable def l09_same_p12 : Code := sA l09_same_p8

def l09_same_8 (nx5 : Int → HP) (Q : QT) (E : ET) (x0 : OA) (l0 : Nat) (c0 : Nat) (x1 : OA) (l1 : Nat) (c1 : Nat) (x12 : Int) (x13 : Int) (x14 : Bool) (H : Heap) : Prop :=
 sel x14
 (l09_same_5 nx5 Q E x0 l0 c0 x1 l1 c1 x12 x13 H)
 (l09_same_1 Q E  H)

def l09_same_8_M (nx5 : Int → HP) (Q : QT) (E : ET) (τ : Tau) (H : Heap) : Prop := mSl (τ 0) fun x0 l0 c0 => mSl (τ 1) fun x1 l1 c1 => mI .i64 (τ 12) fun x12 => mI .i64 (τ 13) fun x13 => mB (τ 14) fun x14 => l09_same_8 nx5 Q E x0 l0 c0 x1 l1 c1 x12 x13 x14 H

theorem l09_same_9ok (nx5 : Int → HP) (Q : QT) (E : ET) (τ : Tau) (H : Heap) (h : l09_same_8_M nx5 Q E τ H) : vc Pr l09_same_p12 τ (l09_same_q6 nx5 Q E) E H :=
  vSl (i := 0) h (fun x0 l0 c0 h => vSl (i := 1) h (fun x1 l1 c1 h => vI (i := 12) h (fun x12 h => vI (i := 13) h (fun x13 h => vB (i := 14) h (fun x14 h => (conv (by kernel_rfl) h))))))

theorem l09_same_10ok (nx5 : Int → HP) (Q : QT) (E : ET) (τ : Tau) (H : Heap) (h : l09_same_8_M nx5 Q E τ H) : vc Pr l09_same_p8 τ (l09_same_q4 nx5 Q E) E H :=
  (conv (B := vc Pr l09_same_p8 τ (l09_same_q4 nx5 Q E) E H) (by kernel_rfl) (vc_seq (K := (l09_same_5_M nx5 Q E)) (l09_same_9ok nx5 Q E τ H h) (l09_same_7ok nx5 Q E)))

@[reducible] noncomputable def l09_same_q7 (nx5 : Int → HP) (Q : QT) (E : ET) : Exit → Tau → Heap → Prop := (xthen (l09_same_8_M nx5 Q E) (l09_same_q4 nx5 Q E))

@[reducible] noncomputable def l09_same_p13 : Code := sA l09_same_p7

def l09_same_11 (nx5 : Int → HP) (Q : QT) (E : ET) (x0 : OA) (l0 : Nat) (c0 : Nat) (x1 : OA) (l1 : Nat) (c1 : Nat) (x12 : Int) (x13 : Int) (H : Heap) : Prop :=
 l09_same_8 nx5 Q E x0 l0 c0 x1 l1 c1 x12 x13 (decide ((x13 : Int) < x12)) H

def l09_same_11_M (nx5 : Int → HP) (Q : QT) (E : ET) (τ : Tau) (H : Heap) : Prop := mSl (τ 0) fun x0 l0 c0 => mSl (τ 1) fun x1 l1 c1 => mI .i64 (τ 12) fun x12 => mI .i64 (τ 13) fun x13 => l09_same_11 nx5 Q E x0 l0 c0 x1 l1 c1 x12 x13 H

theorem l09_same_12ok (nx5 : Int → HP) (Q : QT) (E : ET) (τ : Tau) (H : Heap) (h : l09_same_11_M nx5 Q E τ H) : vc Pr l09_same_p13 τ (l09_same_q7 nx5 Q E) E H :=
  vSl (i := 0) h (fun x0 l0 c0 h => vSl (i := 1) h (fun x1 l1 c1 h => vI (i := 12) h (fun x12 h => vI (i := 13) h (fun x13 h => (conv (by kernel_rfl) h)))))

theorem l09_same_13ok (nx5 : Int → HP) (Q : QT) (E : ET) (τ : Tau) (H : Heap) (h : l09_same_11_M nx5 Q E τ H) : vc Pr l09_same_p7 τ (l09_same_q4 nx5 Q E) E H :=
  (conv (B := vc Pr l09_same_p7 τ (l09_same_q4 nx5 Q E) E H) (by kernel_rfl) (vc_seq (K := (l09_same_8_M nx5 Q E)) (l09_same_12ok nx5 Q E τ H h) (l09_same_10ok nx5 Q E)))

def l09_same_14 (Q : QT) (E : ET) (x0 : OA) (l0 : Nat) (c0 : Nat) (x1 : OA) (l1 : Nat) (c1 : Nat) (x12 : Int) (x13 : Int) (H : Heap) : Prop :=
 ∃ (I : Int → HP) (μ : Int → Heap → Nat), I x13 H ∧ ∀ (x13 : Int) (H : Heap), I x13 H →
 l09_same_11 (fun x13' H1 => I x13' H1 ∧ μ x13' H1 < μ x13 H) Q E x0 l0 c0 x1 l1 c1 x12 x13 H

def l09_same_14_M (Q : QT) (E : ET) (τ : Tau) (H : Heap) : Prop := mSl (τ 0) fun x0 l0 c0 => mSl (τ 1) fun x1 l1 c1 => mI .i64 (τ 12) fun x12 => mI .i64 (τ 13) fun x13 => l09_same_14 Q E x0 l0 c0 x1 l1 c1 x12 x13 H

theorem l09_same_15ok (Q : QT) (E : ET) (τ : Tau) (H : Heap) (h : l09_same_14_M Q E τ H) : vc Pr l09_same_p6 τ (l09_same_q3 Q E) E H :=
  vSl (i := 0) h (fun x0 l0 c0 h => vSl (i := 1) h (fun x1 l1 c1 h => vI (i := 12) h (fun x12 h => vI (i := 13) h (fun x13 h => match h with | ⟨I, μ, h0, hr⟩ => (conv (B := vc Pr l09_same_p6 (Tau.upd (Tau.upd (Tau.upd (Tau.upd τ 0 (.slice x0 l0 c0)) 1 (.slice x1 l1 c1)) 12 (.int .i64 x12)) 13 (.int .i64 x13)) (l09_same_q3 Q E) E H) (by kernel_rfl) (vc_loop (c := sI l09_same_p6) (τ := (Tau.upd (Tau.upd (Tau.upd (Tau.upd τ 0 (.slice x0 l0 c0)) 1 (.slice x1 l1 c1)) 12 (.int .i64 x12)) 13 (.int .i64 x13))) [0, 1, 12] (fun τ H => mI .i64 (τ 13) fun x13' => I x13' H) (fun τ H => μ (gI (τ 13)) H) (by kernel_rfl) h0 (fun τ1 H1 hf hI => fix_elim (τ := τ1) (i := 0) (v := (.slice x0 l0 c0)) (G := fun τ => vc Pr (sI l09_same_p6) τ (xthen (fun τ2 H2 => (mI .i64 (τ2 13) fun x13' => I x13' H2) ∧ μ (gI (τ2 13)) H2 < μ (gI (τ 13)) H1) (l09_same_q3 Q E)) E H1) (hf 0 (by simp)) (fix_elim (τ := (Tau.upd τ1 0 (.slice x0 l0 c0))) (i := 1) (v := (.slice x1 l1 c1)) (G := fun τ => vc Pr (sI l09_same_p6) τ (xthen (fun τ2 H2 => (mI .i64 (τ2 13) fun x13' => I x13' H2) ∧ μ (gI (τ2 13)) H2 < μ (gI (τ 13)) H1) (l09_same_q3 Q E)) E H1) (hf 1 (by simp)) (fix_elim (τ := (Tau.upd (Tau.upd τ1 0 (.slice x0 l0 c0)) 1 (.slice x1 l1 c1))) (i := 12) (v := (.int .i64 x12)) (G := fun τ => vc Pr (sI l09_same_p6) τ (xthen (fun τ2 H2 => (mI .i64 (τ2 13) fun x13' => I x13' H2) ∧ μ (gI (τ2 13)) H2 < μ (gI (τ 13)) H1) (l09_same_q3 Q E)) E H1) (hf 12 (by simp)) (mI_elim (i := 13) (G := fun τ => vc Pr (sI l09_same_p6) τ (xthen (fun τ2 H2 => (mI .i64 (τ2 13) fun x13' => I x13' H2) ∧ μ (gI (τ2 13)) H2 < μ (gI (τ 13)) H1) (l09_same_q3 Q E)) E H1) hI (fun x13r h => (conv (B := vc Pr (sI l09_same_p6) (Tau.upd (Tau.upd (Tau.upd (Tau.upd τ1 0 (.slice x0 l0 c0)) 1 (.slice x1 l1 c1)) 12 (.int .i64 x12)) 13 (.int .i64 x13r)) (xthen (fun τ2 H2 => (mI .i64 (τ2 13) fun x13' => I x13' H2) ∧ μ (gI (τ2 13)) H2 < μ (gI ((Tau.upd (Tau.upd (Tau.upd (Tau.upd τ1 0 (.slice x0 l0 c0)) 1 (.slice x1 l1 c1)) 12 (.int .i64 x12)) 13 (.int .i64 x13r)) 13)) H1) (l09_same_q3 Q E)) E H1) (by kernel_rfl) (vc_xthen (l09_same_13ok (fun x13' H2 => I x13' H2 ∧ μ x13' H2 < μ x13r H1) Q E (Tau.upd (Tau.upd (Tau.upd (Tau.upd τ1 0 (.slice x0 l0 c0)) 1 (.slice x1 l1 c1)) 12 (.int .i64 x12)) 13 (.int .i64 x13r)) H1 (conv (B := l09_same_11_M (fun x13' H2 => I x13' H2 ∧ μ x13' H2 < μ x13r H1) Q E (Tau.upd (Tau.upd (Tau.upd (Tau.upd τ1 0 (.slice x0 l0 c0)) 1 (.slice x1 l1 c1)) 12 (.int .i64 x12)) 13 (.int .i64 x13r)) H1) (by kernel_rfl) (hr x13r H1 h))) (fun τ2 H2 hk => mI_elim (i := 13) (G := fun τ => (mI .i64 (τ 13) fun x13' => I x13' H2) ∧ μ (gI (τ 13)) H2 < μ x13r H1) hk (fun x13' h => h)))))))))))))))

theorem l09_same_16ok (Q : QT) (E : ET) (τ : Tau) (H : Heap) (h : l09_same_14_M Q E τ H) : vc Pr l09_same_p5 τ (l09_same_q2 Q E) E H :=
  (conv (B := vc Pr l09_same_p5 τ (l09_same_q2 Q E) E H) (by kernel_rfl) (l09_same_15ok Q E τ H h))

@[reducible] noncomputable def l09_same_q8 (Q : QT) (E : ET) : Exit → Tau → Heap → Prop := (xthen (l09_same_14_M Q E) (l09_same_q2 Q E))

@[reducible] noncomputable def l09_same_p14 : Code := sA l09_same_p4

def l09_same_17 (Q : QT) (E : ET) (x0 : OA) (l0 : Nat) (c0 : Nat) (x1 : OA) (l1 : Nat) (c1 : Nat) (H : Heap) : Prop :=
 l09_same_14 Q E x0 l0 c0 x1 l1 c1 ((l0 : Nat) : Int) 0 H

def l09_same_17_M (Q : QT) (E : ET) (τ : Tau) (H : Heap) : Prop := mSl (τ 0) fun x0 l0 c0 => mSl (τ 1) fun x1 l1 c1 => l09_same_17 Q E x0 l0 c0 x1 l1 c1 H

theorem l09_same_18ok (Q : QT) (E : ET) (τ : Tau) (H : Heap) (h : l09_same_17_M Q E τ H) : vc Pr l09_same_p14 τ (l09_same_q8 Q E) E H :=
  vSl (i := 0) h (fun x0 l0 c0 h => vSl (i := 1) h (fun x1 l1 c1 h => (conv (by kernel_rfl) h)))

theorem l09_same_19ok (Q : QT) (E : ET) (τ : Tau) (H : Heap) (h : l09_same_17_M Q E τ H) : vc Pr l09_same_p4 τ (l09_same_q2 Q E) E H :=
  (conv (B := vc Pr l09_same_p4 τ (l09_same_q2 Q E) E H) (by kernel_rfl) (vc_seq (K := (l09_same_14_M Q E)) (l09_same_18ok Q E τ H h) (l09_same_16ok Q E)))

theorem l09_same_20ok (Q : QT) (E : ET) (τ : Tau) (H : Heap) (h : l09_same_17_M Q E τ H) : vc Pr l09_same_p2 τ (l09_same_q1 Q E) E H :=
  (conv (B := vc Pr l09_same_p2 τ (l09_same_q1 Q E) E H) (by kernel_rfl) (vc_seq (K := (l09_same_1_M Q E)) (l09_same_19ok Q E τ H h) (l09_same_2ok Q E)))

@[reducible] noncomputable def l09_same_q9 (Q : QT) (E : ET) : Exit → Tau → Heap → Prop := (xthen (l09_same_17_M Q E) (l09_same_q1 Q E))

@[reducible] noncomputable def l09_same_p15 : Code := sA l09_same_p1

def l09_same_21 (Q : QT) (E : ET) (x0 : OA) (l0 : Nat) (c0 : Nat) (x1 : OA) (l1 : Nat) (c1 : Nat) (H : Heap) : Prop :=
 sel ((((l0 : Nat) : Int) : Int) != ((l1 : Nat) : Int))
 (Q (.bool false) H)
 (l09_same_17 Q E x0 l0 c0 x1 l1 c1 H)

def l09_same_21_M (Q : QT) (E : ET) (τ : Tau) (H : Heap) : Prop := mSl (τ 0) fun x0 l0 c0 => mSl (τ 1) fun x1 l1 c1 => l09_same_21 Q E x0 l0 c0 x1 l1 c1 H

theorem l09_same_22ok (Q : QT) (E : ET) (τ : Tau) (H : Heap) (h : l09_same_21_M Q E τ H) : vc Pr l09_same_p15 τ (l09_same_q9 Q E) E H :=
  vSl (i := 0) h (fun x0 l0 c0 h => vSl (i := 1) h (fun x1 l1 c1 h => (conv (by kernel_rfl) h)))

theorem l09_same_23ok (Q : QT) (E : ET) (τ : Tau) (H : Heap) (h : l09_same_21_M Q E τ H) : vc Pr l09_same_p1 τ (l09_same_q1 Q E) E H :=
  (conv (B := vc Pr l09_same_p1 τ (l09_same_q1 Q E) E H) (by kernel_rfl) (vc_seq (K := (l09_same_17_M Q E)) (l09_same_22ok Q E τ H h) (l09_same_20ok Q E)))

@[reducible] noncomputable def l09_same_q10 (Q : QT) (E : ET) : Exit → Tau → Heap → Prop := (xthen (l09_same_21_M Q E) (l09_same_q1 Q E))

@[reducible] noncomputable def l09_same_p16 : Code := sA l09_same_p0

def l09_same (Q : QT) (E : ET) (a0 : OA) (a0l : Nat) (a0c : Nat) (a1 : OA) (a1l : Nat) (a1c : Nat) (H : Heap) : Prop :=
 l09_same_21 Q E a0 a0l a0c a1 a1l a1c H

theorem l09_same_fn (a0 : OA) (a0l : Nat) (a0c : Nat) (a1 : OA) (a1l : Nat) (a1c : Nat) (Q : QT) (E : ET) (H : Heap) (h : l09_same Q E a0 a0l a0c a1 a1l a1c H)   : Does Pr 26 #[(.slice a0 a0l a0c), (.slice a1 a1l a1c)] H Q E :=
  Fn_of_vc (fn := Try.f26) (c := l09_same_p0) (args := [(.slice a0 a0l a0c), (.slice a1 a1l a1c)]) mixed (by kernel_rfl) (by kernel_rfl) (by kernel_rfl) (by kernel_rfl) (by kernel_rfl) ((conv (B := vc Pr l09_same_p0 (argT [(.slice a0 a0l a0c), (.slice a1 a1l a1c)]) (l09_same_q1 Q E) E H) (by kernel_rfl) (vc_seq (K := (l09_same_21_M Q E)) (conv (B := vc Pr l09_same_p16 (argT [(.slice a0 a0l a0c), (.slice a1 a1l a1c)]) (l09_same_q10 Q E) E H) (by kernel_rfl) h) (l09_same_23ok Q E))))

end Go.Proofs.Ytaffcoiomggpfaa
