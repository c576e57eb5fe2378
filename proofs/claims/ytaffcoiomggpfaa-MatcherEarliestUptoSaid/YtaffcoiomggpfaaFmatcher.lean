import Derived.Test.YtaffcoiomggpfaaVPr
/- Printed by gen.py: the Go functions of package matcher over a heap view, and that the model does so. -/
namespace Go.Proofs.Ytaffcoiomggpfaa
open Go.V
set_option linter.unusedVariables false
set_option maxRecDepth 100000
/-! jobmux/matcher.Play -/
@[reducible] noncomputable def uj1_q1 (Q : QT) (E : ET) : Exit → Tau → Heap → Prop := (retQ Pr (Try.f45).results.toList Q)

@[reducible] noncomputable def uj1_p0 : Code := bodyOf Try.f45

@[reducible] noncomputable def uj1_p1 : Code := sB uj1_p0

@[reducible] noncomputable def uj1_p2 : Code := sB uj1_p1

@[reducible] noncomputable def uj1_p3 : Code := sB uj1_p2

@[reducible] noncomputable def uj1_p4 : Code := sB uj1_p3

@[reducible] noncomputable def uj1_p5 : Code := sB uj1_p4

@[reducible] noncomputable def uj1_p6 : Code := sB uj1_p5

def uj1_1 (Q : QT) (E : ET) (x1 : OA) (l1 : Nat) (c1 : Nat) (H : Heap) : Prop :=
 Q (.tuple #[(.int .i64 ((l1 : Nat) : Int)), (.int .i64 (-1)), (.int .i64 0)]) H

def uj1_1_M (Q : QT) (E : ET) (τ : Tau) (H : Heap) : Prop := mSl (τ 1) fun x1 l1 c1 => uj1_1 Q E x1 l1 c1 H

theorem uj1_2ok (Q : QT) (E : ET) (τ : Tau) (H : Heap) (h : uj1_1_M Q E τ H) : vc Pr uj1_p6 τ (uj1_q1 Q E) E H :=
  vSl (i := 1) h (fun x1 l1 c1 h => (conv (by kernel_rfl) h))

@[reducible] noncomputable def uj1_q2 (Q : QT) (E : ET) : Exit → Tau → Heap → Prop := (xthen (uj1_1_M Q E) (uj1_q1 Q E))

@[reducible] noncomputable def uj1_p7 : Code := sA uj1_p5

@[reducible] noncomputable def uj1_p8 : Code := sB uj1_p7

@[reducible] noncomputable def uj1_q3 (Q : QT) (E : ET) : Exit → Tau → Heap → Prop := (xblock 0 (uj1_q2 Q E))

@[reducible] noncomputable def uj1_p9 : Code := sI uj1_p8

@[reducible] noncomputable def uj1_q4 (nx29 : Int → HP) (Q : QT) (E : ET) : Exit → Tau → Heap → Prop := (xthen (fun τ H => mI .i64 (τ 26) fun x26' => nx29 x26' H) (uj1_q3 Q E))

@[reducible] noncomputable def uj1_p10 : Code := sI uj1_p9

@[reducible] noncomputable def uj1_p11 : Code := sB uj1_p10

@[reducible] noncomputable def uj1_p12 : Code := sB uj1_p11

@[reducible] noncomputable def uj1_p13 : Code := sB uj1_p12

def uj1_3 (nx29 : Int → HP) (Q : QT) (E : ET) (x1 : OA) (l1 : Nat) (c1 : Nat) (x9 : OA) (x24 : OA) (l24 : Nat) (c24 : Nat) (x25 : Int) (x26 : Int) (H : Heap) : Prop :=
 nx29 (IntKind.wrap .i64 (x26 + 1)) H

def uj1_3_M (nx29 : Int → HP) (Q : QT) (E : ET) (τ : Tau) (H : Heap) : Prop := mSl (τ 1) fun x1 l1 c1 => mP (τ 9) fun x9 => mSl (τ 24) fun x24 l24 c24 => mI .i64 (τ 25) fun x25 => mI .i64 (τ 26) fun x26 => uj1_3 nx29 Q E x1 l1 c1 x9 x24 l24 c24 x25 x26 H

theorem uj1_4ok (nx29 : Int → HP) (Q : QT) (E : ET) (τ : Tau) (H : Heap) (h : uj1_3_M nx29 Q E τ H) : vc Pr uj1_p13 τ (uj1_q4 nx29 Q E) E H :=
  vSl (i := 1) h (fun x1 l1 c1 h => vP (i := 9) h (fun x9 h => vSl (i := 24) h (fun x24 l24 c24 h => vI (i := 25) h (fun x25 h => vI (i := 26) h (fun x26 h => (conv (by kernel_rfl) h))))))

@[reducible] noncomputable def uj1_q5 (nx29 : Int → HP) (Q : QT) (E : ET) : Exit → Tau → Heap → Prop := (xthen (uj1_3_M nx29 Q E) (uj1_q4 nx29 Q E))

@[reducible] noncomputable def uj1_p14 : Code := sA uj1_p12

def uj1_5 (nx29 : Int → HP) (Q : QT) (E : ET) (x1 : OA) (l1 : Nat) (c1 : Nat) (x9 : OA) (x24 : OA) (l24 : Nat) (c24 : Nat) (x25 : Int) (x26 : Int) (H : Heap) : Prop :=
 (0 ≤ (x26 : Int) ∧ (x26 : Int) < ((l24 : Nat) : Int)) ∧ ptr x24 fun q40 =>
 ldSl (Addr.add q40 ((x26 : Int).toNat * 1)) H fun p41 l42 c43 =>
 Does Pr 52 #[(.pointer x9), (.slice p41 l42 c43)] H (fun v44 H45 =>
 ∃ b46 : Bool, v44 = (.bool b46) ∧ sel b46
 (Does Pr 53 #[(.pointer x9)] H45 (fun v47 H48 =>
 ∃ n49 : Int, v47 = (.int .i64 n49) ∧ Q (.tuple #[(.int .i64 x26), (.int .i64 n49), (.int .i64 0)]) H48) E)
 (uj1_3 nx29 Q E x1 l1 c1 x9 x24 l24 c24 x25 x26 H45)) E

def uj1_5_M (nx29 : Int → HP) (Q : QT) (E : ET) (τ : Tau) (H : Heap) : Prop := mSl (τ 1) fun x1 l1 c1 => mP (τ 9) fun x9 => mSl (τ 24) fun x24 l24 c24 => mI .i64 (τ 25) fun x25 => mI .i64 (τ 26) fun x26 => uj1_5 nx29 Q E x1 l1 c1 x9 x24 l24 c24 x25 x26 H

theorem uj1_6ok (nx29 : Int → HP) (Q : QT) (E : ET) (τ : Tau) (H : Heap) (h : uj1_5_M nx29 Q E τ H) : vc Pr uj1_p14 τ (uj1_q5 nx29 Q E) E H :=
  vSl (i := 1) h (fun x1 l1 c1 h => vP (i := 9) h (fun x9 h => vSl (i := 24) h (fun x24 l24 c24 h => vI (i := 25) h (fun x25 h => vI (i := 26) h (fun x26 h => (conv (by kernel_rfl) h))))))

theorem uj1_7ok (nx29 : Int → HP) (Q : QT) (E : ET) (τ : Tau) (H : Heap) (h : uj1_5_M nx29 Q E τ H) : vc Pr uj1_p12 τ (uj1_q4 nx29 Q E) E H :=
  (conv (B := vc Pr uj1_p12 τ (uj1_q4 nx29 Q E) E H) (by kernel_rfl) (vc_seq (K := (uj1_3_M nx29 Q E)) (uj1_6ok nx29 Q E τ H h) (uj1_4ok nx29 Q E)))

@[reducible] noncomputable def uj1_q6 (nx29 : Int → HP) (Q : QT) (E : ET) : Exit → Tau → Heap → Prop := (xthen (uj1_5_M nx29 Q E) (uj1_q4 nx29 Q E))

@[reducible] noncomputable def uj1_p15 : Code := sA uj1_p11

def uj1_8 (nx29 : Int → HP) (Q : QT) (E : ET) (x1 : OA) (l1 : Nat) (c1 : Nat) (x9 : OA) (x24 : OA) (l24 : Nat) (c24 : Nat) (x25 : Int) (x26 : Int) (x27 : Bool) (H : Heap) : Prop :=
 sel x27
 (uj1_5 nx29 Q E x1 l1 c1 x9 x24 l24 c24 x25 x26 H)
 (uj1_1 Q E x1 l1 c1 H)

def uj1_8_M (nx29 : Int → HP) (Q : QT) (E : ET) (τ : Tau) (H : Heap) : Prop := mSl (τ 1) fun x1 l1 c1 => mP (τ 9) fun x9 => mSl (τ 24) fun x24 l24 c24 => mI .i64 (τ 25) fun x25 => mI .i64 (τ 26) fun x26 => mB (τ 27) fun x27 => uj1_8 nx29 Q E x1 l1 c1 x9 x24 l24 c24 x25 x26 x27 H

theorem uj1_9ok (nx29 : Int → HP) (Q : QT) (E : ET) (τ : Tau) (H : Heap) (h : uj1_8_M nx29 Q E τ H) : vc Pr uj1_p15 τ (uj1_q6 nx29 Q E) E H :=
  vSl (i := 1) h (fun x1 l1 c1 h => vP (i := 9) h (fun x9 h => vSl (i := 24) h (fun x24 l24 c24 h => vI (i := 25) h (fun x25 h => vI (i := 26) h (fun x26 h => vB (i := 27) h (fun x27 h => (conv (by kernel_rfl) h)))))))

theorem uj1_10ok (nx29 : Int → HP) (Q : QT) (E : ET) (τ : Tau) (H : Heap) (h : uj1_8_M nx29 Q E τ H) : vc Pr uj1_p11 τ (uj1_q4 nx29 Q E) E H :=
  (conv (B := vc Pr uj1_p11 τ (uj1_q4 nx29 Q E) E H) (by kernel_rfl) (vc_seq (K := (uj1_5_M nx29 Q E)) (uj1_9ok nx29 Q E τ H h) (uj1_7ok nx29 Q E)))

@[reducible] noncomputable def uj1_q7 (nx29 : Int → HP) (Q : QT) (E : ET) : Exit → Tau → Heap → Prop := (xthen (uj1_8_M nx29 Q E) (uj1_q4 nx29 Q E))

@[reducible] noncomputable def uj1_p16 : Code := sA uj1_p10

def uj1_11 (nx29 : Int → HP) (Q : QT) (E : ET) (x1 : OA) (l1 : Nat) (c1 : Nat) (x9 : OA) (x24 : OA) (l24 : Nat) (c24 : Nat) (x25 : Int) (x26 : Int) (H : Heap) : Prop :=
 uj1_8 nx29 Q E x1 l1 c1 x9 x24 l24 c24 x25 x26 (decide ((x26 : Int) < x25)) H

def uj1_11_M (nx29 : Int → HP) (Q : QT) (E : ET) (τ : Tau) (H : Heap) : Prop := mSl (τ 1) fun x1 l1 c1 => mP (τ 9) fun x9 => mSl (τ 24) fun x24 l24 c24 => mI .i64 (τ 25) fun x25 => mI .i64 (τ 26) fun x26 => uj1_11 nx29 Q E x1 l1 c1 x9 x24 l24 c24 x25 x26 H

theorem uj1_12ok (nx29 : Int → HP) (Q : QT) (E : ET) (τ : Tau) (H : Heap) (h : uj1_11_M nx29 Q E τ H) : vc Pr uj1_p16 τ (uj1_q7 nx29 Q E) E H :=
  vSl (i := 1) h (fun x1 l1 c1 h => vP (i := 9) h (fun x9 h => vSl (i := 24) h (fun x24 l24 c24 h => vI (i := 25) h (fun x25 h => vI (i := 26) h (fun x26 h => (conv (by kernel_rfl) h))))))

theorem uj1_13ok (nx29 : Int → HP) (Q : QT) (E : ET) (τ : Tau) (H : Heap) (h : uj1_11_M nx29 Q E τ H) : vc Pr uj1_p10 τ (uj1_q4 nx29 Q E) E H :=
  (conv (B := vc Pr uj1_p10 τ (uj1_q4 nx29 Q E) E H) (by kernel_rfl) (vc_seq (K := (uj1_8_M nx29 Q E)) (uj1_12ok nx29 Q E τ H h) (uj1_10ok nx29 Q E)))

def uj1_14 (Q : QT) (E : ET) (x1 : OA) (l1 : Nat) (c1 : Nat) (x9 : OA) (x24 : OA) (l24 : Nat) (c24 : Nat) (x25 : Int) (x26 : Int) (H : Heap) : Prop :=
 ∃ (I : Int → HP) (μ : Int → Heap → Nat), I x26 H ∧ ∀ (x26 : Int) (H : Heap), I x26 H →
 uj1_11 (fun x26' H1 => I x26' H1 ∧ μ x26' H1 < μ x26 H) Q E x1 l1 c1 x9 x24 l24 c24 x25 x26 H

def uj1_14_M (Q : QT) (E : ET) (τ : Tau) (H : Heap) : Prop := mSl (τ 1) fun x1 l1 c1 => mP (τ 9) fun x9 => mSl (τ 24) fun x24 l24 c24 => mI .i64 (τ 25) fun x25 => mI .i64 (τ 26) fun x26 => uj1_14 Q E x1 l1 c1 x9 x24 l24 c24 x25 x26 H

theorem uj1_15ok (Q : QT) (E : ET) (τ : Tau) (H : Heap) (h : uj1_14_M Q E τ H) : vc Pr uj1_p9 τ (uj1_q3 Q E) E H :=
  vSl (i := 1) h (fun x1 l1 c1 h => vP (i := 9) h (fun x9 h => vSl (i := 24) h (fun x24 l24 c24 h => vI (i := 25) h (fun x25 h => vI (i := 26) h (fun x26 h => match h with | ⟨I, μ, h0, hr⟩ => (conv (B := vc Pr uj1_p9 (Tau.upd (Tau.upd (Tau.upd (Tau.upd (Tau.upd τ 1 (.slice x1 l1 c1)) 9 (.pointer x9)) 24 (.slice x24 l24 c24)) 25 (.int .i64 x25)) 26 (.int .i64 x26)) (uj1_q3 Q E) E H) (by kernel_rfl) (vc_loop (c := sI uj1_p9) (τ := (Tau.upd (Tau.upd (Tau.upd (Tau.upd (Tau.upd τ 1 (.slice x1 l1 c1)) 9 (.pointer x9)) 24 (.slice x24 l24 c24)) 25 (.int .i64 x25)) 26 (.int .i64 x26))) [1, 9, 24, 25] (fun τ H => mI .i64 (τ 26) fun x26' => I x26' H) (fun τ H => μ (gI (τ 26)) H) (by kernel_rfl) h0 (fun τ1 H1 hf hI => fix_elim (τ := τ1) (i := 1) (v := (.slice x1 l1 c1)) (G := fun τ => vc Pr (sI uj1_p9) τ (xthen (fun τ2 H2 => (mI .i64 (τ2 26) fun x26' => I x26' H2) ∧ μ (gI (τ2 26)) H2 < μ (gI (τ 26)) H1) (uj1_q3 Q E)) E H1) (hf 1 (by simp)) (fix_elim (τ := (Tau.upd τ1 1 (.slice x1 l1 c1))) (i := 9) (v := (.pointer x9)) (G := fun τ => vc Pr (sI uj1_p9) τ (xthen (fun τ2 H2 => (mI .i64 (τ2 26) fun x26' => I x26' H2) ∧ μ (gI (τ2 26)) H2 < μ (gI (τ 26)) H1) (uj1_q3 Q E)) E H1) (hf 9 (by simp)) (fix_elim (τ := (Tau.upd (Tau.upd τ1 1 (.slice x1 l1 c1)) 9 (.pointer x9))) (i := 24) (v := (.slice x24 l24 c24)) (G := fun τ => vc Pr (sI uj1_p9) τ (xthen (fun τ2 H2 => (mI .i64 (τ2 26) fun x26' => I x26' H2) ∧ μ (gI (τ2 26)) H2 < μ (gI (τ 26)) H1) (uj1_q3 Q E)) E H1) (hf 24 (by simp)) (fix_elim (τ := (Tau.upd (Tau.upd (Tau.upd τ1 1 (.slice x1 l1 c1)) 9 (.pointer x9)) 24 (.slice x24 l24 c24))) (i := 25) (v := (.int .i64 x25)) (G := fun τ => vc Pr (sI uj1_p9) τ (xthen (fun τ2 H2 => (mI .i64 (τ2 26) fun x26' => I x26' H2) ∧ μ (gI (τ2 26)) H2 < μ (gI (τ 26)) H1) (uj1_q3 Q E)) E H1) (hf 25 (by simp)) (mI_elim (i := 26) (G := fun τ => vc Pr (sI uj1_p9) τ (xthen (fun τ2 H2 => (mI .i64 (τ2 26) fun x26' => I x26' H2) ∧ μ (gI (τ2 26)) H2 < μ (gI (τ 26)) H1) (uj1_q3 Q E)) E H1) hI (fun x26r h => (conv (B := vc Pr (sI uj1_p9) (Tau.upd (Tau.upd (Tau.upd (Tau.upd (Tau.upd τ1 1 (.slice x1 l1 c1)) 9 (.pointer x9)) 24 (.slice x24 l24 c24)) 25 (.int .i64 x25)) 26 (.int .i64 x26r)) (xthen (fun τ2 H2 => (mI .i64 (τ2 26) fun x26' => I x26' H2) ∧ μ (gI (τ2 26)) H2 < μ (gI ((Tau.upd (Tau.upd (Tau.upd (Tau.upd (Tau.upd τ1 1 (.slice x1 l1 c1)) 9 (.pointer x9)) 24 (.slice x24 l24 c24)) 25 (.int .i64 x25)) 26 (.int .i64 x26r)) 26)) H1) (uj1_q3 Q E)) E H1) (by kernel_rfl) (vc_xthen (uj1_13ok (fun x26' H2 => I x26' H2 ∧ μ x26' H2 < μ x26r H1) Q E (Tau.upd (Tau.upd (Tau.upd (Tau.upd (Tau.upd τ1 1 (.slice x1 l1 c1)) 9 (.pointer x9)) 24 (.slice x24 l24 c24)) 25 (.int .i64 x25)) 26 (.int .i64 x26r)) H1 (conv (B := uj1_11_M (fun x26' H2 => I x26' H2 ∧ μ x26' H2 < μ x26r H1) Q E (Tau.upd (Tau.upd (Tau.upd (Tau.upd (Tau.upd τ1 1 (.slice x1 l1 c1)) 9 (.pointer x9)) 24 (.slice x24 l24 c24)) 25 (.int .i64 x25)) 26 (.int .i64 x26r)) H1) (by kernel_rfl) (hr x26r H1 h))) (fun τ2 H2 hk => mI_elim (i := 26) (G := fun τ => (mI .i64 (τ 26) fun x26' => I x26' H2) ∧ μ (gI (τ 26)) H2 < μ x26r H1) hk (fun x26' h => h)))))))))))))))))

theorem uj1_16ok (Q : QT) (E : ET) (τ : Tau) (H : Heap) (h : uj1_14_M Q E τ H) : vc Pr uj1_p8 τ (uj1_q2 Q E) E H :=
  (conv (B := vc Pr uj1_p8 τ (uj1_q2 Q E) E H) (by kernel_rfl) (uj1_15ok Q E τ H h))

@[reducible] noncomputable def uj1_q8 (Q : QT) (E : ET) : Exit → Tau → Heap → Prop := (xthen (uj1_14_M Q E) (uj1_q2 Q E))

@[reducible] noncomputable def uj1_p17 : Code := sA uj1_p7

def uj1_17 (Q : QT) (E : ET) (x1 : OA) (l1 : Nat) (c1 : Nat) (x9 : OA) (H : Heap) : Prop :=
 uj1_14 Q E x1 l1 c1 x9 x1 l1 c1 ((l1 : Nat) : Int) 0 H

def uj1_17_M (Q : QT) (E : ET) (τ : Tau) (H : Heap) : Prop := mSl (τ 1) fun x1 l1 c1 => mP (τ 9) fun x9 => uj1_17 Q E x1 l1 c1 x9 H

theorem uj1_18ok (Q : QT) (E : ET) (τ : Tau) (H : Heap) (h : uj1_17_M Q E τ H) : vc Pr uj1_p17 τ (uj1_q8 Q E) E H :=
  vSl (i := 1) h (fun x1 l1 c1 h => vP (i := 9) h (fun x9 h => (conv (by kernel_rfl) h)))

theorem uj1_19ok (Q : QT) (E : ET) (τ : Tau) (H : Heap) (h : uj1_17_M Q E τ H) : vc Pr uj1_p7 τ (uj1_q2 Q E) E H :=
  (conv (B := vc Pr uj1_p7 τ (uj1_q2 Q E) E H) (by kernel_rfl) (vc_seq (K := (uj1_14_M Q E)) (uj1_18ok Q E τ H h) (uj1_16ok Q E)))

theorem uj1_20ok (Q : QT) (E : ET) (τ : Tau) (H : Heap) (h : uj1_17_M Q E τ H) : vc Pr uj1_p5 τ (uj1_q1 Q E) E H :=
  (conv (B := vc Pr uj1_p5 τ (uj1_q1 Q E) E H) (by kernel_rfl) (vc_seq (K := (uj1_1_M Q E)) (uj1_19ok Q E τ H h) (uj1_2ok Q E)))

@[reducible] noncomputable def uj1_q9 (Q : QT) (E : ET) : Exit → Tau → Heap → Prop := (xthen (uj1_17_M Q E) (uj1_q1 Q E))

@[reducible] noncomputable def uj1_p18 : Code := sA uj1_p4

def uj1_21 (Q : QT) (E : ET) (x1 : OA) (l1 : Nat) (c1 : Nat) (x9 : OA) (H : Heap) : Prop :=
 Does Pr 79 #[(.pointer x9)] H (fun v50 H51 =>
 ∃ b52 : Bool, v50 = (.bool b52) ∧ sel b52
 (Q (.tuple #[(.int .i64 (-1)), (.int .i64 0), (.int .i64 0)]) H51)
 (uj1_17 Q E x1 l1 c1 x9 H51)) E

def uj1_21_M (Q : QT) (E : ET) (τ : Tau) (H : Heap) : Prop := mSl (τ 1) fun x1 l1 c1 => mP (τ 9) fun x9 => uj1_21 Q E x1 l1 c1 x9 H

theorem uj1_22ok (Q : QT) (E : ET) (τ : Tau) (H : Heap) (h : uj1_21_M Q E τ H) : vc Pr uj1_p18 τ (uj1_q9 Q E) E H :=
  vSl (i := 1) h (fun x1 l1 c1 h => vP (i := 9) h (fun x9 h => (conv (by kernel_rfl) h)))

theorem uj1_23ok (Q : QT) (E : ET) (τ : Tau) (H : Heap) (h : uj1_21_M Q E τ H) : vc Pr uj1_p4 τ (uj1_q1 Q E) E H :=
  (conv (B := vc Pr uj1_p4 τ (uj1_q1 Q E) E H) (by kernel_rfl) (vc_seq (K := (uj1_17_M Q E)) (uj1_22ok Q E τ H h) (uj1_20ok Q E)))

@[reducible] noncomputable def uj1_q10 (Q : QT) (E : ET) : Exit → Tau → Heap → Prop := (xthen (uj1_21_M Q E) (uj1_q1 Q E))

@[reducible] noncomputable def uj1_p19 : Code := sA uj1_p3

def uj1_24 (Q : QT) (E : ET) (x1 : OA) (l1 : Nat) (c1 : Nat) (x7 : OA) (H : Heap) : Prop :=
 ptr x7 fun q53 =>
 ∃ (p54 : OA) (l55 c56 : Nat), Heap.rd H q53 0 [(.slice p54 l55 c56)] ∧ Does Pr 78 #[(.agg #[(.slice p54 l55 c56)])] H (fun v57 H58 =>
 ∃ p59 : Option Addr, v57 = (.pointer p59) ∧ uj1_21 Q E x1 l1 c1 p59 H58) E

def uj1_24_M (Q : QT) (E : ET) (τ : Tau) (H : Heap) : Prop := mSl (τ 1) fun x1 l1 c1 => mP (τ 7) fun x7 => uj1_24 Q E x1 l1 c1 x7 H

theorem uj1_25ok (Q : QT) (E : ET) (τ : Tau) (H : Heap) (h : uj1_24_M Q E τ H) : vc Pr uj1_p19 τ (uj1_q10 Q E) E H :=
  vSl (i := 1) h (fun x1 l1 c1 h => vP (i := 7) h (fun x7 h => (conv (by kernel_rfl) h)))

theorem uj1_26ok (Q : QT) (E : ET) (τ : Tau) (H : Heap) (h : uj1_24_M Q E τ H) : vc Pr uj1_p3 τ (uj1_q1 Q E) E H :=
  (conv (B := vc Pr uj1_p3 τ (uj1_q1 Q E) E H) (by kernel_rfl) (vc_seq (K := (uj1_21_M Q E)) (uj1_25ok Q E τ H h) (uj1_23ok Q E)))

@[reducible] noncomputable def uj1_q11 (Q : QT) (E : ET) : Exit → Tau → Heap → Prop := (xthen (uj1_24_M Q E) (uj1_q1 Q E))

@[reducible] noncomputable def uj1_p20 : Code := sA uj1_p2

def uj1_27 (Q : QT) (E : ET) (x1 : OA) (l1 : Nat) (c1 : Nat) (x7 : OA) (x8 : Int) (H : Heap) : Prop :=
 sel ((x8 : Int) != 0)
 (Q (.tuple #[(.int .i64 0), (.int .i64 0), (.int .i64 x8)]) H)
 (uj1_24 Q E x1 l1 c1 x7 H)

def uj1_27_M (Q : QT) (E : ET) (τ : Tau) (H : Heap) : Prop := mSl (τ 1) fun x1 l1 c1 => mP (τ 7) fun x7 => mI .i64 (τ 8) fun x8 => uj1_27 Q E x1 l1 c1 x7 x8 H

theorem uj1_28ok (Q : QT) (E : ET) (τ : Tau) (H : Heap) (h : uj1_27_M Q E τ H) : vc Pr uj1_p20 τ (uj1_q11 Q E) E H :=
  vSl (i := 1) h (fun x1 l1 c1 h => vP (i := 7) h (fun x7 h => vI (i := 8) h (fun x8 h => (conv (by kernel_rfl) h))))

theorem uj1_29ok (Q : QT) (E : ET) (τ : Tau) (H : Heap) (h : uj1_27_M Q E τ H) : vc Pr uj1_p2 τ (uj1_q1 Q E) E H :=
  (conv (B := vc Pr uj1_p2 τ (uj1_q1 Q E) E H) (by kernel_rfl) (vc_seq (K := (uj1_24_M Q E)) (uj1_28ok Q E τ H h) (uj1_26ok Q E)))

@[reducible] noncomputable def uj1_q12 (Q : QT) (E : ET) : Exit → Tau → Heap → Prop := (xthen (uj1_27_M Q E) (uj1_q1 Q E))

@[reducible] noncomputable def uj1_p21 : Code := sA uj1_p1

def uj1_30 (Q : QT) (E : ET) (x0 : ByteArray) (x1 : OA) (l1 : Nat) (c1 : Nat) (H : Heap) : Prop :=
 Does Pr 77 #[(.string x0)] H (fun v60 H61 =>
 ∃ (p62 : OA) (l63 c64 : Nat), ∃ n65 : Int, v60 = (.tuple #[(.agg #[(.slice p62 l63 c64)]), (.int .i64 n65)]) ∧ nw (.cells #[(.slice none 0 0)] 118 (0, 0)) H61 fun i66 H67 =>
 wr ⟨i66, 0, none⟩ [(.slice p62 l63 c64)] H67 fun H68 =>
 uj1_27 Q E x1 l1 c1 (some ⟨i66, 0, none⟩) n65 H68) E

def uj1_30_M (Q : QT) (E : ET) (τ : Tau) (H : Heap) : Prop := mS (τ 0) fun x0 => mSl (τ 1) fun x1 l1 c1 => uj1_30 Q E x0 x1 l1 c1 H

theorem uj1_31ok (Q : QT) (E : ET) (τ : Tau) (H : Heap) (h : uj1_30_M Q E τ H) : vc Pr uj1_p21 τ (uj1_q12 Q E) E H :=
  vS (i := 0) h (fun x0 h => vSl (i := 1) h (fun x1 l1 c1 h => (conv (by kernel_rfl) h)))

theorem uj1_32ok (Q : QT) (E : ET) (τ : Tau) (H : Heap) (h : uj1_30_M Q E τ H) : vc Pr uj1_p1 τ (uj1_q1 Q E) E H :=
  (conv (B := vc Pr uj1_p1 τ (uj1_q1 Q E) E H) (by kernel_rfl) (vc_seq (K := (uj1_27_M Q E)) (uj1_31ok Q E τ H h) (uj1_29ok Q E)))

@[reducible] noncomputable def uj1_q13 (Q : QT) (E : ET) : Exit → Tau → Heap → Prop := (xthen (uj1_30_M Q E) (uj1_q1 Q E))

@[reducible] noncomputable def uj1_p22 : Code := sA uj1_p0

def uj1 (Q : QT) (E : ET) (a0 : ByteArray) (a1 : OA) (a1l : Nat) (a1c : Nat) (H : Heap) : Prop :=
 uj1_30 Q E a0 a1 a1l a1c H

theorem uj1_fn (a0 : ByteArray) (a1 : OA) (a1l : Nat) (a1c : Nat) (Q : QT) (E : ET) (H : Heap) (h : uj1 Q E a0 a1 a1l a1c H)   : Does Pr 45 #[(.string a0), (.slice a1 a1l a1c)] H Q E :=
  Fn_of_vc (fn := Try.f45) (c := uj1_p0) (args := [(.string a0), (.slice a1 a1l a1c)]) mixed (by kernel_rfl) (by kernel_rfl) (by kernel_rfl) (by kernel_rfl) (by kernel_rfl) ((conv (B := vc Pr uj1_p0 (argT [(.string a0), (.slice a1 a1l a1c)]) (uj1_q1 Q E) E H) (by kernel_rfl) (vc_seq (K := (uj1_30_M Q E)) (conv (B := vc Pr uj1_p22 (argT [(.string a0), (.slice a1 a1l a1c)]) (uj1_q13 Q E) E H) (by kernel_rfl) h) (uj1_32ok Q E))))

/-! jobmux/matcher.New -/
@[reducible] noncomputable def uk1_q1 (Q : QT) (E : ET) : Exit → Tau → Heap → Prop := (retQ Pr (Try.f77).results.toList Q)

@[reducible] noncomputable def uk1_p0 : Code := bodyOf Try.f77

@[reducible] noncomputable def uk1_p1 : Code := sB uk1_p0

@[reducible] noncomputable def uk1_p2 : Code := sB uk1_p1

@[reducible] noncomputable def uk1_p3 : Code := sB uk1_p2

def uk1_1 (Q : QT) (E : ET) (x2 : OA) (x4 : OA) (l4 : Nat) (c4 : Nat) (H : Heap) : Prop :=
 Does Pr 33 #[(.slice x4 l4 c4)] H (fun v10 H11 =>
 ∃ (p12 : OA) (l13 c14 : Nat), ∃ n15 : Int, v10 = (.tuple #[(.slice p12 l13 c14), (.int .i64 n15)]) ∧ ptr x2 fun q17 =>
 wr q17 [(.slice p12 l13 c14)] H11 fun H16 =>
 ptr x2 fun q18 =>
 ∃ (p19 : OA) (l20 c21 : Nat), Heap.rd H16 q18 0 [(.slice p19 l20 c21)] ∧ Q (.tuple #[(.agg #[(.slice p19 l20 c21)]), (.int .i64 n15)]) H16) E

def uk1_1_M (Q : QT) (E : ET) (τ : Tau) (H : Heap) : Prop := mP (τ 2) fun x2 => mSl (τ 4) fun x4 l4 c4 => uk1_1 Q E x2 x4 l4 c4 H

theorem uk1_2ok (Q : QT) (E : ET) (τ : Tau) (H : Heap) (h : uk1_1_M Q E τ H) : vc Pr uk1_p3 τ (uk1_q1 Q E) E H :=
  vP (i := 2) h (fun x2 h => vSl (i := 4) h (fun x4 l4 c4 h => (conv (by kernel_rfl) h)))

@[reducible] noncomputable def uk1_q2 (Q : QT) (E : ET) : Exit → Tau → Heap → Prop := (xthen (uk1_1_M Q E) (uk1_q1 Q E))

@[reducible] noncomputable def uk1_p4 : Code := sA uk1_p2

def uk1_3 (Q : QT) (E : ET) (x2 : OA) (x4 : OA) (l4 : Nat) (c4 : Nat) (x5 : Int) (H : Heap) : Prop :=
 sel ((x5 : Int) != 0)
 (ptr x2 fun q23 =>
 wr q23 [(.slice none 0 0)] H fun H22 =>
 ptr x2 fun q24 =>
 ∃ (p25 : OA) (l26 c27 : Nat), Heap.rd H22 q24 0 [(.slice p25 l26 c27)] ∧ Q (.tuple #[(.agg #[(.slice p25 l26 c27)]), (.int .i64 x5)]) H22)
 (uk1_1 Q E x2 x4 l4 c4 H)

def uk1_3_M (Q : QT) (E : ET) (τ : Tau) (H : Heap) : Prop := mP (τ 2) fun x2 => mSl (τ 4) fun x4 l4 c4 => mI .i64 (τ 5) fun x5 => uk1_3 Q E x2 x4 l4 c4 x5 H

theorem uk1_4ok (Q : QT) (E : ET) (τ : Tau) (H : Heap) (h : uk1_3_M Q E τ H) : vc Pr uk1_p4 τ (uk1_q2 Q E) E H :=
  vP (i := 2) h (fun x2 h => vSl (i := 4) h (fun x4 l4 c4 h => vI (i := 5) h (fun x5 h => (conv (by kernel_rfl) h))))

theorem uk1_5ok (Q : QT) (E : ET) (τ : Tau) (H : Heap) (h : uk1_3_M Q E τ H) : vc Pr uk1_p2 τ (uk1_q1 Q E) E H :=
  (conv (B := vc Pr uk1_p2 τ (uk1_q1 Q E) E H) (by kernel_rfl) (vc_seq (K := (uk1_1_M Q E)) (uk1_4ok Q E τ H h) (uk1_2ok Q E)))

@[reducible] noncomputable def uk1_q3 (Q : QT) (E : ET) : Exit → Tau → Heap → Prop := (xthen (uk1_3_M Q E) (uk1_q1 Q E))

@[reducible] noncomputable def uk1_p5 : Code := sA uk1_p1

def uk1_6 (Q : QT) (E : ET) (x0 : ByteArray) (x2 : OA) (H : Heap) : Prop :=
 Does Pr 28 #[(.string x0)] H (fun v28 H29 =>
 ∃ (p30 : OA) (l31 c32 : Nat), ∃ n33 : Int, v28 = (.tuple #[(.slice p30 l31 c32), (.int .i64 n33)]) ∧ uk1_3 Q E x2 p30 l31 c32 n33 H29) E

def uk1_6_M (Q : QT) (E : ET) (τ : Tau) (H : Heap) : Prop := mS (τ 0) fun x0 => mP (τ 2) fun x2 => uk1_6 Q E x0 x2 H

theorem uk1_7ok (Q : QT) (E : ET) (τ : Tau) (H : Heap) (h : uk1_6_M Q E τ H) : vc Pr uk1_p5 τ (uk1_q3 Q E) E H :=
  vS (i := 0) h (fun x0 h => vP (i := 2) h (fun x2 h => (conv (by kernel_rfl) h)))

theorem uk1_8ok (Q : QT) (E : ET) (τ : Tau) (H : Heap) (h : uk1_6_M Q E τ H) : vc Pr uk1_p1 τ (uk1_q1 Q E) E H :=
  (conv (B := vc Pr uk1_p1 τ (uk1_q1 Q E) E H) (by kernel_rfl) (vc_seq (K := (uk1_3_M Q E)) (uk1_7ok Q E τ H h) (uk1_5ok Q E)))

@[reducible] noncomputable def uk1_q4 (Q : QT) (E : ET) : Exit → Tau → Heap → Prop := (xthen (uk1_6_M Q E) (uk1_q1 Q E))

@[reducible] noncomputable def uk1_p6 : Code := sA uk1_p0

def uk1 (Q : QT) (E : ET) (a0 : ByteArray) (H : Heap) : Prop :=
 nw (.cells #[(.slice none 0 0)] 118 (0, 0)) H fun i34 H35 =>
 uk1_6 Q E a0 (some ⟨i34, 0, none⟩) H35

theorem uk1_fn (a0 : ByteArray) (Q : QT) (E : ET) (H : Heap) (h : uk1 Q E a0 H)   : Does Pr 77 #[(.string a0)] H Q E :=
  Fn_of_vc (fn := Try.f77) (c := uk1_p0) (args := [(.string a0)]) mixed (by kernel_rfl) (by kernel_rfl) (by kernel_rfl) (by kernel_rfl) (by kernel_rfl) ((conv (B := vc Pr uk1_p0 (argT [(.string a0)]) (uk1_q1 Q E) E H) (by kernel_rfl) (vc_seq (K := (uk1_6_M Q E)) (conv (B := vc Pr uk1_p6 (argT [(.string a0)]) (uk1_q4 Q E) E H) (by kernel_rfl) h) (uk1_8ok Q E))))

/-! (jobmux/matcher.Matcher).Begin -/
@[reducible] noncomputable def ul1_q1 (Q : QT) (E : ET) : Exit → Tau → Heap → Prop := (retQ Pr (Try.f78).results.toList Q)

@[reducible] noncomputable def ul1_p0 : Code := bodyOf Try.f78

def ul1 (Q : QT) (E : ET) (a0_0 : OA) (a0_0l : Nat) (a0_0c : Nat) (H : Heap) : Prop :=
 nw (.cells #[(.slice a0_0 a0_0l a0_0c)] 118 (0, 0)) H fun i1 H2 =>
 ldSl ⟨i1, 0, none⟩ H2 fun p3 l4 c5 =>
 Does Pr 50 #[(.slice p3 l4 c5), (.bool false), (.bool true)] H2 (fun v6 H7 =>
 ∃ p8 : Option Addr, v6 = (.pointer p8) ∧ Q (.pointer p8) H7) E

theorem ul1_fn (a0_0 : OA) (a0_0l : Nat) (a0_0c : Nat) (Q : QT) (E : ET) (H : Heap) (h : ul1 Q E a0_0 a0_0l a0_0c H)   : Does Pr 78 #[(.agg #[(.slice a0_0 a0_0l a0_0c)])] H Q E :=
  Fn_of_vc (fn := Try.f78) (c := ul1_p0) (args := [(.agg #[(.slice a0_0 a0_0l a0_0c)])]) mixed (by kernel_rfl) (by kernel_rfl) (by kernel_rfl) (by kernel_rfl) (by kernel_rfl) ((conv (B := vc Pr ul1_p0 (argT [(.agg #[(.slice a0_0 a0_0l a0_0c)])]) (ul1_q1 Q E) E H) (by kernel_rfl) h))

end Go.Proofs.Ytaffcoiomggpfaa
