import Derived.Test.YtaffcoiomggpfaaVPr
/- Printed by gen.py: the Go functions of package matcher over a heap view, and that the model does so. -/
namespace Go.Proofs.Ytaffcoiomggpfaa
open Go.V
set_option linter.unusedVariables false
set_option maxRecDepth 100000
/-! jobmux/matcher.Play -/
@[reducible] noncomputable def uu_q1 (Q : QT) (E : ET) : Exit → Tau → Heap → Prop := (retQ Pr (Try.f45).results.toList Q)

@[reducible] noncomputable def uu_p0 : Code := bodyOf Try.f45

@[reducible] noncomputable def uu_p1 : Code := sB uu_p0

@[reducible] noncomputable def uu_p2 : Code := sB uu_p1

@[reducible] noncomputable def uu_p3 : Code := sB uu_p2

@[reducible] noncomputable def uu_p4 : Code := sB uu_p3

@[reducible] noncomputable def uu_p5 : Code := sB uu_p4

@[reducible] noncomputable def uu_p6 : Code := sB uu_p5

def uu_1 (Q : QT) (E : ET) (x1 : OA) (l1 : Nat) (c1 : Nat) (H : Heap) : Prop :=
 Q (.tuple #[(.int .i64 ((l1 : Nat) : Int)), (.int .i64 (-1)), (.int .i64 0)]) H

def uu_1_M (Q : QT) (E : ET) (τ : Tau) (H : Heap) : Prop := mSl (τ 1) fun x1 l1 c1 => uu_1 Q E x1 l1 c1 H

theorem uu_2ok (Q : QT) (E : ET) (τ : Tau) (H : Heap) (h : uu_1_M Q E τ H) : vc Pr uu_p6 τ (uu_q1 Q E) E H :=
  vSl (i := 1) h (fun x1 l1 c1 h => (conv (by kernel_rfl) h))

@[reducible] noncomputable def uu_q2 (Q : QT) (E : ET) : Exit → Tau → Heap → Prop := (xthen (uu_1_M Q E) (uu_q1 Q E))

@[reducible] noncomputable def uu_p7 : Code := sA uu_p5

@[reducible] noncomputable def uu_p8 : Code := sB uu_p7

@[reducible] noncomputable def uu_q3 (Q : QT) (E : ET) : Exit → Tau → Heap → Prop := (xblock 0 (uu_q2 Q E))

@[reducible] noncomputable def uu_p9 : Code := sI uu_p8

@[reducible] noncomputable def uu_q4 (nx29 : Int → HP) (Q : QT) (E : ET) : Exit → Tau → Heap → Prop := (xthen (fun τ H => mI .i64 (τ 26) fun x26' => nx29 x26' H) (uu_q3 Q E))

@[reducible] noncomputable def uu_p10 : Code := sI uu_p9

@[reducible] noncomputable def uu_p11 : Code := sB uu_p10

@[reducible] noncomputable def uu_p12 : Code := sB uu_p11

@[reducible] noncomputable def uu_p13 : Code := sB uu_p12

def uu_3 (nx29 : Int → HP) (Q : QT) (E : ET) (x1 : OA) (l1 : Nat) (c1 : Nat) (x9 : OA) (x24 : OA) (l24 : Nat) (c24 : Nat) (x25 : Int) (x26 : Int) (H : Heap) : Prop :=
 nx29 (IntKind.wrap .i64 (x26 + 1)) H

def uu_3_M (nx29 : Int → HP) (Q : QT) (E : ET) (τ : Tau) (H : Heap) : Prop := mSl (τ 1) fun x1 l1 c1 => mP (τ 9) fun x9 => mSl (τ 24) fun x24 l24 c24 => mI .i64 (τ 25) fun x25 => mI .i64 (τ 26) fun x26 => uu_3 nx29 Q E x1 l1 c1 x9 x24 l24 c24 x25 x26 H

theorem uu_4ok (nx29 : Int → HP) (Q : QT) (E : ET) (τ : Tau) (H : Heap) (h : uu_3_M nx29 Q E τ H) : vc Pr uu_p13 τ (uu_q4 nx29 Q E) E H :=
  vSl (i := 1) h (fun x1 l1 c1 h => vP (i := 9) h (fun x9 h => vSl (i := 24) h (fun x24 l24 c24 h => vI (i := 25) h (fun x25 h => vI (i := 26) h (fun x26 h => (conv (by kernel_rfl) h))))))

@[reducible] noncomputable def uu_q5 (nx29 : Int → HP) (Q : QT) (E : ET) : Exit → Tau → Heap → Prop := (xthen (uu_3_M nx29 Q E) (uu_q4 nx29 Q E))

@[reducible] noncomputable def uu_p14 : Code := sA uu_p12

def uu_5 (nx29 : Int → HP) (Q : QT) (E : ET) (x1 : OA) (l1 : Nat) (c1 : Nat) (x9 : OA) (x24 : OA) (l24 : Nat) (c24 : Nat) (x25 : Int) (x26 : Int) (H : Heap) : Prop :=
 (0 ≤ (x26 : Int) ∧ (x26 : Int) < ((l24 : Nat) : Int)) ∧ ptr x24 fun q40 =>
 ldSl (Addr.add q40 ((x26 : Int).toNat * 1)) H fun p41 l42 c43 =>
 Does Pr 52 #[(.pointer x9), (.slice p41 l42 c43)] H (fun v44 H45 =>
 ∃ b46 : Bool, v44 = (.bool b46) ∧ sel b46
 (Does Pr 53 #[(.pointer x9)] H45 (fun v47 H48 =>
 ∃ n49 : Int, v47 = (.int .i64 n49) ∧ Q (.tuple #[(.int .i64 x26), (.int .i64 n49), (.int .i64 0)]) H48) E)
 (uu_3 nx29 Q E x1 l1 c1 x9 x24 l24 c24 x25 x26 H45)) E

def uu_5_M (nx29 : Int → HP) (Q : QT) (E : ET) (τ : Tau) (H : Heap) : Prop := mSl (τ 1) fun x1 l1 c1 => mP (τ 9) fun x9 => mSl (τ 24) fun x24 l24 c24 => mI .i64 (τ 25) fun x25 => mI .i64 (τ 26) fun x26 => uu_5 nx29 Q E x1 l1 c1 x9 x24 l24 c24 x25 x26 H

theorem uu_6ok (nx29 : Int → HP) (Q : QT) (E : ET) (τ : Tau) (H : Heap) (h : uu_5_M nx29 Q E τ H) : vc Pr uu_p14 τ (uu_q5 nx29 Q E) E H :=
  vSl (i := 1) h (fun x1 l1 c1 h => vP (i := 9) h (fun x9 h => vSl (i := 24) h (fun x24 l24 c24 h => vI (i := 25) h (fun x25 h => vI (i := 26) h (fun x26 h => (conv (by kernel_rfl) h))))))

theorem uu_7ok (nx29 : Int → HP) (Q : QT) (E : ET) (τ : Tau) (H : Heap) (h : uu_5_M nx29 Q E τ H) : vc Pr uu_p12 τ (uu_q4 nx29 Q E) E H :=
  (conv (B := vc Pr uu_p12 τ (uu_q4 nx29 Q E) E H) (by kernel_rfl) (vc_seq (K := (uu_3_M nx29 Q E)) (uu_6ok nx29 Q E τ H h) (uu_4ok nx29 Q E)))

@[reducible] noncomputable def uu_q6 (nx29 : Int → HP) (Q : QT) (E : ET) : Exit → Tau → Heap → Prop := (xthen (uu_5_M nx29 Q E) (uu_q4 nx29 Q E))

@[reducible] noncomputable def uu_p15 : Code := sA uu_p11

def uu_8 (nx29 : Int → HP) (Q : QT) (E : ET) (x1 : OA) (l1 : Nat) (c1 : Nat) (x9 : OA) (x24 : OA) (l24 : Nat) (c24 : Nat) (x25 : Int) (x26 : Int) (x27 : Bool) (H : Heap) : Prop :=
 sel x27
 (uu_5 nx29 Q E x1 l1 c1 x9 x24 l24 c24 x25 x26 H)
 (uu_1 Q E x1 l1 c1 H)

def uu_8_M (nx29 : Int → HP) (Q : QT) (E : ET) (τ : Tau) (H : Heap) : Prop := mSl (τ 1) fun x1 l1 c1 => mP (τ 9) fun x9 => mSl (τ 24) fun x24 l24 c24 => mI .i64 (τ 25) fun x25 => mI .i64 (τ 26) fun x26 => mB (τ 27) fun x27 => uu_8 nx29 Q E x1 l1 c1 x9 x24 l24 c24 x25 x26 x27 H

theorem uu_9ok (nx29 : Int → HP) (Q : QT) (E : ET) (τ : Tau) (H : Heap) (h : uu_8_M nx29 Q E τ H) : vc Pr uu_p15 τ (uu_q6 nx29 Q E) E H :=
  vSl (i := 1) h (fun x1 l1 c1 h => vP (i := 9) h (fun x9 h => vSl (i := 24) h (fun x24 l24 c24 h => vI (i := 25) h (fun x25 h => vI (i := 26) h (fun x26 h => vB (i := 27) h (fun x27 h => (conv (by kernel_rfl) h)))))))

theorem uu_10ok (nx29 : Int → HP) (Q : QT) (E : ET) (τ : Tau) (H : Heap) (h : uu_8_M nx29 Q E τ H) : vc Pr uu_p11 τ (uu_q4 nx29 Q E) E H :=
  (conv (B := vc Pr uu_p11 τ (uu_q4 nx29 Q E) E H) (by kernel_rfl) (vc_seq (K := (uu_5_M nx29 Q E)) (uu_9ok nx29 Q E τ H h) (uu_7ok nx29 Q E)))

@[reducible] noncomputable def uu_q7 (nx29 : Int → HP) (Q : QT) (E : ET) : Exit → Tau → Heap → Prop := (xthen (uu_8_M nx29 Q E) (uu_q4 nx29 Q E))

@[reducible] noncomputable def uu_p16 : Code := sA uu_p10

def uu_11 (nx29 : Int → HP) (Q : QT) (E : ET) (x1 : OA) (l1 : Nat) (c1 : Nat) (x9 : OA) (x24 : OA) (l24 : Nat) (c24 : Nat) (x25 : Int) (x26 : Int) (H : Heap) : Prop :=
 uu_8 nx29 Q E x1 l1 c1 x9 x24 l24 c24 x25 x26 (decide ((x26 : Int) < x25)) H

def uu_11_M (nx29 : Int → HP) (Q : QT) (E : ET) (τ : Tau) (H : Heap) : Prop := mSl (τ 1) fun x1 l1 c1 => mP (τ 9) fun x9 => mSl (τ 24) fun x24 l24 c24 => mI .i64 (τ 25) fun x25 => mI .i64 (τ 26) fun x26 => uu_11 nx29 Q E x1 l1 c1 x9 x24 l24 c24 x25 x26 H

theorem uu_12ok (nx29 : Int → HP) (Q : QT) (E : ET) (τ : Tau) (H : Heap) (h : uu_11_M nx29 Q E τ H) : vc Pr uu_p16 τ (uu_q7 nx29 Q E) E H :=
  vSl (i := 1) h (fun x1 l1 c1 h => vP (i := 9) h (fun x9 h => vSl (i := 24) h (fun x24 l24 c24 h => vI (i := 25) h (fun x25 h => vI (i := 26) h (fun x26 h => (conv (by kernel_rfl) h))))))

theorem uu_13ok (nx29 : Int → HP) (Q : QT) (E : ET) (τ : Tau) (H : Heap) (h : uu_11_M nx29 Q E τ H) : vc Pr uu_p10 τ (uu_q4 nx29 Q E) E H :=
  (conv (B := vc Pr uu_p10 τ (uu_q4 nx29 Q E) E H) (by kernel_rfl) (vc_seq (K := (uu_8_M nx29 Q E)) (uu_12ok nx29 Q E τ H h) (uu_10ok nx29 Q E)))

def uu_14 (Q : QT) (E : ET) (x1 : OA) (l1 : Nat) (c1 : Nat) (x9 : OA) (x24 : OA) (l24 : Nat) (c24 : Nat) (x25 : Int) (x26 : Int) (H : Heap) : Prop :=
 ∃ (I : Int → HP) (μ : Int → Heap → Nat), I x26 H ∧ ∀ (x26 : Int) (H : Heap), I x26 H →
 uu_11 (fun x26' H1 => I x26' H1 ∧ μ x26' H1 < μ x26 H) Q E x1 l1 c1 x9 x24 l24 c24 x25 x26 H

def uu_14_M (Q : QT) (E : ET) (τ : Tau) (H : Heap) : Prop := mSl (τ 1) fun x1 l1 c1 => mP (τ 9) fun x9 => mSl (τ 24) fun x24 l24 c24 => mI .i64 (τ 25) fun x25 => mI .i64 (τ 26) fun x26 => uu_14 Q E x1 l1 c1 x9 x24 l24 c24 x25 x26 H

theorem uu_15ok (Q : QT) (E : ET) (τ : Tau) (H : Heap) (h : uu_14_M Q E τ H) : vc Pr uu_p9 τ (uu_q3 Q E) E H :=
  vSl (i := 1) h (fun x1 l1 c1 h => vP (i := 9) h (fun x9 h => vSl (i := 24) h (fun x24 l24 c24 h => vI (i := 25) h (fun x25 h => vI (i := 26) h (fun x26 h => match h with | ⟨I, μ, h0, hr⟩ => (conv (B := vc Pr uu_p9 (Tau.upd (Tau.upd (Tau.upd (Tau.upd (Tau.upd τ 1 (.slice x1 l1 c1)) 9 (.pointer x9)) 24 (.slice x24 l24 c24)) 25 (.int .i64 x25)) 26 (.int .i64 x26)) (uu_q3 Q E) E H) (by kernel_rfl) (vc_loop (c := sI uu_p9) (τ := (Tau.upd (Tau.upd (Tau.upd (Tau.upd (Tau.upd τ 1 (.slice x1 l1 c1)) 9 (.pointer x9)) 24 (.slice x24 l24 c24)) 25 (.int .i64 x25)) 26 (.int .i64 x26))) [1, 9, 24, 25] (fun τ H => mI .i64 (τ 26) fun x26' => I x26' H) (fun τ H => μ (gI (τ 26)) H) (by kernel_rfl) h0 (fun τ1 H1 hf hI => fix_elim (τ := τ1) (i := 1) (v := (.slice x1 l1 c1)) (G := fun τ => vc Pr (sI uu_p9) τ (xthen (fun τ2 H2 => (mI .i64 (τ2 26) fun x26' => I x26' H2) ∧ μ (gI (τ2 26)) H2 < μ (gI (τ 26)) H1) (uu_q3 Q E)) E H1) (hf 1 (by simp)) (fix_elim (τ := (Tau.upd τ1 1 (.slice x1 l1 c1))) (i := 9) (v := (.pointer x9)) (G := fun τ => vc Pr (sI uu_p9) τ (xthen (fun τ2 H2 => (mI .i64 (τ2 26) fun x26' => I x26' H2) ∧ μ (gI (τ2 26)) H2 < μ (gI (τ 26)) H1) (uu_q3 Q E)) E H1) (hf 9 (by simp)) (fix_elim (τ := (Tau.upd (Tau.upd τ1 1 (.slice x1 l1 c1)) 9 (.pointer x9))) (i := 24) (v := (.slice x24 l24 c24)) (G := fun τ => vc Pr (sI uu_p9) τ (xthen (fun τ2 H2 => (mI .i64 (τ2 26) fun x26' => I x26' H2) ∧ μ (gI (τ2 26)) H2 < μ (gI (τ 26)) H1) (uu_q3 Q E)) E H1) (hf 24 (by simp)) (fix_elim (τ := (Tau.upd (Tau.upd (Tau.upd τ1 1 (.slice x1 l1 c1)) 9 (.pointer x9)) 24 (.slice x24 l24 c24))) (i := 25) (v := (.int .i64 x25)) (G := fun τ => vc Pr (sI uu_p9) τ (xthen (fun τ2 H2 => (mI .i64 (τ2 26) fun x26' => I x26' H2) ∧ μ (gI (τ2 26)) H2 < μ (gI (τ 26)) H1) (uu_q3 Q E)) E H1) (hf 25 (by simp)) (mI_elim (i := 26) (G := fun τ => vc Pr (sI uu_p9) τ (xthen (fun τ2 H2 => (mI .i64 (τ2 26) fun x26' => I x26' H2) ∧ μ (gI (τ2 26)) H2 < μ (gI (τ 26)) H1) (uu_q3 Q E)) E H1) hI (fun x26r h => (conv (B := vc Pr (sI uu_p9) (Tau.upd (Tau.upd (Tau.upd (Tau.upd (Tau.upd τ1 1 (.slice x1 l1 c1)) 9 (.pointer x9)) 24 (.slice x24 l24 c24)) 25 (.int .i64 x25)) 26 (.int .i64 x26r)) (xthen (fun τ2 H2 => (mI .i64 (τ2 26) fun x26' => I x26' H2) ∧ μ (gI (τ2 26)) H2 < μ (gI ((Tau.upd (Tau.upd (Tau.upd (Tau.upd (Tau.upd τ1 1 (.slice x1 l1 c1)) 9 (.pointer x9)) 24 (.slice x24 l24 c24)) 25 (.int .i64 x25)) 26 (.int .i64 x26r)) 26)) H1) (uu_q3 Q E)) E H1) (by kernel_rfl) (vc_xthen (uu_13ok (fun x26' H2 => I x26' H2 ∧ μ x26' H2 < μ x26r H1) Q E (Tau.upd (Tau.upd (Tau.upd (Tau.upd (Tau.upd τ1 1 (.slice x1 l1 c1)) 9 (.pointer x9)) 24 (.slice x24 l24 c24)) 25 (.int .i64 x25)) 26 (.int .i64 x26r)) H1 (conv (B := uu_11_M (fun x26' H2 => I x26' H2 ∧ μ x26' H2 < μ x26r H1) Q E (Tau.upd (Tau.upd (Tau.upd (Tau.upd (Tau.upd τ1 1 (.slice x1 l1 c1)) 9 (.pointer x9)) 24 (.slice x24 l24 c24)) 25 (.int .i64 x25)) 26 (.int .i64 x26r)) H1) (by kernel_rfl) (hr x26r H1 h))) (fun τ2 H2 hk => mI_elim (i := 26) (G := fun τ => (mI .i64 (τ 26) fun x26' => I x26' H2) ∧ μ (gI (τ 26)) H2 < μ x26r H1) hk (fun x26' h => h)))))))))))))))))

theorem uu_16ok (Q : QT) (E : ET) (τ : Tau) (H : Heap) (h : uu_14_M Q E τ H) : vc Pr uu_p8 τ (uu_q2 Q E) E H :=
  (conv (B := vc Pr uu_p8 τ (uu_q2 Q E) E H) (by kernel_rfl) (uu_15ok Q E τ H h))

@[reducible] noncomputable def uu_q8 (Q : QT) (E : ET) : Exit → Tau → Heap → Prop := (xthen (uu_14_M Q E) (uu_q2 Q E))

@[reducible] noncomputable def uu_p17 : Code := sA uu_p7

def uu_17 (Q : QT) (E : ET) (x1 : OA) (l1 : Nat) (c1 : Nat) (x9 : OA) (H : Heap) : Prop :=
 uu_14 Q E x1 l1 c1 x9 x1 l1 c1 ((l1 : Nat) : Int) 0 H

def uu_17_M (Q : QT) (E : ET) (τ : Tau) (H : Heap) : Prop := mSl (τ 1) fun x1 l1 c1 => mP (τ 9) fun x9 => uu_17 Q E x1 l1 c1 x9 H

theorem uu_18ok (Q : QT) (E : ET) (τ : Tau) (H : Heap) (h : uu_17_M Q E τ H) : vc Pr uu_p17 τ (uu_q8 Q E) E H :=
  vSl (i := 1) h (fun x1 l1 c1 h => vP (i := 9) h (fun x9 h => (conv (by kernel_rfl) h)))

theorem uu_19ok (Q : QT) (E : ET) (τ : Tau) (H : Heap) (h : uu_17_M Q E τ H) : vc Pr uu_p7 τ (uu_q2 Q E) E H :=
  (conv (B := vc Pr uu_p7 τ (uu_q2 Q E) E H) (by kernel_rfl) (vc_seq (K := (uu_14_M Q E)) (uu_18ok Q E τ H h) (uu_16ok Q E)))

theorem uu_20ok (Q : QT) (E : ET) (τ : Tau) (H : Heap) (h : uu_17_M Q E τ H) : vc Pr uu_p5 τ (uu_q1 Q E) E H :=
  (conv (B := vc Pr uu_p5 τ (uu_q1 Q E) E H) (by kernel_rfl) (vc_seq (K := (uu_1_M Q E)) (uu_19ok Q E τ H h) (uu_2ok Q E)))

@[reducible] noncomputable def uu_q9 (Q : QT) (E : ET) : Exit → Tau → Heap → Prop := (xthen (uu_17_M Q E) (uu_q1 Q E))

@[reducible] noncomputable def uu_p18 : Code := sA uu_p4

def uu_21 (Q : QT) (E : ET) (x1 : OA) (l1 : Nat) (c1 : Nat) (x9 : OA) (H : Heap) : Prop :=
 Does Pr 79 #[(.pointer x9)] H (fun v50 H51 =>
 ∃ b52 : Bool, v50 = (.bool b52) ∧ sel b52
 (Q (.tuple #[(.int .i64 (-1)), (.int .i64 0), (.int .i64 0)]) H51)
 (uu_17 Q E x1 l1 c1 x9 H51)) E

def uu_21_M (Q : QT) (E : ET) (τ : Tau) (H : Heap) : Prop := mSl (τ 1) fun x1 l1 c1 => mP (τ 9) fun x9 => uu_21 Q E x1 l1 c1 x9 H

theorem uu_22ok (Q : QT) (E : ET) (τ : Tau) (H : Heap) (h : uu_21_M Q E τ H) : vc Pr uu_p18 τ (uu_q9 Q E) E H :=
  vSl (i := 1) h (fun x1 l1 c1 h => vP (i := 9) h (fun x9 h => (conv (by kernel_rfl) h)))

theorem uu_23ok (Q : QT) (E : ET) (τ : Tau) (H : Heap) (h : uu_21_M Q E τ H) : vc Pr uu_p4 τ (uu_q1 Q E) E H :=
  (conv (B := vc Pr uu_p4 τ (uu_q1 Q E) E H) (by kernel_rfl) (vc_seq (K := (uu_17_M Q E)) (uu_22ok Q E τ H h) (uu_20ok Q E)))

@[reducible] noncomputable def uu_q10 (Q : QT) (E : ET) : Exit → Tau → Heap → Prop := (xthen (uu_21_M Q E) (uu_q1 Q E))

@[reducible] noncomputable def uu_p19 : Code := sA uu_p3

def uu_24 (Q : QT) (E : ET) (x1 : OA) (l1 : Nat) (c1 : Nat) (x7 : OA) (H : Heap) : Prop :=
 ptr x7 fun q53 =>
 ∃ (p54 : OA) (l55 c56 : Nat), Heap.rd H q53 0 [(.slice p54 l55 c56)] ∧ Does Pr 78 #[(.agg #[(.slice p54 l55 c56)])] H (fun v57 H58 =>
 ∃ p59 : Option Addr, v57 = (.pointer p59) ∧ uu_21 Q E x1 l1 c1 p59 H58) E

def uu_24_M (Q : QT) (E : ET) (τ : Tau) (H : Heap) : Prop := mSl (τ 1) fun x1 l1 c1 => mP (τ 7) fun x7 => uu_24 Q E x1 l1 c1 x7 H

theorem uu_25ok (Q : QT) (E : ET) (τ : Tau) (H : Heap) (h : uu_24_M Q E τ H) : vc Pr uu_p19 τ (uu_q10 Q E) E H :=
  vSl (i := 1) h (fun x1 l1 c1 h => vP (i := 7) h (fun x7 h => (conv (by kernel_rfl) h)))

theorem uu_26ok (Q : QT) (E : ET) (τ : Tau) (H : Heap) (h : uu_24_M Q E τ H) : vc Pr uu_p3 τ (uu_q1 Q E) E H :=
  (conv (B := vc Pr uu_p3 τ (uu_q1 Q E) E H) (by kernel_rfl) (vc_seq (K := (uu_21_M Q E)) (uu_25ok Q E τ H h) (uu_23ok Q E)))

@[reducible] noncomputable def uu_q11 (Q : QT) (E : ET) : Exit → Tau → Heap → Prop := (xthen (uu_24_M Q E) (uu_q1 Q E))

@[reducible] noncomputable def uu_p20 : Code := sA uu_p2

def uu_27 (Q : QT) (E : ET) (x1 : OA) (l1 : Nat) (c1 : Nat) (x7 : OA) (x8 : Int) (H : Heap) : Prop :=
 sel ((x8 : Int) != 0)
 (Q (.tuple #[(.int .i64 0), (.int .i64 0), (.int .i64 x8)]) H)
 (uu_24 Q E x1 l1 c1 x7 H)

def uu_27_M (Q : QT) (E : ET) (τ : Tau) (H : Heap) : Prop := mSl (τ 1) fun x1 l1 c1 => mP (τ 7) fun x7 => mI .i64 (τ 8) fun x8 => uu_27 Q E x1 l1 c1 x7 x8 H

theorem uu_28ok (Q : QT) (E : ET) (τ : Tau) (H : Heap) (h : uu_27_M Q E τ H) : vc Pr uu_p20 τ (uu_q11 Q E) E H :=
  vSl (i := 1) h (fun x1 l1 c1 h => vP (i := 7) h (fun x7 h => vI (i := 8) h (fun x8 h => (conv (by kernel_rfl) h))))

theorem uu_29ok (Q : QT) (E : ET) (τ : Tau) (H : Heap) (h : uu_27_M Q E τ H) : vc Pr uu_p2 τ (uu_q1 Q E) E H :=
  (conv (B := vc Pr uu_p2 τ (uu_q1 Q E) E H) (by kernel_rfl) (vc_seq (K := (uu_24_M Q E)) (uu_28ok Q E τ H h) (uu_26ok Q E)))

@[reducible] noncomputable def uu_q12 (Q : QT) (E : ET) : Exit → Tau → Heap → Prop := (xthen (uu_27_M Q E) (uu_q1 Q E))

@[reducible] noncomputable def uu_p21 : Code := sA uu_p1

def uu_30 (Q : QT) (E : ET) (x0 : ByteArray) (x1 : OA) (l1 : Nat) (c1 : Nat) (H : Heap) : Prop :=
 Does Pr 77 #[(.string x0)] H (fun v60 H61 =>
 ∃ (p62 : OA) (l63 c64 : Nat), ∃ n65 : Int, v60 = (.tuple #[(.agg #[(.slice p62 l63 c64)]), (.int .i64 n65)]) ∧ nw (.cells #[(.slice none 0 0)] 118 (0, 0)) H61 fun i66 H67 =>
 wr ⟨i66, 0, none⟩ [(.slice p62 l63 c64)] H67 fun H68 =>
 uu_27 Q E x1 l1 c1 (some ⟨i66, 0, none⟩) n65 H68) E

def uu_30_M (Q : QT) (E : ET) (τ : Tau) (H : Heap) : Prop := mS (τ 0) fun x0 => mSl (τ 1) fun x1 l1 c1 => uu_30 Q E x0 x1 l1 c1 H

theorem uu_31ok (Q : QT) (E : ET) (τ : Tau) (H : Heap) (h : uu_30_M Q E τ H) : vc Pr uu_p21 τ (uu_q12 Q E) E H :=
  vS (i := 0) h (fun x0 h => vSl (i := 1) h (fun x1 l1 c1 h => (conv (by kernel_rfl) h)))

theorem uu_32ok (Q : QT) (E : ET) (τ : Tau) (H : Heap) (h : uu_30_M Q E τ H) : vc Pr uu_p1 τ (uu_q1 Q E) E H :=
  (conv (B := vc Pr uu_p1 τ (uu_q1 Q E) E H) (by kernel_rfl) (vc_seq (K := (uu_27_M Q E)) (uu_31ok Q E τ H h) (uu_29ok Q E)))

@[reducible] noncomputable def uu_q13 (Q : QT) (E : ET) : Exit → Tau → Heap → Prop := (xthen (uu_30_M Q E) (uu_q1 Q E))

@[reducible] noncomputable def uu_p22 : Code := sA uu_p0

def uu (Q : QT) (E : ET) (a0 : ByteArray) (a1 : OA) (a1l : Nat) (a1c : Nat) (H : Heap) : Prop :=
 uu_30 Q E a0 a1 a1l a1c H

theorem uu_fn (a0 : ByteArray) (a1 : OA) (a1l : Nat) (a1c : Nat) (Q : QT) (E : ET) (H : Heap) (h : uu Q E a0 a1 a1l a1c H)   : Does Pr 45 #[(.string a0), (.slice a1 a1l a1c)] H Q E :=
  Fn_of_vc (fn := Try.f45) (c := uu_p0) (args := [(.string a0), (.slice a1 a1l a1c)]) mixed (by kernel_rfl) (by kernel_rfl) (by kernel_rfl) (by kernel_rfl) (by kernel_rfl) ((conv (B := vc Pr uu_p0 (argT [(.string a0), (.slice a1 a1l a1c)]) (uu_q1 Q E) E H) (by kernel_rfl) (vc_seq (K := (uu_30_M Q E)) (conv (B := vc Pr uu_p22 (argT [(.string a0), (.slice a1 a1l a1c)]) (uu_q13 Q E) E H) (by kernel_rfl) h) (uu_32ok Q E))))

/-! jobmux/matcher.New -/
@[reducible] noncomputable def uv_q1 (Q : QT) (E : ET) : Exit → Tau → Heap → Prop := (retQ Pr (Try.f77).results.toList Q)

@[reducible] noncomputable def uv_p0 : Code := bodyOf Try.f77

@[reducible] noncomputable def uv_p1 : Code := sB uv_p0

@[reducible] noncomputable def uv_p2 : Code := sB uv_p1

@[reducible] noncomputable def uv_p3 : Code := sB uv_p2

def uv_1 (Q : QT) (E : ET) (x2 : OA) (x4 : OA) (l4 : Nat) (c4 : Nat) (H : Heap) : Prop :=
 Does Pr 33 #[(.slice x4 l4 c4)] H (fun v10 H11 =>
 ∃ (p12 : OA) (l13 c14 : Nat), ∃ n15 : Int, v10 = (.tuple #[(.slice p12 l13 c14), (.int .i64 n15)]) ∧ ptr x2 fun q17 =>
 wr q17 [(.slice p12 l13 c14)] H11 fun H16 =>
 ptr x2 fun q18 =>
 ∃ (p19 : OA) (l20 c21 : Nat), Heap.rd H16 q18 0 [(.slice p19 l20 c21)] ∧ Q (.tuple #[(.agg #[(.slice p19 l20 c21)]), (.int .i64 n15)]) H16) E

def uv_1_M (Q : QT) (E : ET) (τ : Tau) (H : Heap) : Prop := mP (τ 2) fun x2 => mSl (τ 4) fun x4 l4 c4 => uv_1 Q E x2 x4 l4 c4 H

theorem uv_2ok (Q : QT) (E : ET) (τ : Tau) (H : Heap) (h : uv_1_M Q E τ H) : vc Pr uv_p3 τ (uv_q1 Q E) E H :=
  vP (i := 2) h (fun x2 h => vSl (i := 4) h (fun x4 l4 c4 h => (conv (by kernel_rfl) h)))

@[reducible] noncomputable def uv_q2 (Q : QT) (E : ET) : Exit → Tau → Heap → Prop := (xthen (uv_1_M Q E) (uv_q1 Q E))

@[reducible] noncomputable def uv_p4 : Code := sA uv_p2

def uv_3 (Q : QT) (E : ET) (x2 : OA) (x4 : OA) (l4 : Nat) (c4 : Nat) (x5 : Int) (H : Heap) : Prop :=
 sel ((x5 : Int) != 0)
 (ptr x2 fun q23 =>
 wr q23 [(.slice none 0 0)] H fun H22 =>
 ptr x2 fun q24 =>
 ∃ (p25 : OA) (l26 c27 : Nat), Heap.rd H22 q24 0 [(.slice p25 l26 c27)] ∧ Q (.tuple #[(.agg #[(.slice p25 l26 c27)]), (.int .i64 x5)]) H22)
 (uv_1 Q E x2 x4 l4 c4 H)

def uv_3_M (Q : QT) (E : ET) (τ : Tau) (H : Heap) : Prop := mP (τ 2) fun x2 => mSl (τ 4) fun x4 l4 c4 => mI .i64 (τ 5) fun x5 => uv_3 Q E x2 x4 l4 c4 x5 H

theorem uv_4ok (Q : QT) (E : ET) (τ : Tau) (H : Heap) (h : uv_3_M Q E τ H) : vc Pr uv_p4 τ (uv_q2 Q E) E H :=
  vP (i := 2) h (fun x2 h => vSl (i := 4) h (fun x4 l4 c4 h => vI (i := 5) h (fun x5 h => (conv (by kernel_rfl) h))))

theorem uv_5ok (Q : QT) (E : ET) (τ : Tau) (H : Heap) (h : uv_3_M Q E τ H) : vc Pr uv_p2 τ (uv_q1 Q E) E H :=
  (conv (B := vc Pr uv_p2 τ (uv_q1 Q E) E H) (by kernel_rfl) (vc_seq (K := (uv_1_M Q E)) (uv_4ok Q E τ H h) (uv_2ok Q E)))

@[reducible] noncomputable def uv_q3 (Q : QT) (E : ET) : Exit → Tau → Heap → Prop := (xthen (uv_3_M Q E) (uv_q1 Q E))

@[reducible] noncomputable def uv_p5 : Code := sA uv_p1

def uv_6 (Q : QT) (E : ET) (x0 : ByteArray) (x2 : OA) (H : Heap) : Prop :=
 Does Pr 28 #[(.string x0)] H (fun v28 H29 =>
 ∃ (p30 : OA) (l31 c32 : Nat), ∃ n33 : Int, v28 = (.tuple #[(.slice p30 l31 c32), (.int .i64 n33)]) ∧ uv_3 Q E x2 p30 l31 c32 n33 H29) E

def uv_6_M (Q : QT) (E : ET) (τ : Tau) (H : Heap) : Prop := mS (τ 0) fun x0 => mP (τ 2) fun x2 => uv_6 Q E x0 x2 H

theorem uv_7ok (Q : QT) (E : ET) (τ : Tau) (H : Heap) (h : uv_6_M Q E τ H) : vc Pr uv_p5 τ (uv_q3 Q E) E H :=
  vS (i := 0) h (fun x0 h => vP (i := 2) h (fun x2 h => (conv (by kernel_rfl) h)))

theorem uv_8ok (Q : QT) (E : ET) (τ : Tau) (H : Heap) (h : uv_6_M Q E τ H) : vc Pr uv_p1 τ (uv_q1 Q E) E H :=
  (conv (B := vc Pr uv_p1 τ (uv_q1 Q E) E H) (by kernel_rfl) (vc_seq (K := (uv_3_M Q E)) (uv_7ok Q E τ H h) (uv_5ok Q E)))

@[reducible] noncomputable def uv_q4 (Q : QT) (E : ET) : Exit → Tau → Heap → Prop := (xthen (uv_6_M Q E) (uv_q1 Q E))

@[reducible] noncomputable def uv_p6 : Code := sA uv_p0

def uv (Q : QT) (E : ET) (a0 : ByteArray) (H : Heap) : Prop :=
 nw (.cells #[(.slice none 0 0)] 118 (0, 0)) H fun i34 H35 =>
 uv_6 Q E a0 (some ⟨i34, 0, none⟩) H35

theorem uv_fn (a0 : ByteArray) (Q : QT) (E : ET) (H : Heap) (h : uv Q E a0 H)   : Does Pr 77 #[(.string a0)] H Q E :=
  Fn_of_vc (fn := Try.f77) (c := uv_p0) (args := [(.string a0)]) mixed (by kernel_rfl) (by kernel_rfl) (by kernel_rfl) (by kernel_rfl) (by kernel_rfl) ((conv (B := vc Pr uv_p0 (argT [(.string a0)]) (uv_q1 Q E) E H) (by kernel_rfl) (vc_seq (K := (uv_6_M Q E)) (conv (B := vc Pr uv_p6 (argT [(.string a0)]) (uv_q4 Q E) E H) (by kernel_rfl) h) (uv_8ok Q E))))

/-! (jobmux/matcher.Matcher).Begin -/
@[reducible] noncomputable def uw_q1 (Q : QT) (E : ET) : Exit → Tau → Heap → Prop := (retQ Pr (Try.f78).results.toList Q)

@[reducible] noncomputable def uw_p0 : Code := bodyOf Try.f78

def uw (Q : QT) (E : ET) (a0_0 : OA) (a0_0l : Nat) (a0_0c : Nat) (H : Heap) : Prop :=
 nw (.cells #[(.slice a0_0 a0_0l a0_0c)] 118 (0, 0)) H fun i1 H2 =>
 ldSl ⟨i1, 0, none⟩ H2 fun p3 l4 c5 =>
 Does Pr 50 #[(.slice p3 l4 c5), (.bool false), (.bool true)] H2 (fun v6 H7 =>
 ∃ p8 : Option Addr, v6 = (.pointer p8) ∧ Q (.pointer p8) H7) E

theorem uw_fn (a0_0 : OA) (a0_0l : Nat) (a0_0c : Nat) (Q : QT) (E : ET) (H : Heap) (h : uw Q E a0_0 a0_0l a0_0c H)   : Does Pr 78 #[(.agg #[(.slice a0_0 a0_0l a0_0c)])] H Q E :=
  Fn_of_vc (fn := Try.f78) (c := uw_p0) (args := [(.agg #[(.slice a0_0 a0_0l a0_0c)])]) mixed (by kernel_rfl) (by kernel_rfl) (by kernel_rfl) (by kernel_rfl) (by kernel_rfl) ((conv (B := vc Pr uw_p0 (argT [(.agg #[(.slice a0_0 a0_0l a0_0c)])]) (uw_q1 Q E) E H) (by kernel_rfl) h))

end Go.Proofs.Ytaffcoiomggpfaa
