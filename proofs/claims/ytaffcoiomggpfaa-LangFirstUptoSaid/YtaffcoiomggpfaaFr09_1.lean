import Derived.Test.YtaffcoiomggpfaaVPr
/- Printed by gen.py: the Go functions of package r09 over a heap view, and that the model does so. -/
namespace Go.Proofs.Ytaffcoiomggpfaa
open Go.V
set_option linter.unusedVariables false
set_option maxRecDepth 100000
/-! jobmux/jobmuxref09.First -/
@[reducible] noncomputable def zqt1_q1 (Q : QT) (E : ET) : Exit → Tau → Heap → Prop := (retQ Pr (Try.f20).results.toList Q)

@[reducible] noncomputable def zqt1_p0 : Code := bodyOf Try.f20

@[reducible] noncomputable def zqt1_p1 : Code := sB zqt1_p0

@[reducible] noncomputable def zqt1_p2 : Code := sB zqt1_p1

@[reducible] noncomputable def zqt1_p3 : Code := sB zqt1_p2

def zqt1_1 (Q : QT) (E : ET)  (H : Heap) : Prop :=
 Q (.int .i64 (-1)) H

def zqt1_1_M (Q : QT) (E : ET) (τ : Tau) (H : Heap) : Prop := zqt1_1 Q E  H

theorem zqt1_2ok (Q : QT) (E : ET) (τ : Tau) (H : Heap) (h : zqt1_1_M Q E τ H) : vc Pr zqt1_p3 τ (zqt1_q1 Q E) E H :=
  (conv (B := vc Pr zqt1_p3 τ (zqt1_q1 Q E) E H) (by kernel_rfl) h)

@[reducible] noncomputable def zqt1_q2 (Q : QT) (E : ET) : Exit → Tau → Heap → Prop := (xthen (zqt1_1_M Q E) (zqt1_q1 Q E))

@[reducible] noncomputable def zqt1_p4 : Code := sA zqt1_p2

@[reducible] noncomputable def zqt1_p5 : Code := sB zqt1_p4

@[reducible] noncomputable def zqt1_q3 (Q : QT) (E : ET) : Exit → Tau → Heap → Prop := (xblock 0 (zqt1_q2 Q E))

@[reducible] noncomputable def zqt1_p6 : Code := sI zqt1_p5

@[reducible] noncomputable def zqt1_q4 (nx12 : Int → HP) (Q : QT) (E : ET) : Exit → Tau → Heap → Prop := (xthen (fun τ H => mI .i64 (τ 5) fun x5' => nx12 x5' H) (zqt1_q3 Q E))

@[reducible] noncomputable def zqt1_p7 : Code := sI zqt1_p6

@[reducible] noncomputable def zqt1_p8 : Code := sB zqt1_p7

@[reducible] noncomputable def zqt1_p9 : Code := sB zqt1_p8

def zqt1_3 (nx12 : Int → HP) (Q : QT) (E : ET) (x0 : OA) (l0 : Nat) (c0 : Nat) (x1 : OA) (l1 : Nat) (c1 : Nat) (x5 : Int) (H : Heap) : Prop :=
 nx12 (IntKind.wrap .i64 (x5 + 1)) H

def zqt1_3_M (nx12 : Int → HP) (Q : QT) (E : ET) (τ : Tau) (H : Heap) : Prop := mSl (τ 0) fun x0 l0 c0 => mSl (τ 1) fun x1 l1 c1 => mI .i64 (τ 5) fun x5 => zqt1_3 nx12 Q E x0 l0 c0 x1 l1 c1 x5 H

theorem zqt1_4ok (nx12 : Int → HP) (Q : QT) (E : ET) (τ : Tau) (H : Heap) (h : zqt1_3_M nx12 Q E τ H) : vc Pr zqt1_p9 τ (zqt1_q4 nx12 Q E) E H :=
  vSl (i := 0) h (fun x0 l0 c0 h => vSl (i := 1) h (fun x1 l1 c1 h => vI (i := 5) h (fun x5 h => (conv (by kernel_rfl) h))))

@[reducible] noncomputable def zqt1_q5 (nx12 : Int → HP) (Q : QT) (E : ET) : Exit → Tau → Heap → Prop := (xthen (zqt1_3_M nx12 Q E) (zqt1_q4 nx12 Q E))

@[reducible] noncomputable def zqt1_p10 : Code := sA zqt1_p8

def zqt1_5 (nx12 : Int → HP) (Q : QT) (E : ET) (x0 : OA) (l0 : Nat) (c0 : Nat) (x1 : OA) (l1 : Nat) (c1 : Nat) (x5 : Int) (H : Heap) : Prop :=
 (0 ≤ (x5 : Int) ∧ (x5 : Int) ≤ ((c1 : Nat) : Int)) ∧ Does Pr 55 #[(.slice x0 l0 c0), (.slice (if c1 = 0 then x1 else Option.map (fun a => Addr.add a (0 * 1)) x1) ((x5 : Int).toNat - 0) (c1 - 0))] H (fun v21 H22 =>
 ∃ (p23 : OA) (l24 c25 : Nat), v21 = (.slice p23 l24 c25) ∧ Does Pr 54 #[(.slice p23 l24 c25)] H22 (fun v26 H27 =>
 ∃ b28 : Bool, v26 = (.bool b28) ∧ sel b28
 (Q (.int .i64 x5) H27)
 (zqt1_3 nx12 Q E x0 l0 c0 x1 l1 c1 x5 H27)) E) E

def zqt1_5_M (nx12 : Int → HP) (Q : QT) (E : ET) (τ : Tau) (H : Heap) : Prop := mSl (τ 0) fun x0 l0 c0 => mSl (τ 1) fun x1 l1 c1 => mI .i64 (τ 5) fun x5 => zqt1_5 nx12 Q E x0 l0 c0 x1 l1 c1 x5 H

theorem zqt1_6ok (nx12 : Int → HP) (Q : QT) (E : ET) (τ : Tau) (H : Heap) (h : zqt1_5_M nx12 Q E τ H) : vc Pr zqt1_p10 τ (zqt1_q5 nx12 Q E) E H :=
  vSl (i := 0) h (fun x0 l0 c0 h => vSl (i := 1) h (fun x1 l1 c1 h => vI (i := 5) h (fun x5 h => (conv (by kernel_rfl) h))))

theorem zqt1_7ok (nx12 : Int → HP) (Q : QT) (E : ET) (τ : Tau) (H : Heap) (h : zqt1_5_M nx12 Q E τ H) : vc Pr zqt1_p8 τ (zqt1_q4 nx12 Q E) E H :=
  (conv (B := vc Pr zqt1_p8 τ (zqt1_q4 nx12 Q E) E H) (by kernel_rfl) (vc_seq (K := (zqt1_3_M nx12 Q E)) (zqt1_6ok nx12 Q E τ H h) (zqt1_4ok nx12 Q E)))

@[reducible] noncomputable def zqt1_q6 (nx12 : Int → HP) (Q : QT) (E : ET) : Exit → Tau → Heap → Prop := (xthen (zqt1_5_M nx12 Q E) (zqt1_q4 nx12 Q E))

@[reducible] noncomputable def zqt1_p11 : Code := sA zqt1_p7

def zqt1_8 (nx12 : Int → HP) (Q : QT) (E : ET) (x0 : OA) (l0 : Nat) (c0 : Nat) (x1 : OA) (l1 : Nat) (c1 : Nat) (x5 : Int) (H : Heap) : Prop :=
 sel (decide ((x5 : Int) ≤ ((l1 : Nat) : Int)))
 (zqt1_5 nx12 Q E x0 l0 c0 x1 l1 c1 x5 H)
 (zqt1_1 Q E  H)

def zqt1_8_M (nx12 : Int → HP) (Q : QT) (E : ET) (τ : Tau) (H : Heap) : Prop := mSl (τ 0) fun x0 l0 c0 => mSl (τ 1) fun x1 l1 c1 => mI .i64 (τ 5) fun x5 => zqt1_8 nx12 Q E x0 l0 c0 x1 l1 c1 x5 H

theorem zqt1_9ok (nx12 : Int → HP) (Q : QT) (E : ET) (τ : Tau) (H : Heap) (h : zqt1_8_M nx12 Q E τ H) : vc Pr zqt1_p11 τ (zqt1_q6 nx12 Q E) E H :=
  vSl (i := 0) h (fun x0 l0 c0 h => vSl (i := 1) h (fun x1 l1 c1 h => vI (i := 5) h (fun x5 h => (conv (by kernel_rfl) h))))

theorem zqt1_10ok (nx12 : Int → HP) (Q : QT) (E : ET) (τ : Tau) (H : Heap) (h : zqt1_8_M nx12 Q E τ H) : vc Pr zqt1_p7 τ (zqt1_q4 nx12 Q E) E H :=
  (conv (B := vc Pr zqt1_p7 τ (zqt1_q4 nx12 Q E) E H) (by kernel_rfl) (vc_seq (K := (zqt1_5_M nx12 Q E)) (zqt1_9ok nx12 Q E τ H h) (zqt1_7ok nx12 Q E)))

def zqt1_11 (Q : QT) (E : ET) (x0 : OA) (l0 : Nat) (c0 : Nat) (x1 : OA) (l1 : Nat) (c1 : Nat) (x5 : Int) (H : Heap) : Prop :=
 ∃ (I : Int → HP) (μ : Int → Heap → Nat), I x5 H ∧ ∀ (x5 : Int) (H : Heap), I x5 H →
 zqt1_8 (fun x5' H1 => I x5' H1 ∧ μ x5' H1 < μ x5 H) Q E x0 l0 c0 x1 l1 c1 x5 H

def zqt1_11_M (Q : QT) (E : ET) (τ : Tau) (H : Heap) : Prop := mSl (τ 0) fun x0 l0 c0 => mSl (τ 1) fun x1 l1 c1 => mI .i64 (τ 5) fun x5 => zqt1_11 Q E x0 l0 c0 x1 l1 c1 x5 H

theorem zqt1_12ok (Q : QT) (E : ET) (τ : Tau) (H : Heap) (h : zqt1_11_M Q E τ H) : vc Pr zqt1_p6 τ (zqt1_q3 Q E) E H :=
  vSl (i := 0) h (fun x0 l0 c0 h => vSl (i := 1) h (fun x1 l1 c1 h => vI (i := 5) h (fun x5 h => match h with | ⟨I, μ, h0, hr⟩ => (conv (B := vc Pr zqt1_p6 (Tau.upd (Tau.upd (Tau.upd τ 0 (.slice x0 l0 c0)) 1 (.slice x1 l1 c1)) 5 (.int .i64 x5)) (zqt1_q3 Q E) E H) (by kernel_rfl) (vc_loop (c := sI zqt1_p6) (τ := (Tau.upd (Tau.upd (Tau.upd τ 0 (.slice x0 l0 c0)) 1 (.slice x1 l1 c1)) 5 (.int .i64 x5))) [0, 1] (fun τ H => mI .i64 (τ 5) fun x5' => I x5' H) (fun τ H => μ (gI (τ 5)) H) (by kernel_rfl) h0 (fun τ1 H1 hf hI => fix_elim (τ := τ1) (i := 0) (v := (.slice x0 l0 c0)) (G := fun τ => vc Pr (sI zqt1_p6) τ (xthen (fun τ2 H2 => (mI .i64 (τ2 5) fun x5' => I x5' H2) ∧ μ (gI (τ2 5)) H2 < μ (gI (τ 5)) H1) (zqt1_q3 Q E)) E H1) (hf 0 (by simp)) (fix_elim (τ := (Tau.upd τ1 0 (.slice x0 l0 c0))) (i := 1) (v := (.slice x1 l1 c1)) (G := fun τ => vc Pr (sI zqt1_p6) τ (xthen (fun τ2 H2 => (mI .i64 (τ2 5) fun x5' => I x5' H2) ∧ μ (gI (τ2 5)) H2 < μ (gI (τ 5)) H1) (zqt1_q3 Q E)) E H1) (hf 1 (by simp)) (mI_elim (i := 5) (G := fun τ => vc Pr (sI zqt1_p6) τ (xthen (fun τ2 H2 => (mI .i64 (τ2 5) fun x5' => I x5' H2) ∧ μ (gI (τ2 5)) H2 < μ (gI (τ 5)) H1) (zqt1_q3 Q E)) E H1) hI (fun x5r h => (conv (B := vc Pr (sI zqt1_p6) (Tau.upd (Tau.upd (Tau.upd τ1 0 (.slice x0 l0 c0)) 1 (.slice x1 l1 c1)) 5 (.int .i64 x5r)) (xthen (fun τ2 H2 => (mI .i64 (τ2 5) fun x5' => I x5' H2) ∧ μ (gI (τ2 5)) H2 < μ (gI ((Tau.upd (Tau.upd (Tau.upd τ1 0 (.slice x0 l0 c0)) 1 (.slice x1 l1 c1)) 5 (.int .i64 x5r)) 5)) H1) (zqt1_q3 Q E)) E H1) (by kernel_rfl) (vc_xthen (zqt1_10ok (fun x5' H2 => I x5' H2 ∧ μ x5' H2 < μ x5r H1) Q E (Tau.upd (Tau.upd (Tau.upd τ1 0 (.slice x0 l0 c0)) 1 (.slice x1 l1 c1)) 5 (.int .i64 x5r)) H1 (conv (B := zqt1_8_M (fun x5' H2 => I x5' H2 ∧ μ x5' H2 < μ x5r H1) Q E (Tau.upd (Tau.upd (Tau.upd τ1 0 (.slice x0 l0 c0)) 1 (.slice x1 l1 c1)) 5 (.int .i64 x5r)) H1) (by kernel_rfl) (hr x5r H1 h))) (fun τ2 H2 hk => mI_elim (i := 5) (G := fun τ => (mI .i64 (τ 5) fun x5' => I x5' H2) ∧ μ (gI (τ 5)) H2 < μ x5r H1) hk (fun x5' h => h)))))))))))))

theorem zqt1_13ok (Q : QT) (E : ET) (τ : Tau) (H : Heap) (h : zqt1_11_M Q E τ H) : vc Pr zqt1_p5 τ (zqt1_q2 Q E) E H :=
  (conv (B := vc Pr zqt1_p5 τ (zqt1_q2 Q E) E H) (by kernel_rfl) (zqt1_12ok Q E τ H h))

@[reducible] noncomputable def zqt1_q7 (Q : QT) (E : ET) : Exit → Tau → Heap → Prop := (xthen (zqt1_11_M Q E) (zqt1_q2 Q E))

@[reducible] noncomputable def zqt1_p12 : Code := sA zqt1_p4

def zqt1_14 (Q : QT) (E : ET) (x0 : OA) (l0 : Nat) (c0 : Nat) (x1 : OA) (l1 : Nat) (c1 : Nat) (H : Heap) : Prop :=
 zqt1_11 Q E x0 l0 c0 x1 l1 c1 0 H

def zqt1_14_M (Q : QT) (E : ET) (τ : Tau) (H : Heap) : Prop := mSl (τ 0) fun x0 l0 c0 => mSl (τ 1) fun x1 l1 c1 => zqt1_14 Q E x0 l0 c0 x1 l1 c1 H

theorem zqt1_15ok (Q : QT) (E : ET) (τ : Tau) (H : Heap) (h : zqt1_14_M Q E τ H) : vc Pr zqt1_p12 τ (zqt1_q7 Q E) E H :=
  vSl (i := 0) h (fun x0 l0 c0 h => vSl (i := 1) h (fun x1 l1 c1 h => (conv (by kernel_rfl) h)))

theorem zqt1_16ok (Q : QT) (E : ET) (τ : Tau) (H : Heap) (h : zqt1_14_M Q E τ H) : vc Pr zqt1_p4 τ (zqt1_q2 Q E) E H :=
  (conv (B := vc Pr zqt1_p4 τ (zqt1_q2 Q E) E H) (by kernel_rfl) (vc_seq (K := (zqt1_11_M Q E)) (zqt1_15ok Q E τ H h) (zqt1_13ok Q E)))

theorem zqt1_17ok (Q : QT) (E : ET) (τ : Tau) (H : Heap) (h : zqt1_14_M Q E τ H) : vc Pr zqt1_p2 τ (zqt1_q1 Q E) E H :=
  (conv (B := vc Pr zqt1_p2 τ (zqt1_q1 Q E) E H) (by kernel_rfl) (vc_seq (K := (zqt1_1_M Q E)) (zqt1_16ok Q E τ H h) (zqt1_2ok Q E)))

@[reducible] noncomputable def zqt1_q8 (Q : QT) (E : ET) : Exit → Tau → Heap → Prop := (xthen (zqt1_14_M Q E) (zqt1_q1 Q E))

@[reducible] noncomputable def zqt1_p13 : Code := sA zqt1_p1

def zqt1_18 (Q : QT) (E : ET) (x0 : OA) (l0 : Nat) (c0 : Nat) (x1 : OA) (l1 : Nat) (c1 : Nat) (H : Heap) : Prop :=
 Does Pr 41 #[(.slice x0 l0 c0)] H (fun v29 H30 =>
 ∃ b31 : Bool, v29 = (.bool b31) ∧ sel (!b31)
 (Q (.int .i64 (-1)) H30)
 (zqt1_14 Q E x0 l0 c0 x1 l1 c1 H30)) E

def zqt1_18_M (Q : QT) (E : ET) (τ : Tau) (H : Heap) : Prop := mSl (τ 0) fun x0 l0 c0 => mSl (τ 1) fun x1 l1 c1 => zqt1_18 Q E x0 l0 c0 x1 l1 c1 H

theorem zqt1_19ok (Q : QT) (E : ET) (τ : Tau) (H : Heap) (h : zqt1_18_M Q E τ H) : vc Pr zqt1_p13 τ (zqt1_q8 Q E) E H :=
  vSl (i := 0) h (fun x0 l0 c0 h => vSl (i := 1) h (fun x1 l1 c1 h => (conv (by kernel_rfl) h)))

theorem zqt1_20ok (Q : QT) (E : ET) (τ : Tau) (H : Heap) (h : zqt1_18_M Q E τ H) : vc Pr zqt1_p1 τ (zqt1_q1 Q E) E H :=
  (conv (B := vc Pr zqt1_p1 τ (zqt1_q1 Q E) E H) (by kernel_rfl) (vc_seq (K := (zqt1_14_M Q E)) (zqt1_19ok Q E τ H h) (zqt1_17ok Q E)))

@[reducible] noncomputable def zqt1_q9 (Q : QT) (E : ET) : Exit → Tau → Heap → Prop := (xthen (zqt1_18_M Q E) (zqt1_q1 Q E))

@[reducible] noncomputable def zqt1_p14 : Code := sA zqt1_p0

def zqt1 (Q : QT) (E : ET) (a0 : OA) (a0l : Nat) (a0c : Nat) (a1 : OA) (a1l : Nat) (a1c : Nat) (H : Heap) : Prop :=
 zqt1_18 Q E a0 a0l a0c a1 a1l a1c H

theorem zqt1_fn (a0 : OA) (a0l : Nat) (a0c : Nat) (a1 : OA) (a1l : Nat) (a1c : Nat) (Q : QT) (E : ET) (H : Heap) (h : zqt1 Q E a0 a0l a0c a1 a1l a1c H)   : Does Pr 20 #[(.slice a0 a0l a0c), (.slice a1 a1l a1c)] H Q E :=
  Fn_of_vc (fn := Try.f20) (c := zqt1_p0) (args := [(.slice a0 a0l a0c), (.slice a1 a1l a1c)]) mixed (by kernel_rfl) (by kernel_rfl) (by kernel_rfl) (by kernel_rfl) (by kernel_rfl) ((conv (B := vc Pr zqt1_p0 (argT [(.slice a0 a0l a0c), (.slice a1 a1l a1c)]) (zqt1_q1 Q E) E H) (by kernel_rfl) (vc_seq (K := (zqt1_18_M Q E)) (conv (B := vc Pr zqt1_p14 (argT [(.slice a0 a0l a0c), (.slice a1 a1l a1c)]) (zqt1_q9 Q E) E H) (by kernel_rfl) h) (zqt1_20ok Q E))))

/-! jobmux/jobmuxref09.some -/
@[reducible] noncomputable def zqu1_q1 (Q : QT) (E : ET) : Exit → Tau → Heap → Prop := (retQ Pr (Try.f54).results.toList Q)

@[reducible] noncomputable def zqu1_p0 : Code := bodyOf Try.f54

@[reducible] noncomputable def zqu1_p1 : Code := sB zqu1_p0

@[reducible] noncomputable def zqu1_p2 : Code := sB zqu1_p1

def zqu1_1 (Q : QT) (E : ET)  (H : Heap) : Prop :=
 Q (.bool false) H

def zqu1_1_M (Q : QT) (E : ET) (τ : Tau) (H : Heap) : Prop := zqu1_1 Q E  H

theorem zqu1_2ok (Q : QT) (E : ET) (τ : Tau) (H : Heap) (h : zqu1_1_M Q E τ H) : vc Pr zqu1_p2 τ (zqu1_q1 Q E) E H :=
  (conv (B := vc Pr zqu1_p2 τ (zqu1_q1 Q E) E H) (by kernel_rfl) h)

@[reducible] noncomputable def zqu1_q2 (Q : QT) (E : ET) : Exit → Tau → Heap → Prop := (xthen (zqu1_1_M Q E) (zqu1_q1 Q E))

@[reducible] noncomputable def zqu1_p3 : Code := sA zqu1_p1

@[reducible] noncomputable def zqu1_p4 : Code := sB zqu1_p3

@[reducible] noncomputable def zqu1_q3 (Q : QT) (E : ET) : Exit → Tau → Heap → Prop := (xblock 0 (zqu1_q2 Q E))

@[reducible] noncomputable def zqu1_p5 : Code := sI zqu1_p4

@[reducible] noncomputable def zqu1_q4 (nx7 : Int → HP) (Q : QT) (E : ET) : Exit → Tau → Heap → Prop := (xthen (fun τ H => mI .i64 (τ 3) fun x3' => nx7 x3' H) (zqu1_q3 Q E))

@[reducible] noncomputable def zqu1_p6 : Code := sI zqu1_p5

@[reducible] noncomputable def zqu1_p7 : Code := sB zqu1_p6

@[reducible] noncomputable def zqu1_p8 : Code := sB zqu1_p7

def zqu1_3 (nx7 : Int → HP) (Q : QT) (E : ET) (x0 : OA) (l0 : Nat) (c0 : Nat) (x3 : Int) (H : Heap) : Prop :=
 nx7 (IntKind.wrap .i64 (x3 + 1)) H

def zqu1_3_M (nx7 : Int → HP) (Q : QT) (E : ET) (τ : Tau) (H : Heap) : Prop := mSl (τ 0) fun x0 l0 c0 => mI .i64 (τ 3) fun x3 => zqu1_3 nx7 Q E x0 l0 c0 x3 H

theorem zqu1_4ok (nx7 : Int → HP) (Q : QT) (E : ET) (τ : Tau) (H : Heap) (h : zqu1_3_M nx7 Q E τ H) : vc Pr zqu1_p8 τ (zqu1_q4 nx7 Q E) E H :=
  vSl (i := 0) h (fun x0 l0 c0 h => vI (i := 3) h (fun x3 h => (conv (by kernel_rfl) h)))

@[reducible] noncomputable def zqu1_q5 (nx7 : Int → HP) (Q : QT) (E : ET) : Exit → Tau → Heap → Prop := (xthen (zqu1_3_M nx7 Q E) (zqu1_q4 nx7 Q E))

@[reducible] noncomputable def zqu1_p9 : Code := sA zqu1_p7

@[reducible] noncomputable def zqu1_q6 (nx7 : Int → HP) (Q : QT) (E : ET) : Exit → Tau → Heap → Prop := (xblock 1 (zqu1_q5 nx7 Q E))

@[reducible] noncomputable def zqu1_p10 : Code := sI zqu1_p9

@[reducible] noncomputable def zqu1_p11 : Code := sB zqu1_p10

@[reducible] noncomputable def zqu1_q7 (nx7 : Int → HP) (Q : QT) (E : ET) : Exit → Tau → Heap → Prop := (xblock 2 (zqu1_q6 nx7 Q E))

@[reducible] noncomputable def zqu1_p12 : Code := sI zqu1_p11

@[reducible] noncomputable def zqu1_q8 (nx7 : Int → HP) (nx14 : Int → HP) (Q : QT) (E : ET) : Exit → Tau → Heap → Prop := (xthen (fun τ H => mI .i64 (τ 4) fun x4' => nx14 x4' H) (zqu1_q7 nx7 Q E))

@[reducible] noncomputable def zqu1_p13 : Code := sI zqu1_p12

@[reducible] noncomputable def zqu1_p14 : Code := sB zqu1_p13

@[reducible] noncomputable def zqu1_p15 : Code := sB zqu1_p14

def zqu1_5 (nx7 : Int → HP) (nx14 : Int → HP) (Q : QT) (E : ET) (x0 : OA) (l0 : Nat) (c0 : Nat) (x3 : Int) (x4 : Int) (H : Heap) : Prop :=
 nx14 (IntKind.wrap .i64 (x4 + 1)) H

def zqu1_5_M (nx7 : Int → HP) (nx14 : Int → HP) (Q : QT) (E : ET) (τ : Tau) (H : Heap) : Prop := mSl (τ 0) fun x0 l0 c0 => mI .i64 (τ 3) fun x3 => mI .i64 (τ 4) fun x4 => zqu1_5 nx7 nx14 Q E x0 l0 c0 x3 x4 H

theorem zqu1_6ok (nx7 : Int → HP) (nx14 : Int → HP) (Q : QT) (E : ET) (τ : Tau) (H : Heap) (h : zqu1_5_M nx7 nx14 Q E τ H) : vc Pr zqu1_p15 τ (zqu1_q8 nx7 nx14 Q E) E H :=
  vSl (i := 0) h (fun x0 l0 c0 h => vI (i := 3) h (fun x3 h => vI (i := 4) h (fun x4 h => (conv (by kernel_rfl) h))))

@[reducible] noncomputable def zqu1_q9 (nx7 : Int → HP) (nx14 : Int → HP) (Q : QT) (E : ET) : Exit → Tau → Heap → Prop := (xthen (zqu1_5_M nx7 nx14 Q E) (zqu1_q8 nx7 nx14 Q E))

@[reducible] noncomputable def zqu1_p16 : Code := sA zqu1_p14

def zqu1_7 (nx7 : Int → HP) (nx14 : Int → HP) (Q : QT) (E : ET) (x0 : OA) (l0 : Nat) (c0 : Nat) (x3 : Int) (x4 : Int) (H : Heap) : Prop :=
 (0 ≤ (x3 : Int) ∧ (x3 : Int) < ((l0 : Nat) : Int)) ∧ ptr x0 fun q21 =>
 ldSl (Addr.add q21 ((x3 : Int).toNat * 1)) H fun p22 l23 c24 =>
 (0 ≤ (x4 : Int) ∧ (x4 : Int) < ((l23 : Nat) : Int)) ∧ ptr p22 fun q25 =>
 ldB (Addr.add q25 ((x4 : Int).toNat * 1)) H fun b26 =>
 sel b26
 (Q (.bool true) H)
 (zqu1_5 nx7 nx14 Q E x0 l0 c0 x3 x4 H)

def zqu1_7_M (nx7 : Int → HP) (nx14 : Int → HP) (Q : QT) (E : ET) (τ : Tau) (H : Heap) : Prop := mSl (τ 0) fun x0 l0 c0 => mI .i64 (τ 3) fun x3 => mI .i64 (τ 4) fun x4 => zqu1_7 nx7 nx14 Q E x0 l0 c0 x3 x4 H

theorem zqu1_8ok (nx7 : Int → HP) (nx14 : Int → HP) (Q : QT) (E : ET) (τ : Tau) (H : Heap) (h : zqu1_7_M nx7 nx14 Q E τ H) : vc Pr zqu1_p16 τ (zqu1_q9 nx7 nx14 Q E) E H :=
  vSl (i := 0) h (fun x0 l0 c0 h => vI (i := 3) h (fun x3 h => vI (i := 4) h (fun x4 h => (conv (by kernel_rfl) h))))

theorem zqu1_9ok (nx7 : Int → HP) (nx14 : Int → HP) (Q : QT) (E : ET) (τ : Tau) (H : Heap) (h : zqu1_7_M nx7 nx14 Q E τ H) : vc Pr zqu1_p14 τ (zqu1_q8 nx7 nx14 Q E) E H :=
  (conv (B := vc Pr zqu1_p14 τ (zqu1_q8 nx7 nx14 Q E) E H) (by kernel_rfl) (vc_seq (K := (zqu1_5_M nx7 nx14 Q E)) (zqu1_8ok nx7 nx14 Q E τ H h) (zqu1_6ok nx7 nx14 Q E)))

@[reducible] noncomputable def zqu1_q10 (nx7 : Int → HP) (nx14 : Int → HP) (Q : QT) (E : ET) : Exit → Tau → Heap → Prop := (xthen (zqu1_7_M nx7 nx14 Q E) (zqu1_q8 nx7 nx14 Q E))

@[reducible] noncomputable def zqu1_p17 : Code := sA zqu1_p13

def zqu1_10 (nx7 : Int → HP) (nx14 : Int → HP) (Q : QT) (E : ET) (x0 : OA) (l0 : Nat) (c0 : Nat) (x3 : Int) (x4 : Int) (H : Heap) : Prop :=
 sel (decide ((x4 : Int) < ((l0 : Nat) : Int)))
 (zqu1_7 nx7 nx14 Q E x0 l0 c0 x3 x4 H)
 (zqu1_3 nx7 Q E x0 l0 c0 x3 H)

def zqu1_10_M (nx7 : Int → HP) (nx14 : Int → HP) (Q : QT) (E : ET) (τ : Tau) (H : Heap) : Prop := mSl (τ 0) fun x0 l0 c0 => mI .i64 (τ 3) fun x3 => mI .i64 (τ 4) fun x4 => zqu1_10 nx7 nx14 Q E x0 l0 c0 x3 x4 H

theorem zqu1_11ok (nx7 : Int → HP) (nx14 : Int → HP) (Q : QT) (E : ET) (τ : Tau) (H : Heap) (h : zqu1_10_M nx7 nx14 Q E τ H) : vc Pr zqu1_p17 τ (zqu1_q10 nx7 nx14 Q E) E H :=
  vSl (i := 0) h (fun x0 l0 c0 h => vI (i := 3) h (fun x3 h => vI (i := 4) h (fun x4 h => (conv (by kernel_rfl) h))))

theorem zqu1_12ok (nx7 : Int → HP) (nx14 : Int → HP) (Q : QT) (E : ET) (τ : Tau) (H : Heap) (h : zqu1_10_M nx7 nx14 Q E τ H) : vc Pr zqu1_p13 τ (zqu1_q8 nx7 nx14 Q E) E H :=
  (conv (B := vc Pr zqu1_p13 τ (zqu1_q8 nx7 nx14 Q E) E H) (by kernel_rfl) (vc_seq (K := (zqu1_7_M nx7 nx14 Q E)) (zqu1_11ok nx7 nx14 Q E τ H h) (zqu1_9ok nx7 nx14 Q E)))

def zqu1_13 (nx7 : Int → HP) (Q : QT) (E : ET) (x0 : OA) (l0 : Nat) (c0 : Nat) (x3 : Int) (x4 : Int) (H : Heap) : Prop :=
 ∃ (I : Int → HP) (μ : Int → Heap → Nat), I x4 H ∧ ∀ (x4 : Int) (H : Heap), I x4 H →
 zqu1_10 nx7 (fun x4' H1 => I x4' H1 ∧ μ x4' H1 < μ x4 H) Q E x0 l0 c0 x3 x4 H

def zqu1_13_M (nx7 : Int → HP) (Q : QT) (E : ET) (τ : Tau) (H : Heap) : Prop := mSl (τ 0) fun x0 l0 c0 => mI .i64 (τ 3) fun x3 => mI .i64 (τ 4) fun x4 => zqu1_13 nx7 Q E x0 l0 c0 x3 x4 H

theorem zqu1_14ok (nx7 : Int → HP) (Q : QT) (E : ET) (τ : Tau) (H : Heap) (h : zqu1_13_M nx7 Q E τ H) : vc Pr zqu1_p12 τ (zqu1_q7 nx7 Q E) E H :=
  vSl (i := 0) h (fun x0 l0 c0 h => vI (i := 3) h (fun x3 h => vI (i := 4) h (fun x4 h => match h with | ⟨I, μ, h0, hr⟩ => (conv (B := vc Pr zqu1_p12 (Tau.upd (Tau.upd (Tau.upd τ 0 (.slice x0 l0 c0)) 3 (.int .i64 x3)) 4 (.int .i64 x4)) (zqu1_q7 nx7 Q E) E H) (by kernel_rfl) (vc_loop (c := sI zqu1_p12) (τ := (Tau.upd (Tau.upd (Tau.upd τ 0 (.slice x0 l0 c0)) 3 (.int .i64 x3)) 4 (.int .i64 x4))) [0, 3] (fun τ H => mI .i64 (τ 4) fun x4' => I x4' H) (fun τ H => μ (gI (τ 4)) H) (by kernel_rfl) h0 (fun τ1 H1 hf hI => fix_elim (τ := τ1) (i := 0) (v := (.slice x0 l0 c0)) (G := fun τ => vc Pr (sI zqu1_p12) τ (xthen (fun τ2 H2 => (mI .i64 (τ2 4) fun x4' => I x4' H2) ∧ μ (gI (τ2 4)) H2 < μ (gI (τ 4)) H1) (zqu1_q7 nx7 Q E)) E H1) (hf 0 (by simp)) (fix_elim (τ := (Tau.upd τ1 0 (.slice x0 l0 c0))) (i := 3) (v := (.int .i64 x3)) (G := fun τ => vc Pr (sI zqu1_p12) τ (xthen (fun τ2 H2 => (mI .i64 (τ2 4) fun x4' => I x4' H2) ∧ μ (gI (τ2 4)) H2 < μ (gI (τ 4)) H1) (zqu1_q7 nx7 Q E)) E H1) (hf 3 (by simp)) (mI_elim (i := 4) (G := fun τ => vc Pr (sI zqu1_p12) τ (xthen (fun τ2 H2 => (mI .i64 (τ2 4) fun x4' => I x4' H2) ∧ μ (gI (τ2 4)) H2 < μ (gI (τ 4)) H1) (zqu1_q7 nx7 Q E)) E H1) hI (fun x4r h => (conv (B := vc Pr (sI zqu1_p12) (Tau.upd (Tau.upd (Tau.upd τ1 0 (.slice x0 l0 c0)) 3 (.int .i64 x3)) 4 (.int .i64 x4r)) (xthen (fun τ2 H2 => (mI .i64 (τ2 4) fun x4' => I x4' H2) ∧ μ (gI (τ2 4)) H2 < μ (gI ((Tau.upd (Tau.upd (Tau.upd τ1 0 (.slice x0 l0 c0)) 3 (.int .i64 x3)) 4 (.int .i64 x4r)) 4)) H1) (zqu1_q7 nx7 Q E)) E H1) (by kernel_rfl) (vc_xthen (zqu1_12ok nx7 (fun x4' H2 => I x4' H2 ∧ μ x4' H2 < μ x4r H1) Q E (Tau.upd (Tau.upd (Tau.upd τ1 0 (.slice x0 l0 c0)) 3 (.int .i64 x3)) 4 (.int .i64 x4r)) H1 (conv (B := zqu1_10_M nx7 (fun x4' H2 => I x4' H2 ∧ μ x4' H2 < μ x4r H1) Q E (Tau.upd (Tau.upd (Tau.upd τ1 0 (.slice x0 l0 c0)) 3 (.int .i64 x3)) 4 (.int .i64 x4r)) H1) (by kernel_rfl) (hr x4r H1 h))) (fun τ2 H2 hk => mI_elim (i := 4) (G := fun τ => (mI .i64 (τ 4) fun x4' => I x4' H2) ∧ μ (gI (τ 4)) H2 < μ x4r H1) hk (fun x4' h => h)))))))))))))

theorem zqu1_15ok (nx7 : Int → HP) (Q : QT) (E : ET) (τ : Tau) (H : Heap) (h : zqu1_13_M nx7 Q E τ H) : vc Pr zqu1_p11 τ (zqu1_q6 nx7 Q E) E H :=
  (conv (B := vc Pr zqu1_p11 τ (zqu1_q6 nx7 Q E) E H) (by kernel_rfl) (zqu1_14ok nx7 Q E τ H h))

@[reducible] noncomputable def zqu1_q11 (nx7 : Int → HP) (Q : QT) (E : ET) : Exit → Tau → Heap → Prop := (xthen (zqu1_13_M nx7 Q E) (zqu1_q6 nx7 Q E))

@[reducible] noncomputable def zqu1_p18 : Code := sA zqu1_p10

def zqu1_16 (nx7 : Int → HP) (Q : QT) (E : ET) (x0 : OA) (l0 : Nat) (c0 : Nat) (x3 : Int) (H : Heap) : Prop :=
 zqu1_13 nx7 Q E x0 l0 c0 x3 0 H

def zqu1_16_M (nx7 : Int → HP) (Q : QT) (E : ET) (τ : Tau) (H : Heap) : Prop := mSl (τ 0) fun x0 l0 c0 => mI .i64 (τ 3) fun x3 => zqu1_16 nx7 Q E x0 l0 c0 x3 H

theorem zqu1_17ok (nx7 : Int → HP) (Q : QT) (E : ET) (τ : Tau) (H : Heap) (h : zqu1_16_M nx7 Q E τ H) : vc Pr zqu1_p18 τ (zqu1_q11 nx7 Q E) E H :=
  vSl (i := 0) h (fun x0 l0 c0 h => vI (i := 3) h (fun x3 h => (conv (by kernel_rfl) h)))

theorem zqu1_18ok (nx7 : Int → HP) (Q : QT) (E : ET) (τ : Tau) (H : Heap) (h : zqu1_16_M nx7 Q E τ H) : vc Pr zqu1_p10 τ (zqu1_q6 nx7 Q E) E H :=
  (conv (B := vc Pr zqu1_p10 τ (zqu1_q6 nx7 Q E) E H) (by kernel_rfl) (vc_seq (K := (zqu1_13_M nx7 Q E)) (zqu1_17ok nx7 Q E τ H h) (zqu1_15ok nx7 Q E)))

theorem zqu1_19ok (nx7 : Int → HP) (Q : QT) (E : ET) (τ : Tau) (H : Heap) (h : zqu1_16_M nx7 Q E τ H) : vc Pr zqu1_p9 τ (zqu1_q5 nx7 Q E) E H :=
  (conv (B := vc Pr zqu1_p9 τ (zqu1_q5 nx7 Q E) E H) (by kernel_rfl) (zqu1_18ok nx7 Q E τ H h))

theorem zqu1_20ok (nx7 : Int → HP) (Q : QT) (E : ET) (τ : Tau) (H : Heap) (h : zqu1_16_M nx7 Q E τ H) : vc Pr zqu1_p7 τ (zqu1_q4 nx7 Q E) E H :=
  (conv (B := vc Pr zqu1_p7 τ (zqu1_q4 nx7 Q E) E H) (by kernel_rfl) (vc_seq (K := (zqu1_3_M nx7 Q E)) (zqu1_19ok nx7 Q E τ H h) (zqu1_4ok nx7 Q E)))

@[reducible] noncomputable def zqu1_q12 (nx7 : Int → HP) (Q : QT) (E : ET) : Exit → Tau → Heap → Prop := (xthen (zqu1_16_M nx7 Q E) (zqu1_q4 nx7 Q E))

@[reducible] noncomputable def zqu1_p19 : Code := sA zqu1_p6

def zqu1_21 (nx7 : Int → HP) (Q : QT) (E : ET) (x0 : OA) (l0 : Nat) (c0 : Nat) (x3 : Int) (H : Heap) : Prop :=
 sel (decide ((x3 : Int) < ((l0 : Nat) : Int)))
 (zqu1_16 nx7 Q E x0 l0 c0 x3 H)
 (zqu1_1 Q E  H)

def zqu1_21_M (nx7 : Int → HP) (Q : QT) (E : ET) (τ : Tau) (H : Heap) : Prop := mSl (τ 0) fun x0 l0 c0 => mI .i64 (τ 3) fun x3 => zqu1_21 nx7 Q E x0 l0 c0 x3 H

theorem zqu1_22ok (nx7 : Int → HP) (Q : QT) (E : ET) (τ : Tau) (H : Heap) (h : zqu1_21_M nx7 Q E τ H) : vc Pr zqu1_p19 τ (zqu1_q12 nx7 Q E) E H :=
  vSl (i := 0) h (fun x0 l0 c0 h => vI (i := 3) h (fun x3 h => (conv (by kernel_rfl) h)))

theorem zqu1_23ok (nx7 : Int → HP) (Q : QT) (E : ET) (τ : Tau) (H : Heap) (h : zqu1_21_M nx7 Q E τ H) : vc Pr zqu1_p6 τ (zqu1_q4 nx7 Q E) E H :=
  (conv (B := vc Pr zqu1_p6 τ (zqu1_q4 nx7 Q E) E H) (by kernel_rfl) (vc_seq (K := (zqu1_16_M nx7 Q E)) (zqu1_22ok nx7 Q E τ H h) (zqu1_20ok nx7 Q E)))

def zqu1_24 (Q : QT) (E : ET) (x0 : OA) (l0 : Nat) (c0 : Nat) (x3 : Int) (H : Heap) : Prop :=
 ∃ (I : Int → HP) (μ : Int → Heap → Nat), I x3 H ∧ ∀ (x3 : Int) (H : Heap), I x3 H →
 zqu1_21 (fun x3' H1 => I x3' H1 ∧ μ x3' H1 < μ x3 H) Q E x0 l0 c0 x3 H

def zqu1_24_M (Q : QT) (E : ET) (τ : Tau) (H : Heap) : Prop := mSl (τ 0) fun x0 l0 c0 => mI .i64 (τ 3) fun x3 => zqu1_24 Q E x0 l0 c0 x3 H

theorem zqu1_25ok (Q : QT) (E : ET) (τ : Tau) (H : Heap) (h : zqu1_24_M Q E τ H) : vc Pr zqu1_p5 τ (zqu1_q3 Q E) E H :=
  vSl (i := 0) h (fun x0 l0 c0 h => vI (i := 3) h (fun x3 h => match h with | ⟨I, μ, h0, hr⟩ => (conv (B := vc Pr zqu1_p5 (Tau.upd (Tau.upd τ 0 (.slice x0 l0 c0)) 3 (.int .i64 x3)) (zqu1_q3 Q E) E H) (by kernel_rfl) (vc_loop (c := sI zqu1_p5) (τ := (Tau.upd (Tau.upd τ 0 (.slice x0 l0 c0)) 3 (.int .i64 x3))) [0] (fun τ H => mI .i64 (τ 3) fun x3' => I x3' H) (fun τ H => μ (gI (τ 3)) H) (by kernel_rfl) h0 (fun τ1 H1 hf hI => fix_elim (τ := τ1) (i := 0) (v := (.slice x0 l0 c0)) (G := fun τ => vc Pr (sI zqu1_p5) τ (xthen (fun τ2 H2 => (mI .i64 (τ2 3) fun x3' => I x3' H2) ∧ μ (gI (τ2 3)) H2 < μ (gI (τ 3)) H1) (zqu1_q3 Q E)) E H1) (hf 0 (by simp)) (mI_elim (i := 3) (G := fun τ => vc Pr (sI zqu1_p5) τ (xthen (fun τ2 H2 => (mI .i64 (τ2 3) fun x3' => I x3' H2) ∧ μ (gI (τ2 3)) H2 < μ (gI (τ 3)) H1) (zqu1_q3 Q E)) E H1) hI (fun x3r h => (conv (B := vc Pr (sI zqu1_p5) (Tau.upd (Tau.upd τ1 0 (.slice x0 l0 c0)) 3 (.int .i64 x3r)) (xthen (fun τ2 H2 => (mI .i64 (τ2 3) fun x3' => I x3' H2) ∧ μ (gI (τ2 3)) H2 < μ (gI ((Tau.upd (Tau.upd τ1 0 (.slice x0 l0 c0)) 3 (.int .i64 x3r)) 3)) H1) (zqu1_q3 Q E)) E H1) (by kernel_rfl) (vc_xthen (zqu1_23ok (fun x3' H2 => I x3' H2 ∧ μ x3' H2 < μ x3r H1) Q E (Tau.upd (Tau.upd τ1 0 (.slice x0 l0 c0)) 3 (.int .i64 x3r)) H1 (conv (B := zqu1_21_M (fun x3' H2 => I x3' H2 ∧ μ x3' H2 < μ x3r H1) Q E (Tau.upd (Tau.upd τ1 0 (.slice x0 l0 c0)) 3 (.int .i64 x3r)) H1) (by kernel_rfl) (hr x3r H1 h))) (fun τ2 H2 hk => mI_elim (i := 3) (G := fun τ => (mI .i64 (τ 3) fun x3' => I x3' H2) ∧ μ (gI (τ 3)) H2 < μ x3r H1) hk (fun x3' h => h)))))))))))

theorem zqu1_26ok (Q : QT) (E : ET) (τ : Tau) (H : Heap) (h : zqu1_24_M Q E τ H) : vc Pr zqu1_p4 τ (zqu1_q2 Q E) E H :=
  (conv (B := vc Pr zqu1_p4 τ (zqu1_q2 Q E) E H) (by kernel_rfl) (zqu1_25ok Q E τ H h))

@[reducible] noncomputable def zqu1_q13 (Q : QT) (E : ET) : Exit → Tau → Heap → Prop := (xthen (zqu1_24_M Q E) (zqu1_q2 Q E))

@[reducible] noncomputable def zqu1_p20 : Code := sA zqu1_p3

def zqu1_27 (Q : QT) (E : ET) (x0 : OA) (l0 : Nat) (c0 : Nat) (H : Heap) : Prop :=
 zqu1_24 Q E x0 l0 c0 0 H

def zqu1_27_M (Q : QT) (E : ET) (τ : Tau) (H : Heap) : Prop := mSl (τ 0) fun x0 l0 c0 => zqu1_27 Q E x0 l0 c0 H

theorem zqu1_28ok (Q : QT) (E : ET) (τ : Tau) (H : Heap) (h : zqu1_27_M Q E τ H) : vc Pr zqu1_p20 τ (zqu1_q13 Q E) E H :=
  vSl (i := 0) h (fun x0 l0 c0 h => (conv (by kernel_rfl) h))

theorem zqu1_29ok (Q : QT) (E : ET) (τ : Tau) (H : Heap) (h : zqu1_27_M Q E τ H) : vc Pr zqu1_p3 τ (zqu1_q2 Q E) E H :=
  (conv (B := vc Pr zqu1_p3 τ (zqu1_q2 Q E) E H) (by kernel_rfl) (vc_seq (K := (zqu1_24_M Q E)) (zqu1_28ok Q E τ H h) (zqu1_26ok Q E)))

theorem zqu1_30ok (Q : QT) (E : ET) (τ : Tau) (H : Heap) (h : zqu1_27_M Q E τ H) : vc Pr zqu1_p1 τ (zqu1_q1 Q E) E H :=
  (conv (B := vc Pr zqu1_p1 τ (zqu1_q1 Q E) E H) (by kernel_rfl) (vc_seq (K := (zqu1_1_M Q E)) (zqu1_29ok Q E τ H h) (zqu1_2ok Q E)))

@[reducible] noncomputable def zqu1_q14 (Q : QT) (E : ET) : Exit → Tau → Heap → Prop := (xthen (zqu1_27_M Q E) (zqu1_q1 Q E))

@[reducible] noncomputable def zqu1_p21 : Code := sA zqu1_p0

def zqu1 (Q : QT) (E : ET) (a0 : OA) (a0l : Nat) (a0c : Nat) (H : Heap) : Prop :=
 zqu1_27 Q E a0 a0l a0c H

theorem zqu1_fn (a0 : OA) (a0l : Nat) (a0c : Nat) (Q : QT) (E : ET) (H : Heap) (h : zqu1 Q E a0 a0l a0c H)   : Does Pr 54 #[(.slice a0 a0l a0c)] H Q E :=
  Fn_of_vc (fn := Try.f54) (c := zqu1_p0) (args := [(.slice a0 a0l a0c)]) mixed (by kernel_rfl) (by kernel_rfl) (by kernel_rfl) (by kernel_rfl) (by kernel_rfl) ((conv (B := vc Pr zqu1_p0 (argT [(.slice a0 a0l a0c)]) (zqu1_q1 Q E) E H) (by kernel_rfl) (vc_seq (K := (zqu1_27_M Q E)) (conv (B := vc Pr zqu1_p21 (argT [(.slice a0 a0l a0c)]) (zqu1_q14 Q E) E H) (by kernel_rfl) h) (zqu1_30ok Q E))))

/-! jobmux/jobmuxref09.root -/
@[reducible] noncomputable def zqv1_q1 (Q : QT) (E : ET) : Exit → Tau → Heap → Prop := (retQ Pr (Try.f55).results.toList Q)

@[reducible] noncomputable def zqv1_p0 : Code := bodyOf Try.f55

@[reducible] noncomputable def zqv1_p1 : Code := sB zqv1_p0

@[reducible] noncomputable def zqv1_p2 : Code := sB zqv1_p1

@[reducible] noncomputable def zqv1_p3 : Code := sB zqv1_p2

def zqv1_1 (Q : QT) (E : ET) (x5 : OA) (l5 : Nat) (c5 : Nat) (H : Heap) : Prop :=
 (0 ≤ ((IntKind.wrap .i64 (((l5 : Nat) : Int) - 1)) : Int) ∧ ((IntKind.wrap .i64 (((l5 : Nat) : Int) - 1)) : Int) < ((l5 : Nat) : Int)) ∧ ptr x5 fun q108 =>
 ldSl (Addr.add q108 (((IntKind.wrap .i64 (((l5 : Nat) : Int) - 1)) : Int).toNat * 1)) H fun p109 l110 c111 =>
 Q (.slice p109 l110 c111) H

def zqv1_1_M (Q : QT) (E : ET) (τ : Tau) (H : Heap) : Prop := mSl (τ 5) fun x5 l5 c5 => zqv1_1 Q E x5 l5 c5 H

theorem zqv1_2ok (Q : QT) (E : ET) (τ : Tau) (H : Heap) (h : zqv1_1_M Q E τ H) : vc Pr zqv1_p3 τ (zqv1_q1 Q E) E H :=
  vSl (i := 5) h (fun x5 l5 c5 h => (conv (by kernel_rfl) h))

@[reducible] noncomputable def zqv1_q2 (Q : QT) (E : ET) : Exit → Tau → Heap → Prop := (xthen (zqv1_1_M Q E) (zqv1_q1 Q E))

@[reducible] noncomputable def zqv1_p4 : Code := sA zqv1_p2

@[reducible] noncomputable def zqv1_p5 : Code := sB zqv1_p4

@[reducible] noncomputable def zqv1_q3 (Q : QT) (E : ET) : Exit → Tau → Heap → Prop := (xblock 0 (zqv1_q2 Q E))

@[reducible] noncomputable def zqv1_p6 : Code := sI zqv1_p5

@[reducible] noncomputable def zqv1_q4 (nx112 : Option Addr → Nat → Nat → Int → HP) (Q : QT) (E : ET) : Exit → Tau → Heap → Prop := (xthen (fun τ H => mSl (τ 5) fun x5' l5' c5' => mI .i64 (τ 6) fun x6' => nx112 x5' l5' c5' x6' H) (zqv1_q3 Q E))

@[reducible] noncomputable def zqv1_p7 : Code := sI zqv1_p6

@[reducible] noncomputable def zqv1_p8 : Code := sB zqv1_p7

@[reducible] noncomputable def zqv1_p9 : Code := sB zqv1_p8

def zqv1_3 (nx112 : Option Addr → Nat → Nat → Int → HP) (Q : QT) (E : ET) (x0 : OA) (l0 : Nat) (c0 : Nat) (x1 : OA) (l1 : Nat) (c1 : Nat) (x5 : OA) (l5 : Nat) (c5 : Nat) (x6 : Int) (H : Heap) : Prop :=
 nx112 x5 l5 c5 (IntKind.wrap .i64 (x6 + 1)) H

def zqv1_3_M (nx112 : Option Addr → Nat → Nat → Int → HP) (Q : QT) (E : ET) (τ : Tau) (H : Heap) : Prop := mSl (τ 0) fun x0 l0 c0 => mSl (τ 1) fun x1 l1 c1 => mSl (τ 5) fun x5 l5 c5 => mI .i64 (τ 6) fun x6 => zqv1_3 nx112 Q E x0 l0 c0 x1 l1 c1 x5 l5 c5 x6 H

theorem zqv1_4ok (nx112 : Option Addr → Nat → Nat → Int → HP) (Q : QT) (E : ET) (τ : Tau) (H : Heap) (h : zqv1_3_M nx112 Q E τ H) : vc Pr zqv1_p9 τ (zqv1_q4 nx112 Q E) E H :=
  vSl (i := 0) h (fun x0 l0 c0 h => vSl (i := 1) h (fun x1 l1 c1 h => vSl (i := 5) h (fun x5 l5 c5 h => vI (i := 6) h (fun x6 h => (conv (by kernel_rfl) h)))))

@[reducible] noncomputable def zqv1_q5 (nx112 : Option Addr → Nat → Nat → Int → HP) (Q : QT) (E : ET) : Exit → Tau → Heap → Prop := (xthen (zqv1_3_M nx112 Q E) (zqv1_q4 nx112 Q E))

@[reducible] noncomputable def zqv1_p10 : Code := sA zqv1_p8

@[reducible] noncomputable def zqv1_q6 (nx112 : Option Addr → Nat → Nat → Int → HP) (Q : QT) (E : ET) : Exit → Tau → Heap → Prop := (xblock 1 (zqv1_q5 nx112 Q E))

@[reducible] noncomputable def zqv1_p11 : Code := sI zqv1_p10

@[reducible] noncomputable def zqv1_p12 : Code := sB zqv1_p11

@[reducible] noncomputable def zqv1_p13 : Code := sB zqv1_p12

@[reducible] noncomputable def zqv1_p14 : Code := sB zqv1_p13

def zqv1_5 (nx112 : Option Addr → Nat → Nat → Int → HP) (Q : QT) (E : ET) (x0 : OA) (l0 : Nat) (c0 : Nat) (x1 : OA) (l1 : Nat) (c1 : Nat) (x5 : OA) (l5 : Nat) (c5 : Nat) (x6 : Int) (x8 : OA) (l8 : Nat) (c8 : Nat) (H : Heap) : Prop :=
 nw (.cells #[(.slice x8 l8 c8)] 79 (0, 0)) H fun i321 H322 =>
 app Pr 134 x5 l5 c5 (.slice (some ⟨i321, 0, none⟩) 1 1) H322 fun p323 l324 c325 H326 =>
 zqv1_3 nx112 Q E x0 l0 c0 x1 l1 c1 p323 l324 c325 x6 H326

def zqv1_5_M (nx112 : Option Addr → Nat → Nat → Int → HP) (Q : QT) (E : ET) (τ : Tau) (H : Heap) : Prop := mSl (τ 0) fun x0 l0 c0 => mSl (τ 1) fun x1 l1 c1 => mSl (τ 5) fun x5 l5 c5 => mI .i64 (τ 6) fun x6 => mSl (τ 8) fun x8 l8 c8 => zqv1_5 nx112 Q E x0 l0 c0 x1 l1 c1 x5 l5 c5 x6 x8 l8 c8 H

theorem zqv1_6ok (nx112 : Option Addr → Nat → Nat → Int → HP) (Q : QT) (E : ET) (τ : Tau) (H : Heap) (h : zqv1_5_M nx112 Q E τ H) : vc Pr zqv1_p14 τ (zqv1_q6 nx112 Q E) E H :=
  vSl (i := 0) h (fun x0 l0 c0 h => vSl (i := 1) h (fun x1 l1 c1 h => vSl (i := 5) h (fun x5 l5 c5 h => vI (i := 6) h (fun x6 h => vSl (i := 8) h (fun x8 l8 c8 h => (conv (by kernel_rfl) h))))))

@[reducible] noncomputable def zqv1_q7 (nx112 : Option Addr → Nat → Nat → Int → HP) (Q : QT) (E : ET) : Exit → Tau → Heap → Prop := (xthen (zqv1_5_M nx112 Q E) (zqv1_q6 nx112 Q E))

@[reducible] noncomputable def zqv1_p15 : Code := sA zqv1_p13

def zqv1_7 (nx112 : Option Addr → Nat → Nat → Int → HP) (Q : QT) (E : ET) (x0 : OA) (l0 : Nat) (c0 : Nat) (x1 : OA) (l1 : Nat) (c1 : Nat) (x5 : OA) (l5 : Nat) (c5 : Nat) (x6 : Int) (x7 : OA) (H : Heap) : Prop :=
 ptr x7 fun q327 =>
 ldI .i64 q327 H fun n328 =>
 sel ((n328 : Int) == 3)
 (ptr x7 fun q329 =>
 ldI .i64 (Addr.add q329 1) H fun n330 =>
 (0 ≤ (n330 : Int) ∧ (n330 : Int) < ((l5 : Nat) : Int)) ∧ ptr x5 fun q331 =>
 ldSl (Addr.add q331 ((n330 : Int).toNat * 1)) H fun p332 l333 c334 =>
 ptr x7 fun q335 =>
 ldI .i64 (Addr.add q335 2) H fun n336 =>
 (0 ≤ (n336 : Int) ∧ (n336 : Int) < ((l5 : Nat) : Int)) ∧ ptr x5 fun q337 =>
 ldSl (Addr.add q337 ((n336 : Int).toNat * 1)) H fun p338 l339 c340 =>
 Does Pr 84 #[(.slice p332 l333 c334), (.slice p338 l339 c340)] H (fun v341 H342 =>
 ∃ (p343 : OA) (l344 c345 : Nat), v341 = (.slice p343 l344 c345) ∧ zqv1_5 nx112 Q E x0 l0 c0 x1 l1 c1 x5 l5 c5 x6 p343 l344 c345 H342) (fun _ _ => False))
 (sel ((n328 : Int) == 4)
 (ptr x7 fun q346 =>
 ldI .i64 (Addr.add q346 1) H fun n347 =>
 (0 ≤ (n347 : Int) ∧ (n347 : Int) < ((l5 : Nat) : Int)) ∧ ptr x5 fun q348 =>
 ldSl (Addr.add q348 ((n347 : Int).toNat * 1)) H fun p349 l350 c351 =>
 ptr x7 fun q352 =>
 ldI .i64 (Addr.add q352 2) H fun n353 =>
 (0 ≤ (n353 : Int) ∧ (n353 : Int) < ((l5 : Nat) : Int)) ∧ ptr x5 fun q354 =>
 ldSl (Addr.add q354 ((n353 : Int).toNat * 1)) H fun p355 l356 c357 =>
 Does Pr 85 #[(.slice p349 l350 c351), (.slice p355 l356 c357)] H (fun v358 H359 =>
 ∃ (p360 : OA) (l361 c362 : Nat), v358 = (.slice p360 l361 c362) ∧ zqv1_5 nx112 Q E x0 l0 c0 x1 l1 c1 x5 l5 c5 x6 p360 l361 c362 H359) (fun _ _ => False))
 (sel ((n328 : Int) == 5)
 (ptr x7 fun q363 =>
 ldI .i64 (Addr.add q363 1) H fun n364 =>
 (0 ≤ (n364 : Int) ∧ (n364 : Int) < ((l5 : Nat) : Int)) ∧ ptr x5 fun q365 =>
 ldSl (Addr.add q365 ((n364 : Int).toNat * 1)) H fun p366 l367 c368 =>
 Does Pr 86 #[(.slice p366 l367 c368)] H (fun v369 H370 =>
 ∃ (p371 : OA) (l372 c373 : Nat), v369 = (.slice p371 l372 c373) ∧ zqv1_5 nx112 Q E x0 l0 c0 x1 l1 c1 x5 l5 c5 x6 p371 l372 c373 H370) E)
 (sel ((n328 : Int) == 6)
 (∃ Z374 : Nat → Prop,
 ptr x7 fun q375 =>
 Z374 (Addr.block (Addr.add q375 1)) ∧ ldI .i64 (Addr.add q375 1) H fun n376 =>
 (0 ≤ (n376 : Int) ∧ (n376 : Int) < ((l5 : Nat) : Int)) ∧ ptr x5 fun q377 =>
 Z374 (Addr.block (Addr.add q377 ((n376 : Int).toNat * 1))) ∧ ldSl (Addr.add q377 ((n376 : Int).toNat * 1)) H fun p378 l379 c380 =>
 ptr x7 fun q381 =>
 ldI .i64 (Addr.add q381 1) H fun n382 =>
 (0 ≤ (n382 : Int) ∧ (n382 : Int) < ((l5 : Nat) : Int)) ∧ ptr x5 fun q383 =>
 ldSl (Addr.add q383 ((n382 : Int).toNat * 1)) H fun p384 l385 c386 =>
 Does Pr 86 #[(.slice p384 l385 c386)] H (fun v387 H388 =>
 ∃ (p389 : OA) (l390 c391 : Nat), v387 = (.slice p389 l390 c391) ∧ (∀ z, Z374 z → H z ≠ none → H388 z = H z) ∧ Does Pr 84 #[(.slice p378 l379 c380), (.slice p389 l390 c391)] H388 (fun v392 H393 =>
 ∃ (p394 : OA) (l395 c396 : Nat), v392 = (.slice p394 l395 c396) ∧ zqv1_5 nx112 Q E x0 l0 c0 x1 l1 c1 x5 l5 c5 x6 p394 l395 c396 H393) (fun _ _ => False)) (fun _ _ => False))
 (sel ((n328 : Int) == 7)
 (∃ Z397 : Nat → Prop,
 ptr x7 fun q398 =>
 Z397 (Addr.block (Addr.add q398 1)) ∧ ldI .i64 (Addr.add q398 1) H fun n399 =>
 (0 ≤ (n399 : Int) ∧ (n399 : Int) < ((l5 : Nat) : Int)) ∧ ptr x5 fun q400 =>
 Z397 (Addr.block (Addr.add q400 ((n399 : Int).toNat * 1))) ∧ ldSl (Addr.add q400 ((n399 : Int).toNat * 1)) H fun p401 l402 c403 =>
 Does Pr 87 #[(.int .i64 (IntKind.wrap .i64 (((l1 : Nat) : Int) + 1)))] H (fun v404 H405 =>
 ∃ (p406 : OA) (l407 c408 : Nat), v404 = (.slice p406 l407 c408) ∧ (∀ z, Z397 z → H z ≠ none → H405 z = H z) ∧ Does Pr 85 #[(.slice p406 l407 c408), (.slice p401 l402 c403)] H405 (fun v409 H410 =>
 ∃ (p411 : OA) (l412 c413 : Nat), v409 = (.slice p411 l412 c413) ∧ zqv1_5 nx112 Q E x0 l0 c0 x1 l1 c1 x5 l5 c5 x6 p411 l412 c413 H410) (fun _ _ => False)) (fun _ _ => False))
 (ptr x7 fun q414 =>
 ∃ n415 n416 n417 n418 n419 n420 n421 : Int, Heap.rd H q414 0 [(.int .i64 n415), (.int .i64 n416), (.int .i64 n417), (.int .u64 n418), (.int .u64 n419), (.int .u64 n420), (.int .u64 n421)] ∧ Does Pr 88 #[(.agg #[(.int .i64 n415), (.int .i64 n416), (.int .i64 n417), (.int .u64 n418), (.int .u64 n419), (.int .u64 n420), (.int .u64 n421)]), (.slice x1 l1 c1)] H (fun v422 H423 =>
 ∃ (p424 : OA) (l425 c426 : Nat), v422 = (.slice p424 l425 c426) ∧ zqv1_5 nx112 Q E x0 l0 c0 x1 l1 c1 x5 l5 c5 x6 p424 l425 c426 H423) E)))))

def zqv1_7_M (nx112 : Option Addr → Nat → Nat → Int → HP) (Q : QT) (E : ET) (τ : Tau) (H : Heap) : Prop := mSl (τ 0) fun x0 l0 c0 => mSl (τ 1) fun x1 l1 c1 => mSl (τ 5) fun x5 l5 c5 => mI .i64 (τ 6) fun x6 => mP (τ 7) fun x7 => zqv1_7 nx112 Q E x0 l0 c0 x1 l1 c1 x5 l5 c5 x6 x7 H

theorem zqv1_8ok (nx112 : Option Addr → Nat → Nat → Int → HP) (Q : QT) (E : ET) (τ : Tau) (H : Heap) (h : zqv1_7_M nx112 Q E τ H) : vc Pr zqv1_p15 τ (zqv1_q7 nx112 Q E) E H :=
  vSl (i := 0) h (fun x0 l0 c0 h => vSl (i := 1) h (fun x1 l1 c1 h => vSl (i := 5) h (fun x5 l5 c5 h => vI (i := 6) h (fun x6 h => vP (i := 7) h (fun x7 h => (conv (by kernel_rfl) h))))))

theorem zqv1_9ok (nx112 : Option Addr → Nat → Nat → Int → HP) (Q : QT) (E : ET) (τ : Tau) (H : Heap) (h : zqv1_7_M nx112 Q E τ H) : vc Pr zqv1_p13 τ (zqv1_q6 nx112 Q E) E H :=
  (conv (B := vc Pr zqv1_p13 τ (zqv1_q6 nx112 Q E) E H) (by kernel_rfl) (vc_seq (K := (zqv1_5_M nx112 Q E)) (zqv1_8ok nx112 Q E τ H h) (zqv1_6ok nx112 Q E)))

@[reducible] noncomputable def zqv1_q8 (nx112 : Option Addr → Nat → Nat → Int → HP) (Q : QT) (E : ET) : Exit → Tau → Heap → Prop := (xthen (zqv1_7_M nx112 Q E) (zqv1_q6 nx112 Q E))

@[reducible] noncomputable def zqv1_p16 : Code := sA zqv1_p12

def zqv1_10 (nx112 : Option Addr → Nat → Nat → Int → HP) (Q : QT) (E : ET) (x0 : OA) (l0 : Nat) (c0 : Nat) (x1 : OA) (l1 : Nat) (c1 : Nat) (x5 : OA) (l5 : Nat) (c5 : Nat) (x6 : Int) (x7 : OA) (H : Heap) : Prop :=
 zqv1_7 nx112 Q E x0 l0 c0 x1 l1 c1 x5 l5 c5 x6 x7 H

def zqv1_10_M (nx112 : Option Addr → Nat → Nat → Int → HP) (Q : QT) (E : ET) (τ : Tau) (H : Heap) : Prop := mSl (τ 0) fun x0 l0 c0 => mSl (τ 1) fun x1 l1 c1 => mSl (τ 5) fun x5 l5 c5 => mI .i64 (τ 6) fun x6 => mP (τ 7) fun x7 => zqv1_10 nx112 Q E x0 l0 c0 x1 l1 c1 x5 l5 c5 x6 x7 H

theorem zqv1_11ok (nx112 : Option Addr → Nat → Nat → Int → HP) (Q : QT) (E : ET) (τ : Tau) (H : Heap) (h : zqv1_10_M nx112 Q E τ H) : vc Pr zqv1_p16 τ (zqv1_q8 nx112 Q E) E H :=
  vSl (i := 0) h (fun x0 l0 c0 h => vSl (i := 1) h (fun x1 l1 c1 h => vSl (i := 5) h (fun x5 l5 c5 h => vI (i := 6) h (fun x6 h => vP (i := 7) h (fun x7 h => (conv (by kernel_rfl) h))))))

theorem zqv1_12ok (nx112 : Option Addr → Nat → Nat → Int → HP) (Q : QT) (E : ET) (τ : Tau) (H : Heap) (h : zqv1_10_M nx112 Q E τ H) : vc Pr zqv1_p12 τ (zqv1_q6 nx112 Q E) E H :=
  (conv (B := vc Pr zqv1_p12 τ (zqv1_q6 nx112 Q E) E H) (by kernel_rfl) (vc_seq (K := (zqv1_7_M nx112 Q E)) (zqv1_11ok nx112 Q E τ H h) (zqv1_9ok nx112 Q E)))

@[reducible] noncomputable def zqv1_q9 (nx112 : Option Addr → Nat → Nat → Int → HP) (Q : QT) (E : ET) : Exit → Tau → Heap → Prop := (xthen (zqv1_10_M nx112 Q E) (zqv1_q6 nx112 Q E))

@[reducible] noncomputable def zqv1_p17 : Code := sA zqv1_p11

def zqv1_13 (nx112 : Option Addr → Nat → Nat → Int → HP) (Q : QT) (E : ET) (x0 : OA) (l0 : Nat) (c0 : Nat) (x1 : OA) (l1 : Nat) (c1 : Nat) (x5 : OA) (l5 : Nat) (c5 : Nat) (x6 : Int) (H : Heap) : Prop :=
 (0 ≤ (x6 : Int) ∧ (x6 : Int) < ((l0 : Nat) : Int)) ∧ ptr x0 fun q427 =>
 ∃ n428 n429 n430 n431 n432 n433 n434 : Int, Heap.rd H (Addr.add q427 ((x6 : Int).toNat * 7)) 0 [(.int .i64 n428), (.int .i64 n429), (.int .i64 n430), (.int .u64 n431), (.int .u64 n432), (.int .u64 n433), (.int .u64 n434)] ∧ nw (.cells #[(.int .i64 0), (.int .i64 0), (.int .i64 0), (.int .u64 0), (.int .u64 0), (.int .u64 0), (.int .u64 0)] 48 (0, 0)) H fun i435 H436 =>
 wr ⟨i435, 0, none⟩ [(.int .i64 n428), (.int .i64 n429), (.int .i64 n430), (.int .u64 n431), (.int .u64 n432), (.int .u64 n433), (.int .u64 n434)] H436 fun H437 =>
 zqv1_10 nx112 Q E x0 l0 c0 x1 l1 c1 x5 l5 c5 x6 (some ⟨i435, 0, none⟩) H437

def zqv1_13_M (nx112 : Option Addr → Nat → Nat → Int → HP) (Q : QT) (E : ET) (τ : Tau) (H : Heap) : Prop := mSl (τ 0) fun x0 l0 c0 => mSl (τ 1) fun x1 l1 c1 => mSl (τ 5) fun x5 l5 c5 => mI .i64 (τ 6) fun x6 => zqv1_13 nx112 Q E x0 l0 c0 x1 l1 c1 x5 l5 c5 x6 H

theorem zqv1_14ok (nx112 : Option Addr → Nat → Nat → Int → HP) (Q : QT) (E : ET) (τ : Tau) (H : Heap) (h : zqv1_13_M nx112 Q E τ H) : vc Pr zqv1_p17 τ (zqv1_q9 nx112 Q E) E H :=
  vSl (i := 0) h (fun x0 l0 c0 h => vSl (i := 1) h (fun x1 l1 c1 h => vSl (i := 5) h (fun x5 l5 c5 h => vI (i := 6) h (fun x6 h => (conv (by kernel_rfl) h)))))

theorem zqv1_15ok (nx112 : Option Addr → Nat → Nat → Int → HP) (Q : QT) (E : ET) (τ : Tau) (H : Heap) (h : zqv1_13_M nx112 Q E τ H) : vc Pr zqv1_p11 τ (zqv1_q6 nx112 Q E) E H :=
  (conv (B := vc Pr zqv1_p11 τ (zqv1_q6 nx112 Q E) E H) (by kernel_rfl) (vc_seq (K := (zqv1_10_M nx112 Q E)) (zqv1_14ok nx112 Q E τ H h) (zqv1_12ok nx112 Q E)))

theorem zqv1_16ok (nx112 : Option Addr → Nat → Nat → Int → HP) (Q : QT) (E : ET) (τ : Tau) (H : Heap) (h : zqv1_13_M nx112 Q E τ H) : vc Pr zqv1_p10 τ (zqv1_q5 nx112 Q E) E H :=
  (conv (B := vc Pr zqv1_p10 τ (zqv1_q5 nx112 Q E) E H) (by kernel_rfl) (zqv1_15ok nx112 Q E τ H h))

theorem zqv1_17ok (nx112 : Option Addr → Nat → Nat → Int → HP) (Q : QT) (E : ET) (τ : Tau) (H : Heap) (h : zqv1_13_M nx112 Q E τ H) : vc Pr zqv1_p8 τ (zqv1_q4 nx112 Q E) E H :=
  (conv (B := vc Pr zqv1_p8 τ (zqv1_q4 nx112 Q E) E H) (by kernel_rfl) (vc_seq (K := (zqv1_3_M nx112 Q E)) (zqv1_16ok nx112 Q E τ H h) (zqv1_4ok nx112 Q E)))

@[reducible] noncomputable def zqv1_q10 (nx112 : Option Addr → Nat → Nat → Int → HP) (Q : QT) (E : ET) : Exit → Tau → Heap → Prop := (xthen (zqv1_13_M nx112 Q E) (zqv1_q4 nx112 Q E))

@[reducible] noncomputable def zqv1_p18 : Code := sA zqv1_p7

def zqv1_18 (nx112 : Option Addr → Nat → Nat → Int → HP) (Q : QT) (E : ET) (x0 : OA) (l0 : Nat) (c0 : Nat) (x1 : OA) (l1 : Nat) (c1 : Nat) (x5 : OA) (l5 : Nat) (c5 : Nat) (x6 : Int) (H : Heap) : Prop :=
 sel (decide ((x6 : Int) < ((l0 : Nat) : Int)))
 (zqv1_13 nx112 Q E x0 l0 c0 x1 l1 c1 x5 l5 c5 x6 H)
 (zqv1_1 Q E x5 l5 c5 H)

def zqv1_18_M (nx112 : Option Addr → Nat → Nat → Int → HP) (Q : QT) (E : ET) (τ : Tau) (H : Heap) : Prop := mSl (τ 0) fun x0 l0 c0 => mSl (τ 1) fun x1 l1 c1 => mSl (τ 5) fun x5 l5 c5 => mI .i64 (τ 6) fun x6 => zqv1_18 nx112 Q E x0 l0 c0 x1 l1 c1 x5 l5 c5 x6 H

theorem zqv1_19ok (nx112 : Option Addr → Nat → Nat → Int → HP) (Q : QT) (E : ET) (τ : Tau) (H : Heap) (h : zqv1_18_M nx112 Q E τ H) : vc Pr zqv1_p18 τ (zqv1_q10 nx112 Q E) E H :=
  vSl (i := 0) h (fun x0 l0 c0 h => vSl (i := 1) h (fun x1 l1 c1 h => vSl (i := 5) h (fun x5 l5 c5 h => vI (i := 6) h (fun x6 h => (conv (by kernel_rfl) h)))))

theorem zqv1_20ok (nx112 : Option Addr → Nat → Nat → Int → HP) (Q : QT) (E : ET) (τ : Tau) (H : Heap) (h : zqv1_18_M nx112 Q E τ H) : vc Pr zqv1_p7 τ (zqv1_q4 nx112 Q E) E H :=
  (conv (B := vc Pr zqv1_p7 τ (zqv1_q4 nx112 Q E) E H) (by kernel_rfl) (vc_seq (K := (zqv1_13_M nx112 Q E)) (zqv1_19ok nx112 Q E τ H h) (zqv1_17ok nx112 Q E)))

def zqv1_21 (Q : QT) (E : ET) (x0 : OA) (l0 : Nat) (c0 : Nat) (x1 : OA) (l1 : Nat) (c1 : Nat) (x5 : OA) (l5 : Nat) (c5 : Nat) (x6 : Int) (H : Heap) : Prop :=
 ∃ (I : Option Addr → Nat → Nat → Int → HP) (μ : Option Addr → Nat → Nat → Int → Heap → Nat), I x5 l5 c5 x6 H ∧ ∀ (x5 : OA) (l5 : Nat) (c5 : Nat) (x6 : Int) (H : Heap), I x5 l5 c5 x6 H →
 zqv1_18 (fun x5' l5' c5' x6' H1 => I x5' l5' c5' x6' H1 ∧ μ x5' l5' c5' x6' H1 < μ x5 l5 c5 x6 H) Q E x0 l0 c0 x1 l1 c1 x5 l5 c5 x6 H

def zqv1_21_M (Q : QT) (E : ET) (τ : Tau) (H : Heap) : Prop := mSl (τ 0) fun x0 l0 c0 => mSl (τ 1) fun x1 l1 c1 => mSl (τ 5) fun x5 l5 c5 => mI .i64 (τ 6) fun x6 => zqv1_21 Q E x0 l0 c0 x1 l1 c1 x5 l5 c5 x6 H

theorem zqv1_22ok (Q : QT) (E : ET) (τ : Tau) (H : Heap) (h : zqv1_21_M Q E τ H) : vc Pr zqv1_p6 τ (zqv1_q3 Q E) E H :=
  vSl (i := 0) h (fun x0 l0 c0 h => vSl (i := 1) h (fun x1 l1 c1 h => vSl (i := 5) h (fun x5 l5 c5 h => vI (i := 6) h (fun x6 h => match h with | ⟨I, μ, h0, hr⟩ => (conv (B := vc Pr zqv1_p6 (Tau.upd (Tau.upd (Tau.upd (Tau.upd τ 0 (.slice x0 l0 c0)) 1 (.slice x1 l1 c1)) 5 (.slice x5 l5 c5)) 6 (.int .i64 x6)) (zqv1_q3 Q E) E H) (by kernel_rfl) (vc_loop (c := sI zqv1_p6) (τ := (Tau.upd (Tau.upd (Tau.upd (Tau.upd τ 0 (.slice x0 l0 c0)) 1 (.slice x1 l1 c1)) 5 (.slice x5 l5 c5)) 6 (.int .i64 x6))) [0, 1] (fun τ H => mSl (τ 5) fun x5' l5' c5' => mI .i64 (τ 6) fun x6' => I x5' l5' c5' x6' H) (fun τ H => μ (gL1 (τ 5)) (gL2 (τ 5)) (gL3 (τ 5)) (gI (τ 6)) H) (by kernel_rfl) h0 (fun τ1 H1 hf hI => fix_elim (τ := τ1) (i := 0) (v := (.slice x0 l0 c0)) (G := fun τ => vc Pr (sI zqv1_p6) τ (xthen (fun τ2 H2 => (mSl (τ2 5) fun x5' l5' c5' => mI .i64 (τ2 6) fun x6' => I x5' l5' c5' x6' H2) ∧ μ (gL1 (τ2 5)) (gL2 (τ2 5)) (gL3 (τ2 5)) (gI (τ2 6)) H2 < μ (gL1 (τ 5)) (gL2 (τ 5)) (gL3 (τ 5)) (gI (τ 6)) H1) (zqv1_q3 Q E)) E H1) (hf 0 (by simp)) (fix_elim (τ := (Tau.upd τ1 0 (.slice x0 l0 c0))) (i := 1) (v := (.slice x1 l1 c1)) (G := fun τ => vc Pr (sI zqv1_p6) τ (xthen (fun τ2 H2 => (mSl (τ2 5) fun x5' l5' c5' => mI .i64 (τ2 6) fun x6' => I x5' l5' c5' x6' H2) ∧ μ (gL1 (τ2 5)) (gL2 (τ2 5)) (gL3 (τ2 5)) (gI (τ2 6)) H2 < μ (gL1 (τ 5)) (gL2 (τ 5)) (gL3 (τ 5)) (gI (τ 6)) H1) (zqv1_q3 Q E)) E H1) (hf 1 (by simp)) (mSl_elim (i := 5) (G := fun τ => vc Pr (sI zqv1_p6) τ (xthen (fun τ2 H2 => (mSl (τ2 5) fun x5' l5' c5' => mI .i64 (τ2 6) fun x6' => I x5' l5' c5' x6' H2) ∧ μ (gL1 (τ2 5)) (gL2 (τ2 5)) (gL3 (τ2 5)) (gI (τ2 6)) H2 < μ (gL1 (τ 5)) (gL2 (τ 5)) (gL3 (τ 5)) (gI (τ 6)) H1) (zqv1_q3 Q E)) E H1) hI (fun x5r l5r c5r h => mI_elim (i := 6) (G := fun τ => vc Pr (sI zqv1_p6) τ (xthen (fun τ2 H2 => (mSl (τ2 5) fun x5' l5' c5' => mI .i64 (τ2 6) fun x6' => I x5' l5' c5' x6' H2) ∧ μ (gL1 (τ2 5)) (gL2 (τ2 5)) (gL3 (τ2 5)) (gI (τ2 6)) H2 < μ (gL1 (τ 5)) (gL2 (τ 5)) (gL3 (τ 5)) (gI (τ 6)) H1) (zqv1_q3 Q E)) E H1) h (fun x6r h => (conv (B := vc Pr (sI zqv1_p6) (Tau.upd (Tau.upd (Tau.upd (Tau.upd τ1 0 (.slice x0 l0 c0)) 1 (.slice x1 l1 c1)) 5 (.slice x5r l5r c5r)) 6 (.int .i64 x6r)) (xthen (fun τ2 H2 => (mSl (τ2 5) fun x5' l5' c5' => mI .i64 (τ2 6) fun x6' => I x5' l5' c5' x6' H2) ∧ μ (gL1 (τ2 5)) (gL2 (τ2 5)) (gL3 (τ2 5)) (gI (τ2 6)) H2 < μ (gL1 ((Tau.upd (Tau.upd (Tau.upd (Tau.upd τ1 0 (.slice x0 l0 c0)) 1 (.slice x1 l1 c1)) 5 (.slice x5r l5r c5r)) 6 (.int .i64 x6r)) 5)) (gL2 ((Tau.upd (Tau.upd (Tau.upd (Tau.upd τ1 0 (.slice x0 l0 c0)) 1 (.slice x1 l1 c1)) 5 (.slice x5r l5r c5r)) 6 (.int .i64 x6r)) 5)) (gL3 ((Tau.upd (Tau.upd (Tau.upd (Tau.upd τ1 0 (.slice x0 l0 c0)) 1 (.slice x1 l1 c1)) 5 (.slice x5r l5r c5r)) 6 (.int .i64 x6r)) 5)) (gI ((Tau.upd (Tau.upd (Tau.upd (Tau.upd τ1 0 (.slice x0 l0 c0)) 1 (.slice x1 l1 c1)) 5 (.slice x5r l5r c5r)) 6 (.int .i64 x6r)) 6)) H1) (zqv1_q3 Q E)) E H1) (by kernel_rfl) (vc_xthen (zqv1_20ok (fun x5' l5' c5' x6' H2 => I x5' l5' c5' x6' H2 ∧ μ x5' l5' c5' x6' H2 < μ x5r l5r c5r x6r H1) Q E (Tau.upd (Tau.upd (Tau.upd (Tau.upd τ1 0 (.slice x0 l0 c0)) 1 (.slice x1 l1 c1)) 5 (.slice x5r l5r c5r)) 6 (.int .i64 x6r)) H1 (conv (B := zqv1_18_M (fun x5' l5' c5' x6' H2 => I x5' l5' c5' x6' H2 ∧ μ x5' l5' c5' x6' H2 < μ x5r l5r c5r x6r H1) Q E (Tau.upd (Tau.upd (Tau.upd (Tau.upd τ1 0 (.slice x0 l0 c0)) 1 (.slice x1 l1 c1)) 5 (.slice x5r l5r c5r)) 6 (.int .i64 x6r)) H1) (by kernel_rfl) (hr x5r l5r c5r x6r H1 h))) (fun τ2 H2 hk => mSl_elim (i := 5) (G := fun τ => (mSl (τ 5) fun x5' l5' c5' => mI .i64 (τ 6) fun x6' => I x5' l5' c5' x6' H2) ∧ μ (gL1 (τ 5)) (gL2 (τ 5)) (gL3 (τ 5)) (gI (τ 6)) H2 < μ x5r l5r c5r x6r H1) hk (fun x5' l5' c5' h => mI_elim (i := 6) (G := fun τ => (mSl (τ 5) fun x5' l5' c5' => mI .i64 (τ 6) fun x6' => I x5' l5' c5' x6' H2) ∧ μ (gL1 (τ 5)) (gL2 (τ 5)) (gL3 (τ 5)) (gI (τ 6)) H2 < μ x5r l5r c5r x6r H1) h (fun x6' h => h))))))))))))))))

theorem zqv1_23ok (Q : QT) (E : ET) (τ : Tau) (H : Heap) (h : zqv1_21_M Q E τ H) : vc Pr zqv1_p5 τ (zqv1_q2 Q E) E H :=
  (conv (B := vc Pr zqv1_p5 τ (zqv1_q2 Q E) E H) (by kernel_rfl) (zqv1_22ok Q E τ H h))

@[reducible] noncomputable def zqv1_q11 (Q : QT) (E : ET) : Exit → Tau → Heap → Prop := (xthen (zqv1_21_M Q E) (zqv1_q2 Q E))

@[reducible] noncomputable def zqv1_p19 : Code := sA zqv1_p4

def zqv1_24 (Q : QT) (E : ET) (x0 : OA) (l0 : Nat) (c0 : Nat) (x1 : OA) (l1 : Nat) (c1 : Nat) (x5 : OA) (l5 : Nat) (c5 : Nat) (H : Heap) : Prop :=
 zqv1_21 Q E x0 l0 c0 x1 l1 c1 x5 l5 c5 0 H

def zqv1_24_M (Q : QT) (E : ET) (τ : Tau) (H : Heap) : Prop := mSl (τ 0) fun x0 l0 c0 => mSl (τ 1) fun x1 l1 c1 => mSl (τ 5) fun x5 l5 c5 => zqv1_24 Q E x0 l0 c0 x1 l1 c1 x5 l5 c5 H

theorem zqv1_25ok (Q : QT) (E : ET) (τ : Tau) (H : Heap) (h : zqv1_24_M Q E τ H) : vc Pr zqv1_p19 τ (zqv1_q11 Q E) E H :=
  vSl (i := 0) h (fun x0 l0 c0 h => vSl (i := 1) h (fun x1 l1 c1 h => vSl (i := 5) h (fun x5 l5 c5 h => (conv (by kernel_rfl) h))))

theorem zqv1_26ok (Q : QT) (E : ET) (τ : Tau) (H : Heap) (h : zqv1_24_M Q E τ H) : vc Pr zqv1_p4 τ (zqv1_q2 Q E) E H :=
  (conv (B := vc Pr zqv1_p4 τ (zqv1_q2 Q E) E H) (by kernel_rfl) (vc_seq (K := (zqv1_21_M Q E)) (zqv1_25ok Q E τ H h) (zqv1_23ok Q E)))

theorem zqv1_27ok (Q : QT) (E : ET) (τ : Tau) (H : Heap) (h : zqv1_24_M Q E τ H) : vc Pr zqv1_p2 τ (zqv1_q1 Q E) E H :=
  (conv (B := vc Pr zqv1_p2 τ (zqv1_q1 Q E) E H) (by kernel_rfl) (vc_seq (K := (zqv1_1_M Q E)) (zqv1_26ok Q E τ H h) (zqv1_2ok Q E)))

@[reducible] noncomputable def zqv1_q12 (Q : QT) (E : ET) : Exit → Tau → Heap → Prop := (xthen (zqv1_24_M Q E) (zqv1_q1 Q E))

@[reducible] noncomputable def zqv1_p20 : Code := sA zqv1_p1

def zqv1_28 (Q : QT) (E : ET) (x0 : OA) (l0 : Nat) (c0 : Nat) (x1 : OA) (l1 : Nat) (c1 : Nat) (H : Heap) : Prop :=
 zqv1_24 Q E x0 l0 c0 x1 l1 c1 none 0 0 H

def zqv1_28_M (Q : QT) (E : ET) (τ : Tau) (H : Heap) : Prop := mSl (τ 0) fun x0 l0 c0 => mSl (τ 1) fun x1 l1 c1 => zqv1_28 Q E x0 l0 c0 x1 l1 c1 H

theorem zqv1_29ok (Q : QT) (E : ET) (τ : Tau) (H : Heap) (h : zqv1_28_M Q E τ H) : vc Pr zqv1_p20 τ (zqv1_q12 Q E) E H :=
  vSl (i := 0) h (fun x0 l0 c0 h => vSl (i := 1) h (fun x1 l1 c1 h => (conv (by kernel_rfl) h)))

theorem zqv1_30ok (Q : QT) (E : ET) (τ : Tau) (H : Heap) (h : zqv1_28_M Q E τ H) : vc Pr zqv1_p1 τ (zqv1_q1 Q E) E H :=
  (conv (B := vc Pr zqv1_p1 τ (zqv1_q1 Q E) E H) (by kernel_rfl) (vc_seq (K := (zqv1_24_M Q E)) (zqv1_29ok Q E τ H h) (zqv1_27ok Q E)))

@[reducible] noncomputable def zqv1_q13 (Q : QT) (E : ET) : Exit → Tau → Heap → Prop := (xthen (zqv1_28_M Q E) (zqv1_q1 Q E))

@[reducible] noncomputable def zqv1_p21 : Code := sA zqv1_p0

def zqv1 (Q : QT) (E : ET) (a0 : OA) (a0l : Nat) (a0c : Nat) (a1 : OA) (a1l : Nat) (a1c : Nat) (H : Heap) : Prop :=
 zqv1_28 Q E a0 a0l a0c a1 a1l a1c H

theorem zqv1_fn (a0 : OA) (a0l : Nat) (a0c : Nat) (a1 : OA) (a1l : Nat) (a1c : Nat) (Q : QT) (E : ET) (H : Heap) (h : zqv1 Q E a0 a0l a0c a1 a1l a1c H)   : Does Pr 55 #[(.slice a0 a0l a0c), (.slice a1 a1l a1c)] H Q E :=
  Fn_of_vc (fn := Try.f55) (c := zqv1_p0) (args := [(.slice a0 a0l a0c), (.slice a1 a1l a1c)]) mixed (by kernel_rfl) (by kernel_rfl) (by kernel_rfl) (by kernel_rfl) (by kernel_rfl) ((conv (B := vc Pr zqv1_p0 (argT [(.slice a0 a0l a0c), (.slice a1 a1l a1c)]) (zqv1_q1 Q E) E H) (by kernel_rfl) (vc_seq (K := (zqv1_28_M Q E)) (conv (B := vc Pr zqv1_p21 (argT [(.slice a0 a0l a0c), (.slice a1 a1l a1c)]) (zqv1_q13 Q E) E H) (by kernel_rfl) h) (zqv1_30ok Q E))))

/-! jobmux/jobmuxref09.then -/
@[reducible] noncomputable def zqw1_q1 (Q : QT) (E : ET) : Exit → Tau → Heap → Prop := (retQ Pr (Try.f84).results.toList Q)

@[reducible] noncomputable def zqw1_p0 : Code := bodyOf Try.f84

@[reducible] noncomputable def zqw1_p1 : Code := sB zqw1_p0

@[reducible] noncomputable def zqw1_p2 : Code := sB zqw1_p1

@[reducible] noncomputable def zqw1_p3 : Code := sB zqw1_p2

def zqw1_1 (Q : QT) (E : ET) (x5 : OA) (l5 : Nat) (c5 : Nat) (H : Heap) : Prop :=
 Q (.slice x5 l5 c5) H

def zqw1_1_M (Q : QT) (E : ET) (τ : Tau) (H : Heap) : Prop := mSl (τ 5) fun x5 l5 c5 => zqw1_1 Q E x5 l5 c5 H

theorem zqw1_2ok (Q : QT) (E : ET) (τ : Tau) (H : Heap) (h : zqw1_1_M Q E τ H) : vc Pr zqw1_p3 τ (zqw1_q1 Q E) E H :=
  vSl (i := 5) h (fun x5 l5 c5 h => (conv (by kernel_rfl) h))

@[reducible] noncomputable def zqw1_q2 (Q : QT) (E : ET) : Exit → Tau → Heap → Prop := (xthen (zqw1_1_M Q E) (zqw1_q1 Q E))

@[reducible] noncomputable def zqw1_p4 : Code := sA zqw1_p2

@[reducible] noncomputable def zqw1_p5 : Code := sB zqw1_p4

@[reducible] noncomputable def zqw1_q3 (Q : QT) (E : ET) : Exit → Tau → Heap → Prop := (xblock 0 (zqw1_q2 Q E))

@[reducible] noncomputable def zqw1_p6 : Code := sI zqw1_p5

@[reducible] noncomputable def zqw1_q4 (nx32 : Int → HP) (Q : QT) (E : ET) : Exit → Tau → Heap → Prop := (xthen (fun τ H => mI .i64 (τ 6) fun x6' => nx32 x6' H) (zqw1_q3 Q E))

@[reducible] noncomputable def zqw1_p7 : Code := sI zqw1_p6

@[reducible] noncomputable def zqw1_p8 : Code := sB zqw1_p7

@[reducible] noncomputable def zqw1_p9 : Code := sB zqw1_p8

def zqw1_3 (nx32 : Int → HP) (Q : QT) (E : ET) (x0 : OA) (l0 : Nat) (c0 : Nat) (x1 : OA) (l1 : Nat) (c1 : Nat) (x5 : OA) (l5 : Nat) (c5 : Nat) (x6 : Int) (H : Heap) : Prop :=
 nx32 (IntKind.wrap .i64 (x6 + 1)) H

def zqw1_3_M (nx32 : Int → HP) (Q : QT) (E : ET) (τ : Tau) (H : Heap) : Prop := mSl (τ 0) fun x0 l0 c0 => mSl (τ 1) fun x1 l1 c1 => mSl (τ 5) fun x5 l5 c5 => mI .i64 (τ 6) fun x6 => zqw1_3 nx32 Q E x0 l0 c0 x1 l1 c1 x5 l5 c5 x6 H

theorem zqw1_4ok (nx32 : Int → HP) (Q : QT) (E : ET) (τ : Tau) (H : Heap) (h : zqw1_3_M nx32 Q E τ H) : vc Pr zqw1_p9 τ (zqw1_q4 nx32 Q E) E H :=
  vSl (i := 0) h (fun x0 l0 c0 h => vSl (i := 1) h (fun x1 l1 c1 h => vSl (i := 5) h (fun x5 l5 c5 h => vI (i := 6) h (fun x6 h => (conv (by kernel_rfl) h)))))

@[reducible] noncomputable def zqw1_q5 (nx32 : Int → HP) (Q : QT) (E : ET) : Exit → Tau → Heap → Prop := (xthen (zqw1_3_M nx32 Q E) (zqw1_q4 nx32 Q E))

@[reducible] noncomputable def zqw1_p10 : Code := sA zqw1_p8

@[reducible] noncomputable def zqw1_q6 (nx32 : Int → HP) (Q : QT) (E : ET) : Exit → Tau → Heap → Prop := (xblock 1 (zqw1_q5 nx32 Q E))

@[reducible] noncomputable def zqw1_p11 : Code := sI zqw1_p10

@[reducible] noncomputable def zqw1_p12 : Code := sB zqw1_p11

@[reducible] noncomputable def zqw1_q7 (nx32 : Int → HP) (Q : QT) (E : ET) : Exit → Tau → Heap → Prop := (xblock 2 (zqw1_q6 nx32 Q E))

@[reducible] noncomputable def zqw1_p13 : Code := sI zqw1_p12

@[reducible] noncomputable def zqw1_q8 (nx32 : Int → HP) (nx59 : Int → HP) (Q : QT) (E : ET) : Exit → Tau → Heap → Prop := (xthen (fun τ H => mI .i64 (τ 7) fun x7' => nx59 x7' H) (zqw1_q7 nx32 Q E))

@[reducible] noncomputable def zqw1_p14 : Code := sI zqw1_p13

@[reducible] noncomputable def zqw1_p15 : Code := sB zqw1_p14

@[reducible] noncomputable def zqw1_p16 : Code := sB zqw1_p15

def zqw1_5 (nx32 : Int → HP) (nx59 : Int → HP) (Q : QT) (E : ET) (x0 : OA) (l0 : Nat) (c0 : Nat) (x1 : OA) (l1 : Nat) (c1 : Nat) (x5 : OA) (l5 : Nat) (c5 : Nat) (x6 : Int) (x7 : Int) (H : Heap) : Prop :=
 nx59 (IntKind.wrap .i64 (x7 + 1)) H

def zqw1_5_M (nx32 : Int → HP) (nx59 : Int → HP) (Q : QT) (E : ET) (τ : Tau) (H : Heap) : Prop := mSl (τ 0) fun x0 l0 c0 => mSl (τ 1) fun x1 l1 c1 => mSl (τ 5) fun x5 l5 c5 => mI .i64 (τ 6) fun x6 => mI .i64 (τ 7) fun x7 => zqw1_5 nx32 nx59 Q E x0 l0 c0 x1 l1 c1 x5 l5 c5 x6 x7 H

theorem zqw1_6ok (nx32 : Int → HP) (nx59 : Int → HP) (Q : QT) (E : ET) (τ : Tau) (H : Heap) (h : zqw1_5_M nx32 nx59 Q E τ H) : vc Pr zqw1_p16 τ (zqw1_q8 nx32 nx59 Q E) E H :=
  vSl (i := 0) h (fun x0 l0 c0 h => vSl (i := 1) h (fun x1 l1 c1 h => vSl (i := 5) h (fun x5 l5 c5 h => vI (i := 6) h (fun x6 h => vI (i := 7) h (fun x7 h => (conv (by kernel_rfl) h))))))

@[reducible] noncomputable def zqw1_q9 (nx32 : Int → HP) (nx59 : Int → HP) (Q : QT) (E : ET) : Exit → Tau → Heap → Prop := (xthen (zqw1_5_M nx32 nx59 Q E) (zqw1_q8 nx32 nx59 Q E))

@[reducible] noncomputable def zqw1_p17 : Code := sA zqw1_p15

@[reducible] noncomputable def zqw1_q10 (nx32 : Int → HP) (nx59 : Int → HP) (Q : QT) (E : ET) : Exit → Tau → Heap → Prop := (xblock 3 (zqw1_q9 nx32 nx59 Q E))

@[reducible] noncomputable def zqw1_p18 : Code := sI zqw1_p17

@[reducible] noncomputable def zqw1_p19 : Code := sB zqw1_p18

@[reducible] noncomputable def zqw1_q11 (nx32 : Int → HP) (nx59 : Int → HP) (Q : QT) (E : ET) : Exit → Tau → Heap → Prop := (xblock 4 (zqw1_q10 nx32 nx59 Q E))

@[reducible] noncomputable def zqw1_p20 : Code := sI zqw1_p19

@[reducible] noncomputable def zqw1_q12 (nx32 : Int → HP) (nx59 : Int → HP) (nx86 : Int → HP) (Q : QT) (E : ET) : Exit → Tau → Heap → Prop := (xthen (fun τ H => mI .i64 (τ 8) fun x8' => nx86 x8' H) (zqw1_q11 nx32 nx59 Q E))

@[reducible] noncomputable def zqw1_p21 : Code := sI zqw1_p20

@[reducible] noncomputable def zqw1_p22 : Code := sB zqw1_p21

@[reducible] noncomputable def zqw1_p23 : Code := sB zqw1_p22

def zqw1_7 (nx32 : Int → HP) (nx59 : Int → HP) (nx86 : Int → HP) (Q : QT) (E : ET) (x0 : OA) (l0 : Nat) (c0 : Nat) (x1 : OA) (l1 : Nat) (c1 : Nat) (x5 : OA) (l5 : Nat) (c5 : Nat) (x6 : Int) (x7 : Int) (x8 : Int) (H : Heap) : Prop :=
 nx86 (IntKind.wrap .i64 (x8 + 1)) H

def zqw1_7_M (nx32 : Int → HP) (nx59 : Int → HP) (nx86 : Int → HP) (Q : QT) (E : ET) (τ : Tau) (H : Heap) : Prop := mSl (τ 0) fun x0 l0 c0 => mSl (τ 1) fun x1 l1 c1 => mSl (τ 5) fun x5 l5 c5 => mI .i64 (τ 6) fun x6 => mI .i64 (τ 7) fun x7 => mI .i64 (τ 8) fun x8 => zqw1_7 nx32 nx59 nx86 Q E x0 l0 c0 x1 l1 c1 x5 l5 c5 x6 x7 x8 H

theorem zqw1_8ok (nx32 : Int → HP) (nx59 : Int → HP) (nx86 : Int → HP) (Q : QT) (E : ET) (τ : Tau) (H : Heap) (h : zqw1_7_M nx32 nx59 nx86 Q E τ H) : vc Pr zqw1_p23 τ (zqw1_q12 nx32 nx59 nx86 Q E) E H :=
  vSl (i := 0) h (fun x0 l0 c0 h => vSl (i := 1) h (fun x1 l1 c1 h => vSl (i := 5) h (fun x5 l5 c5 h => vI (i := 6) h (fun x6 h => vI (i := 7) h (fun x7 h => vI (i := 8) h (fun x8 h => (conv (by kernel_rfl) h)))))))

@[reducible] noncomputable def zqw1_q13 (nx32 : Int → HP) (nx59 : Int → HP) (nx86 : Int → HP) (Q : QT) (E : ET) : Exit → Tau → Heap → Prop := (xthen (zqw1_7_M nx32 nx59 nx86 Q E) (zqw1_q12 nx32 nx59 nx86 Q E))

@[reducible] noncomputable def zqw1_p24 : Code := sA zqw1_p22

def zqw1_9 (nx32 : Int → HP) (nx59 : Int → HP) (nx86 : Int → HP) (Q : QT) (E : ET) (x0 : OA) (l0 : Nat) (c0 : Nat) (x1 : OA) (l1 : Nat) (c1 : Nat) (x5 : OA) (l5 : Nat) (c5 : Nat) (x6 : Int) (x7 : Int) (x8 : Int) (H : Heap) : Prop :=
 (0 ≤ (x6 : Int) ∧ (x6 : Int) < ((l5 : Nat) : Int)) ∧ ptr x5 fun q113 =>
 ldSl (Addr.add q113 ((x6 : Int).toNat * 1)) H fun p114 l115 c116 =>
 (0 ≤ (x6 : Int) ∧ (x6 : Int) < ((l5 : Nat) : Int)) ∧ ptr x5 fun q117 =>
 ldSl (Addr.add q117 ((x6 : Int).toNat * 1)) H fun p118 l119 c120 =>
 (0 ≤ (x8 : Int) ∧ (x8 : Int) < ((l119 : Nat) : Int)) ∧ ptr p118 fun q121 =>
 ldB (Addr.add q121 ((x8 : Int).toNat * 1)) H fun b122 =>
 sel b122
 ((0 ≤ (x8 : Int) ∧ (x8 : Int) < ((l115 : Nat) : Int)) ∧ ptr p114 fun q123 =>
 wr (Addr.add q123 ((x8 : Int).toNat * 1)) [(.bool true)] H fun H124 =>
 zqw1_7 nx32 nx59 nx86 Q E x0 l0 c0 x1 l1 c1 x5 l5 c5 x6 x7 x8 H124)
 ((0 ≤ (x7 : Int) ∧ (x7 : Int) < ((l1 : Nat) : Int)) ∧ ptr x1 fun q125 =>
 ldSl (Addr.add q125 ((x7 : Int).toNat * 1)) H fun p126 l127 c128 =>
 (0 ≤ (x8 : Int) ∧ (x8 : Int) < ((l127 : Nat) : Int)) ∧ ptr p126 fun q129 =>
 ldB (Addr.add q129 ((x8 : Int).toNat * 1)) H fun b130 =>
 (0 ≤ (x8 : Int) ∧ (x8 : Int) < ((l115 : Nat) : Int)) ∧ ptr p114 fun q131 =>
 wr (Addr.add q131 ((x8 : Int).toNat * 1)) [(.bool b130)] H fun H132 =>
 zqw1_7 nx32 nx59 nx86 Q E x0 l0 c0 x1 l1 c1 x5 l5 c5 x6 x7 x8 H132)

def zqw1_9_M (nx32 : Int → HP) (nx59 : Int → HP) (nx86 : Int → HP) (Q : QT) (E : ET) (τ : Tau) (H : Heap) : Prop := mSl (τ 0) fun x0 l0 c0 => mSl (τ 1) fun x1 l1 c1 => mSl (τ 5) fun x5 l5 c5 => mI .i64 (τ 6) fun x6 => mI .i64 (τ 7) fun x7 => mI .i64 (τ 8) fun x8 => zqw1_9 nx32 nx59 nx86 Q E x0 l0 c0 x1 l1 c1 x5 l5 c5 x6 x7 x8 H

theorem zqw1_10ok (nx32 : Int → HP) (nx59 : Int → HP) (nx86 : Int → HP) (Q : QT) (E : ET) (τ : Tau) (H : Heap) (h : zqw1_9_M nx32 nx59 nx86 Q E τ H) : vc Pr zqw1_p24 τ (zqw1_q13 nx32 nx59 nx86 Q E) E H :=
  vSl (i := 0) h (fun x0 l0 c0 h => vSl (i := 1) h (fun x1 l1 c1 h => vSl (i := 5) h (fun x5 l5 c5 h => vI (i := 6) h (fun x6 h => vI (i := 7) h (fun x7 h => vI (i := 8) h (fun x8 h => (conv (by kernel_rfl) h)))))))

theorem zqw1_11ok (nx32 : Int → HP) (nx59 : Int → HP) (nx86 : Int → HP) (Q : QT) (E : ET) (τ : Tau) (H : Heap) (h : zqw1_9_M nx32 nx59 nx86 Q E τ H) : vc Pr zqw1_p22 τ (zqw1_q12 nx32 nx59 nx86 Q E) E H :=
  (conv (B := vc Pr zqw1_p22 τ (zqw1_q12 nx32 nx59 nx86 Q E) E H) (by kernel_rfl) (vc_seq (K := (zqw1_7_M nx32 nx59 nx86 Q E)) (zqw1_10ok nx32 nx59 nx86 Q E τ H h) (zqw1_8ok nx32 nx59 nx86 Q E)))

@[reducible] noncomputable def zqw1_q14 (nx32 : Int → HP) (nx59 : Int → HP) (nx86 : Int → HP) (Q : QT) (E : ET) : Exit → Tau → Heap → Prop := (xthen (zqw1_9_M nx32 nx59 nx86 Q E) (zqw1_q12 nx32 nx59 nx86 Q E))

@[reducible] noncomputable def zqw1_p25 : Code := sA zqw1_p21

@[reducible] noncomputable def zqw1_p26 : Code := sB zqw1_p25

def zqw1_12 (nx32 : Int → HP) (nx59 : Int → HP) (nx86 : Int → HP) (Q : QT) (E : ET) (x0 : OA) (l0 : Nat) (c0 : Nat) (x1 : OA) (l1 : Nat) (c1 : Nat) (x5 : OA) (l5 : Nat) (c5 : Nat) (x6 : Int) (x7 : Int) (x8 : Int) (x36 : Bool) (H : Heap) : Prop :=
 sel x36
 (zqw1_9 nx32 nx59 nx86 Q E x0 l0 c0 x1 l1 c1 x5 l5 c5 x6 x7 x8 H)
 (zqw1_5 nx32 nx59 Q E x0 l0 c0 x1 l1 c1 x5 l5 c5 x6 x7 H)

def zqw1_12_M (nx32 : Int → HP) (nx59 : Int → HP) (nx86 : Int → HP) (Q : QT) (E : ET) (τ : Tau) (H : Heap) : Prop := mSl (τ 0) fun x0 l0 c0 => mSl (τ 1) fun x1 l1 c1 => mSl (τ 5) fun x5 l5 c5 => mI .i64 (τ 6) fun x6 => mI .i64 (τ 7) fun x7 => mI .i64 (τ 8) fun x8 => mB (τ 36) fun x36 => zqw1_12 nx32 nx59 nx86 Q E x0 l0 c0 x1 l1 c1 x5 l5 c5 x6 x7 x8 x36 H

theorem zqw1_13ok (nx32 : Int → HP) (nx59 : Int → HP) (nx86 : Int → HP) (Q : QT) (E : ET) (τ : Tau) (H : Heap) (h : zqw1_12_M nx32 nx59 nx86 Q E τ H) : vc Pr zqw1_p26 τ (zqw1_q14 nx32 nx59 nx86 Q E) E H :=
  vSl (i := 0) h (fun x0 l0 c0 h => vSl (i := 1) h (fun x1 l1 c1 h => vSl (i := 5) h (fun x5 l5 c5 h => vI (i := 6) h (fun x6 h => vI (i := 7) h (fun x7 h => vI (i := 8) h (fun x8 h => vB (i := 36) h (fun x36 h => (conv (by kernel_rfl) h))))))))

@[reducible] noncomputable def zqw1_q15 (nx32 : Int → HP) (nx59 : Int → HP) (nx86 : Int → HP) (Q : QT) (E : ET) : Exit → Tau → Heap → Prop := (xthen (zqw1_12_M nx32 nx59 nx86 Q E) (zqw1_q14 nx32 nx59 nx86 Q E))

@[reducible] noncomputable def zqw1_p27 : Code := sA zqw1_p25

def zqw1_14 (nx32 : Int → HP) (nx59 : Int → HP) (nx86 : Int → HP) (Q : QT) (E : ET) (x0 : OA) (l0 : Nat) (c0 : Nat) (x1 : OA) (l1 : Nat) (c1 : Nat) (x5 : OA) (l5 : Nat) (c5 : Nat) (x6 : Int) (x7 : Int) (x8 : Int) (H : Heap) : Prop :=
 sel (decide ((x8 : Int) < ((l0 : Nat) : Int)))
 ((0 ≤ (x6 : Int) ∧ (x6 : Int) < ((l0 : Nat) : Int)) ∧ ptr x0 fun q139 =>
 ldSl (Addr.add q139 ((x6 : Int).toNat * 1)) H fun p140 l141 c142 =>
 (0 ≤ (x7 : Int) ∧ (x7 : Int) < ((l141 : Nat) : Int)) ∧ ptr p140 fun q143 =>
 ldB (Addr.add q143 ((x7 : Int).toNat * 1)) H fun b144 =>
 zqw1_12 nx32 nx59 nx86 Q E x0 l0 c0 x1 l1 c1 x5 l5 c5 x6 x7 x8 b144 H)
 (zqw1_12 nx32 nx59 nx86 Q E x0 l0 c0 x1 l1 c1 x5 l5 c5 x6 x7 x8 false H)

def zqw1_14_M (nx32 : Int → HP) (nx59 : Int → HP) (nx86 : Int → HP) (Q : QT) (E : ET) (τ : Tau) (H : Heap) : Prop := mSl (τ 0) fun x0 l0 c0 => mSl (τ 1) fun x1 l1 c1 => mSl (τ 5) fun x5 l5 c5 => mI .i64 (τ 6) fun x6 => mI .i64 (τ 7) fun x7 => mI .i64 (τ 8) fun x8 => zqw1_14 nx32 nx59 nx86 Q E x0 l0 c0 x1 l1 c1 x5 l5 c5 x6 x7 x8 H

theorem zqw1_15ok (nx32 : Int → HP) (nx59 : Int → HP) (nx86 : Int → HP) (Q : QT) (E : ET) (τ : Tau) (H : Heap) (h : zqw1_14_M nx32 nx59 nx86 Q E τ H) : vc Pr zqw1_p27 τ (zqw1_q15 nx32 nx59 nx86 Q E) E H :=
  vSl (i := 0) h (fun x0 l0 c0 h => vSl (i := 1) h (fun x1 l1 c1 h => vSl (i := 5) h (fun x5 l5 c5 h => vI (i := 6) h (fun x6 h => vI (i := 7) h (fun x7 h => vI (i := 8) h (fun x8 h => (conv (by kernel_rfl) h)))))))

theorem zqw1_16ok (nx32 : Int → HP) (nx59 : Int → HP) (nx86 : Int → HP) (Q : QT) (E : ET) (τ : Tau) (H : Heap) (h : zqw1_14_M nx32 nx59 nx86 Q E τ H) : vc Pr zqw1_p25 τ (zqw1_q14 nx32 nx59 nx86 Q E) E H :=
  (conv (B := vc Pr zqw1_p25 τ (zqw1_q14 nx32 nx59 nx86 Q E) E H) (by kernel_rfl) (vc_seq (K := (zqw1_12_M nx32 nx59 nx86 Q E)) (zqw1_15ok nx32 nx59 nx86 Q E τ H h) (zqw1_13ok nx32 nx59 nx86 Q E)))

theorem zqw1_17ok (nx32 : Int → HP) (nx59 : Int → HP) (nx86 : Int → HP) (Q : QT) (E : ET) (τ : Tau) (H : Heap) (h : zqw1_14_M nx32 nx59 nx86 Q E τ H) : vc Pr zqw1_p21 τ (zqw1_q12 nx32 nx59 nx86 Q E) E H :=
  (conv (B := vc Pr zqw1_p21 τ (zqw1_q12 nx32 nx59 nx86 Q E) E H) (by kernel_rfl) (vc_seq (K := (zqw1_9_M nx32 nx59 nx86 Q E)) (zqw1_16ok nx32 nx59 nx86 Q E τ H h) (zqw1_11ok nx32 nx59 nx86 Q E)))

def zqw1_18 (nx32 : Int → HP) (nx59 : Int → HP) (Q : QT) (E : ET) (x0 : OA) (l0 : Nat) (c0 : Nat) (x1 : OA) (l1 : Nat) (c1 : Nat) (x5 : OA) (l5 : Nat) (c5 : Nat) (x6 : Int) (x7 : Int) (x8 : Int) (H : Heap) : Prop :=
 ∃ (I : Int → HP) (μ : Int → Heap → Nat), I x8 H ∧ ∀ (x8 : Int) (H : Heap), I x8 H →
 zqw1_14 nx32 nx59 (fun x8' H1 => I x8' H1 ∧ μ x8' H1 < μ x8 H) Q E x0 l0 c0 x1 l1 c1 x5 l5 c5 x6 x7 x8 H

def zqw1_18_M (nx32 : Int → HP) (nx59 : Int → HP) (Q : QT) (E : ET) (τ : Tau) (H : Heap) : Prop := mSl (τ 0) fun x0 l0 c0 => mSl (τ 1) fun x1 l1 c1 => mSl (τ 5) fun x5 l5 c5 => mI .i64 (τ 6) fun x6 => mI .i64 (τ 7) fun x7 => mI .i64 (τ 8) fun x8 => zqw1_18 nx32 nx59 Q E x0 l0 c0 x1 l1 c1 x5 l5 c5 x6 x7 x8 H

theorem zqw1_19ok (nx32 : Int → HP) (nx59 : Int → HP) (Q : QT) (E : ET) (τ : Tau) (H : Heap) (h : zqw1_18_M nx32 nx59 Q E τ H) : vc Pr zqw1_p20 τ (zqw1_q11 nx32 nx59 Q E) E H :=
  vSl (i := 0) h (fun x0 l0 c0 h => vSl (i := 1) h (fun x1 l1 c1 h => vSl (i := 5) h (fun x5 l5 c5 h => vI (i := 6) h (fun x6 h => vI (i := 7) h (fun x7 h => vI (i := 8) h (fun x8 h => match h with | ⟨I, μ, h0, hr⟩ => (conv (B := vc Pr zqw1_p20 (Tau.upd (Tau.upd (Tau.upd (Tau.upd (Tau.upd (Tau.upd τ 0 (.slice x0 l0 c0)) 1 (.slice x1 l1 c1)) 5 (.slice x5 l5 c5)) 6 (.int .i64 x6)) 7 (.int .i64 x7)) 8 (.int .i64 x8)) (zqw1_q11 nx32 nx59 Q E) E H) (by kernel_rfl) (vc_loop (c := sI zqw1_p20) (τ := (Tau.upd (Tau.upd (Tau.upd (Tau.upd (Tau.upd (Tau.upd τ 0 (.slice x0 l0 c0)) 1 (.slice x1 l1 c1)) 5 (.slice x5 l5 c5)) 6 (.int .i64 x6)) 7 (.int .i64 x7)) 8 (.int .i64 x8))) [0, 1, 5, 6, 7] (fun τ H => mI .i64 (τ 8) fun x8' => I x8' H) (fun τ H => μ (gI (τ 8)) H) (by kernel_rfl) h0 (fun τ1 H1 hf hI => fix_elim (τ := τ1) (i := 0) (v := (.slice x0 l0 c0)) (G := fun τ => vc Pr (sI zqw1_p20) τ (xthen (fun τ2 H2 => (mI .i64 (τ2 8) fun x8' => I x8' H2) ∧ μ (gI (τ2 8)) H2 < μ (gI (τ 8)) H1) (zqw1_q11 nx32 nx59 Q E)) E H1) (hf 0 (by simp)) (fix_elim (τ := (Tau.upd τ1 0 (.slice x0 l0 c0))) (i := 1) (v := (.slice x1 l1 c1)) (G := fun τ => vc Pr (sI zqw1_p20) τ (xthen (fun τ2 H2 => (mI .i64 (τ2 8) fun x8' => I x8' H2) ∧ μ (gI (τ2 8)) H2 < μ (gI (τ 8)) H1) (zqw1_q11 nx32 nx59 Q E)) E H1) (hf 1 (by simp)) (fix_elim (τ := (Tau.upd (Tau.upd τ1 0 (.slice x0 l0 c0)) 1 (.slice x1 l1 c1))) (i := 5) (v := (.slice x5 l5 c5)) (G := fun τ => vc Pr (sI zqw1_p20) τ (xthen (fun τ2 H2 => (mI .i64 (τ2 8) fun x8' => I x8' H2) ∧ μ (gI (τ2 8)) H2 < μ (gI (τ 8)) H1) (zqw1_q11 nx32 nx59 Q E)) E H1) (hf 5 (by simp)) (fix_elim (τ := (Tau.upd (Tau.upd (Tau.upd τ1 0 (.slice x0 l0 c0)) 1 (.slice x1 l1 c1)) 5 (.slice x5 l5 c5))) (i := 6) (v := (.int .i64 x6)) (G := fun τ => vc Pr (sI zqw1_p20) τ (xthen (fun τ2 H2 => (mI .i64 (τ2 8) fun x8' => I x8' H2) ∧ μ (gI (τ2 8)) H2 < μ (gI (τ 8)) H1) (zqw1_q11 nx32 nx59 Q E)) E H1) (hf 6 (by simp)) (fix_elim (τ := (Tau.upd (Tau.upd (Tau.upd (Tau.upd τ1 0 (.slice x0 l0 c0)) 1 (.slice x1 l1 c1)) 5 (.slice x5 l5 c5)) 6 (.int .i64 x6))) (i := 7) (v := (.int .i64 x7)) (G := fun τ => vc Pr (sI zqw1_p20) τ (xthen (fun τ2 H2 => (mI .i64 (τ2 8) fun x8' => I x8' H2) ∧ μ (gI (τ2 8)) H2 < μ (gI (τ 8)) H1) (zqw1_q11 nx32 nx59 Q E)) E H1) (hf 7 (by simp)) (mI_elim (i := 8) (G := fun τ => vc Pr (sI zqw1_p20) τ (xthen (fun τ2 H2 => (mI .i64 (τ2 8) fun x8' => I x8' H2) ∧ μ (gI (τ2 8)) H2 < μ (gI (τ 8)) H1) (zqw1_q11 nx32 nx59 Q E)) E H1) hI (fun x8r h => (conv (B := vc Pr (sI zqw1_p20) (Tau.upd (Tau.upd (Tau.upd (Tau.upd (Tau.upd (Tau.upd τ1 0 (.slice x0 l0 c0)) 1 (.slice x1 l1 c1)) 5 (.slice x5 l5 c5)) 6 (.int .i64 x6)) 7 (.int .i64 x7)) 8 (.int .i64 x8r)) (xthen (fun τ2 H2 => (mI .i64 (τ2 8) fun x8' => I x8' H2) ∧ μ (gI (τ2 8)) H2 < μ (gI ((Tau.upd (Tau.upd (Tau.upd (Tau.upd (Tau.upd (Tau.upd τ1 0 (.slice x0 l0 c0)) 1 (.slice x1 l1 c1)) 5 (.slice x5 l5 c5)) 6 (.int .i64 x6)) 7 (.int .i64 x7)) 8 (.int .i64 x8r)) 8)) H1) (zqw1_q11 nx32 nx59 Q E)) E H1) (by kernel_rfl) (vc_xthen (zqw1_17ok nx32 nx59 (fun x8' H2 => I x8' H2 ∧ μ x8' H2 < μ x8r H1) Q E (Tau.upd (Tau.upd (Tau.upd (Tau.upd (Tau.upd (Tau.upd τ1 0 (.slice x0 l0 c0)) 1 (.slice x1 l1 c1)) 5 (.slice x5 l5 c5)) 6 (.int .i64 x6)) 7 (.int .i64 x7)) 8 (.int .i64 x8r)) H1 (conv (B := zqw1_14_M nx32 nx59 (fun x8' H2 => I x8' H2 ∧ μ x8' H2 < μ x8r H1) Q E (Tau.upd (Tau.upd (Tau.upd (Tau.upd (Tau.upd (Tau.upd τ1 0 (.slice x0 l0 c0)) 1 (.slice x1 l1 c1)) 5 (.slice x5 l5 c5)) 6 (.int .i64 x6)) 7 (.int .i64 x7)) 8 (.int .i64 x8r)) H1) (by kernel_rfl) (hr x8r H1 h))) (fun τ2 H2 hk => mI_elim (i := 8) (G := fun τ => (mI .i64 (τ 8) fun x8' => I x8' H2) ∧ μ (gI (τ 8)) H2 < μ x8r H1) hk (fun x8' h => h)))))))))))))))))))

theorem zqw1_20ok (nx32 : Int → HP) (nx59 : Int → HP) (Q : QT) (E : ET) (τ : Tau) (H : Heap) (h : zqw1_18_M nx32 nx59 Q E τ H) : vc Pr zqw1_p19 τ (zqw1_q10 nx32 nx59 Q E) E H :=
  (conv (B := vc Pr zqw1_p19 τ (zqw1_q10 nx32 nx59 Q E) E H) (by kernel_rfl) (zqw1_19ok nx32 nx59 Q E τ H h))

@[reducible] noncomputable def zqw1_q16 (nx32 : Int → HP) (nx59 : Int → HP) (Q : QT) (E : ET) : Exit → Tau → Heap → Prop := (xthen (zqw1_18_M nx32 nx59 Q E) (zqw1_q10 nx32 nx59 Q E))

@[reducible] noncomputable def zqw1_p28 : Code := sA zqw1_p18

def zqw1_21 (nx32 : Int → HP) (nx59 : Int → HP) (Q : QT) (E : ET) (x0 : OA) (l0 : Nat) (c0 : Nat) (x1 : OA) (l1 : Nat) (c1 : Nat) (x5 : OA) (l5 : Nat) (c5 : Nat) (x6 : Int) (x7 : Int) (H : Heap) : Prop :=
 zqw1_18 nx32 nx59 Q E x0 l0 c0 x1 l1 c1 x5 l5 c5 x6 x7 0 H

def zqw1_21_M (nx32 : Int → HP) (nx59 : Int → HP) (Q : QT) (E : ET) (τ : Tau) (H : Heap) : Prop := mSl (τ 0) fun x0 l0 c0 => mSl (τ 1) fun x1 l1 c1 => mSl (τ 5) fun x5 l5 c5 => mI .i64 (τ 6) fun x6 => mI .i64 (τ 7) fun x7 => zqw1_21 nx32 nx59 Q E x0 l0 c0 x1 l1 c1 x5 l5 c5 x6 x7 H

theorem zqw1_22ok (nx32 : Int → HP) (nx59 : Int → HP) (Q : QT) (E : ET) (τ : Tau) (H : Heap) (h : zqw1_21_M nx32 nx59 Q E τ H) : vc Pr zqw1_p28 τ (zqw1_q16 nx32 nx59 Q E) E H :=
  vSl (i := 0) h (fun x0 l0 c0 h => vSl (i := 1) h (fun x1 l1 c1 h => vSl (i := 5) h (fun x5 l5 c5 h => vI (i := 6) h (fun x6 h => vI (i := 7) h (fun x7 h => (conv (by kernel_rfl) h))))))

theorem zqw1_23ok (nx32 : Int → HP) (nx59 : Int → HP) (Q : QT) (E : ET) (τ : Tau) (H : Heap) (h : zqw1_21_M nx32 nx59 Q E τ H) : vc Pr zqw1_p18 τ (zqw1_q10 nx32 nx59 Q E) E H :=
  (conv (B := vc Pr zqw1_p18 τ (zqw1_q10 nx32 nx59 Q E) E H) (by kernel_rfl) (vc_seq (K := (zqw1_18_M nx32 nx59 Q E)) (zqw1_22ok nx32 nx59 Q E τ H h) (zqw1_20ok nx32 nx59 Q E)))

theorem zqw1_24ok (nx32 : Int → HP) (nx59 : Int → HP) (Q : QT) (E : ET) (τ : Tau) (H : Heap) (h : zqw1_21_M nx32 nx59 Q E τ H) : vc Pr zqw1_p17 τ (zqw1_q9 nx32 nx59 Q E) E H :=
  (conv (B := vc Pr zqw1_p17 τ (zqw1_q9 nx32 nx59 Q E) E H) (by kernel_rfl) (zqw1_23ok nx32 nx59 Q E τ H h))

theorem zqw1_25ok (nx32 : Int → HP) (nx59 : Int → HP) (Q : QT) (E : ET) (τ : Tau) (H : Heap) (h : zqw1_21_M nx32 nx59 Q E τ H) : vc Pr zqw1_p15 τ (zqw1_q8 nx32 nx59 Q E) E H :=
  (conv (B := vc Pr zqw1_p15 τ (zqw1_q8 nx32 nx59 Q E) E H) (by kernel_rfl) (vc_seq (K := (zqw1_5_M nx32 nx59 Q E)) (zqw1_24ok nx32 nx59 Q E τ H h) (zqw1_6ok nx32 nx59 Q E)))

@[reducible] noncomputable def zqw1_q17 (nx32 : Int → HP) (nx59 : Int → HP) (Q : QT) (E : ET) : Exit → Tau → Heap → Prop := (xthen (zqw1_21_M nx32 nx59 Q E) (zqw1_q8 nx32 nx59 Q E))

@[reducible] noncomputable def zqw1_p29 : Code := sA zqw1_p14

def zqw1_26 (nx32 : Int → HP) (nx59 : Int → HP) (Q : QT) (E : ET) (x0 : OA) (l0 : Nat) (c0 : Nat) (x1 : OA) (l1 : Nat) (c1 : Nat) (x5 : OA) (l5 : Nat) (c5 : Nat) (x6 : Int) (x7 : Int) (H : Heap) : Prop :=
 sel (decide ((x7 : Int) < ((l0 : Nat) : Int)))
 (zqw1_21 nx32 nx59 Q E x0 l0 c0 x1 l1 c1 x5 l5 c5 x6 x7 H)
 (zqw1_3 nx32 Q E x0 l0 c0 x1 l1 c1 x5 l5 c5 x6 H)

def zqw1_26_M (nx32 : Int → HP) (nx59 : Int → HP) (Q : QT) (E : ET) (τ : Tau) (H : Heap) : Prop := mSl (τ 0) fun x0 l0 c0 => mSl (τ 1) fun x1 l1 c1 => mSl (τ 5) fun x5 l5 c5 => mI .i64 (τ 6) fun x6 => mI .i64 (τ 7) fun x7 => zqw1_26 nx32 nx59 Q E x0 l0 c0 x1 l1 c1 x5 l5 c5 x6 x7 H

theorem zqw1_27ok (nx32 : Int → HP) (nx59 : Int → HP) (Q : QT) (E : ET) (τ : Tau) (H : Heap) (h : zqw1_26_M nx32 nx59 Q E τ H) : vc Pr zqw1_p29 τ (zqw1_q17 nx32 nx59 Q E) E H :=
  vSl (i := 0) h (fun x0 l0 c0 h => vSl (i := 1) h (fun x1 l1 c1 h => vSl (i := 5) h (fun x5 l5 c5 h => vI (i := 6) h (fun x6 h => vI (i := 7) h (fun x7 h => (conv (by kernel_rfl) h))))))

theorem zqw1_28ok (nx32 : Int → HP) (nx59 : Int → HP) (Q : QT) (E : ET) (τ : Tau) (H : Heap) (h : zqw1_26_M nx32 nx59 Q E τ H) : vc Pr zqw1_p14 τ (zqw1_q8 nx32 nx59 Q E) E H :=
  (conv (B := vc Pr zqw1_p14 τ (zqw1_q8 nx32 nx59 Q E) E H) (by kernel_rfl) (vc_seq (K := (zqw1_21_M nx32 nx59 Q E)) (zqw1_27ok nx32 nx59 Q E τ H h) (zqw1_25ok nx32 nx59 Q E)))

def zqw1_29 (nx32 : Int → HP) (Q : QT) (E : ET) (x0 : OA) (l0 : Nat) (c0 : Nat) (x1 : OA) (l1 : Nat) (c1 : Nat) (x5 : OA) (l5 : Nat) (c5 : Nat) (x6 : Int) (x7 : Int) (H : Heap) : Prop :=
 ∃ (I : Int → HP) (μ : Int → Heap → Nat), I x7 H ∧ ∀ (x7 : Int) (H : Heap), I x7 H →
 zqw1_26 nx32 (fun x7' H1 => I x7' H1 ∧ μ x7' H1 < μ x7 H) Q E x0 l0 c0 x1 l1 c1 x5 l5 c5 x6 x7 H

def zqw1_29_M (nx32 : Int → HP) (Q : QT) (E : ET) (τ : Tau) (H : Heap) : Prop := mSl (τ 0) fun x0 l0 c0 => mSl (τ 1) fun x1 l1 c1 => mSl (τ 5) fun x5 l5 c5 => mI .i64 (τ 6) fun x6 => mI .i64 (τ 7) fun x7 => zqw1_29 nx32 Q E x0 l0 c0 x1 l1 c1 x5 l5 c5 x6 x7 H

theorem zqw1_30ok (nx32 : Int → HP) (Q : QT) (E : ET) (τ : Tau) (H : Heap) (h : zqw1_29_M nx32 Q E τ H) : vc Pr zqw1_p13 τ (zqw1_q7 nx32 Q E) E H :=
  vSl (i := 0) h (fun x0 l0 c0 h => vSl (i := 1) h (fun x1 l1 c1 h => vSl (i := 5) h (fun x5 l5 c5 h => vI (i := 6) h (fun x6 h => vI (i := 7) h (fun x7 h => match h with | ⟨I, μ, h0, hr⟩ => (conv (B := vc Pr zqw1_p13 (Tau.upd (Tau.upd (Tau.upd (Tau.upd (Tau.upd τ 0 (.slice x0 l0 c0)) 1 (.slice x1 l1 c1)) 5 (.slice x5 l5 c5)) 6 (.int .i64 x6)) 7 (.int .i64 x7)) (zqw1_q7 nx32 Q E) E H) (by kernel_rfl) (vc_loop (c := sI zqw1_p13) (τ := (Tau.upd (Tau.upd (Tau.upd (Tau.upd (Tau.upd τ 0 (.slice x0 l0 c0)) 1 (.slice x1 l1 c1)) 5 (.slice x5 l5 c5)) 6 (.int .i64 x6)) 7 (.int .i64 x7))) [0, 1, 5, 6] (fun τ H => mI .i64 (τ 7) fun x7' => I x7' H) (fun τ H => μ (gI (τ 7)) H) (by kernel_rfl) h0 (fun τ1 H1 hf hI => fix_elim (τ := τ1) (i := 0) (v := (.slice x0 l0 c0)) (G := fun τ => vc Pr (sI zqw1_p13) τ (xthen (fun τ2 H2 => (mI .i64 (τ2 7) fun x7' => I x7' H2) ∧ μ (gI (τ2 7)) H2 < μ (gI (τ 7)) H1) (zqw1_q7 nx32 Q E)) E H1) (hf 0 (by simp)) (fix_elim (τ := (Tau.upd τ1 0 (.slice x0 l0 c0))) (i := 1) (v := (.slice x1 l1 c1)) (G := fun τ => vc Pr (sI zqw1_p13) τ (xthen (fun τ2 H2 => (mI .i64 (τ2 7) fun x7' => I x7' H2) ∧ μ (gI (τ2 7)) H2 < μ (gI (τ 7)) H1) (zqw1_q7 nx32 Q E)) E H1) (hf 1 (by simp)) (fix_elim (τ := (Tau.upd (Tau.upd τ1 0 (.slice x0 l0 c0)) 1 (.slice x1 l1 c1))) (i := 5) (v := (.slice x5 l5 c5)) (G := fun τ => vc Pr (sI zqw1_p13) τ (xthen (fun τ2 H2 => (mI .i64 (τ2 7) fun x7' => I x7' H2) ∧ μ (gI (τ2 7)) H2 < μ (gI (τ 7)) H1) (zqw1_q7 nx32 Q E)) E H1) (hf 5 (by simp)) (fix_elim (τ := (Tau.upd (Tau.upd (Tau.upd τ1 0 (.slice x0 l0 c0)) 1 (.slice x1 l1 c1)) 5 (.slice x5 l5 c5))) (i := 6) (v := (.int .i64 x6)) (G := fun τ => vc Pr (sI zqw1_p13) τ (xthen (fun τ2 H2 => (mI .i64 (τ2 7) fun x7' => I x7' H2) ∧ μ (gI (τ2 7)) H2 < μ (gI (τ 7)) H1) (zqw1_q7 nx32 Q E)) E H1) (hf 6 (by simp)) (mI_elim (i := 7) (G := fun τ => vc Pr (sI zqw1_p13) τ (xthen (fun τ2 H2 => (mI .i64 (τ2 7) fun x7' => I x7' H2) ∧ μ (gI (τ2 7)) H2 < μ (gI (τ 7)) H1) (zqw1_q7 nx32 Q E)) E H1) hI (fun x7r h => (conv (B := vc Pr (sI zqw1_p13) (Tau.upd (Tau.upd (Tau.upd (Tau.upd (Tau.upd τ1 0 (.slice x0 l0 c0)) 1 (.slice x1 l1 c1)) 5 (.slice x5 l5 c5)) 6 (.int .i64 x6)) 7 (.int .i64 x7r)) (xthen (fun τ2 H2 => (mI .i64 (τ2 7) fun x7' => I x7' H2) ∧ μ (gI (τ2 7)) H2 < μ (gI ((Tau.upd (Tau.upd (Tau.upd (Tau.upd (Tau.upd τ1 0 (.slice x0 l0 c0)) 1 (.slice x1 l1 c1)) 5 (.slice x5 l5 c5)) 6 (.int .i64 x6)) 7 (.int .i64 x7r)) 7)) H1) (zqw1_q7 nx32 Q E)) E H1) (by kernel_rfl) (vc_xthen (zqw1_28ok nx32 (fun x7' H2 => I x7' H2 ∧ μ x7' H2 < μ x7r H1) Q E (Tau.upd (Tau.upd (Tau.upd (Tau.upd (Tau.upd τ1 0 (.slice x0 l0 c0)) 1 (.slice x1 l1 c1)) 5 (.slice x5 l5 c5)) 6 (.int .i64 x6)) 7 (.int .i64 x7r)) H1 (conv (B := zqw1_26_M nx32 (fun x7' H2 => I x7' H2 ∧ μ x7' H2 < μ x7r H1) Q E (Tau.upd (Tau.upd (Tau.upd (Tau.upd (Tau.upd τ1 0 (.slice x0 l0 c0)) 1 (.slice x1 l1 c1)) 5 (.slice x5 l5 c5)) 6 (.int .i64 x6)) 7 (.int .i64 x7r)) H1) (by kernel_rfl) (hr x7r H1 h))) (fun τ2 H2 hk => mI_elim (i := 7) (G := fun τ => (mI .i64 (τ 7) fun x7' => I x7' H2) ∧ μ (gI (τ 7)) H2 < μ x7r H1) hk (fun x7' h => h)))))))))))))))))

theorem zqw1_31ok (nx32 : Int → HP) (Q : QT) (E : ET) (τ : Tau) (H : Heap) (h : zqw1_29_M nx32 Q E τ H) : vc Pr zqw1_p12 τ (zqw1_q6 nx32 Q E) E H :=
  (conv (B := vc Pr zqw1_p12 τ (zqw1_q6 nx32 Q E) E H) (by kernel_rfl) (zqw1_30ok nx32 Q E τ H h))

@[reducible] noncomputable def zqw1_q18 (nx32 : Int → HP) (Q : QT) (E : ET) : Exit → Tau → Heap → Prop := (xthen (zqw1_29_M nx32 Q E) (zqw1_q6 nx32 Q E))

@[reducible] noncomputable def zqw1_p30 : Code := sA zqw1_p11

def zqw1_32 (nx32 : Int → HP) (Q : QT) (E : ET) (x0 : OA) (l0 : Nat) (c0 : Nat) (x1 : OA) (l1 : Nat) (c1 : Nat) (x5 : OA) (l5 : Nat) (c5 : Nat) (x6 : Int) (H : Heap) : Prop :=
 zqw1_29 nx32 Q E x0 l0 c0 x1 l1 c1 x5 l5 c5 x6 0 H

def zqw1_32_M (nx32 : Int → HP) (Q : QT) (E : ET) (τ : Tau) (H : Heap) : Prop := mSl (τ 0) fun x0 l0 c0 => mSl (τ 1) fun x1 l1 c1 => mSl (τ 5) fun x5 l5 c5 => mI .i64 (τ 6) fun x6 => zqw1_32 nx32 Q E x0 l0 c0 x1 l1 c1 x5 l5 c5 x6 H

theorem zqw1_33ok (nx32 : Int → HP) (Q : QT) (E : ET) (τ : Tau) (H : Heap) (h : zqw1_32_M nx32 Q E τ H) : vc Pr zqw1_p30 τ (zqw1_q18 nx32 Q E) E H :=
  vSl (i := 0) h (fun x0 l0 c0 h => vSl (i := 1) h (fun x1 l1 c1 h => vSl (i := 5) h (fun x5 l5 c5 h => vI (i := 6) h (fun x6 h => (conv (by kernel_rfl) h)))))

theorem zqw1_34ok (nx32 : Int → HP) (Q : QT) (E : ET) (τ : Tau) (H : Heap) (h : zqw1_32_M nx32 Q E τ H) : vc Pr zqw1_p11 τ (zqw1_q6 nx32 Q E) E H :=
  (conv (B := vc Pr zqw1_p11 τ (zqw1_q6 nx32 Q E) E H) (by kernel_rfl) (vc_seq (K := (zqw1_29_M nx32 Q E)) (zqw1_33ok nx32 Q E τ H h) (zqw1_31ok nx32 Q E)))

theorem zqw1_35ok (nx32 : Int → HP) (Q : QT) (E : ET) (τ : Tau) (H : Heap) (h : zqw1_32_M nx32 Q E τ H) : vc Pr zqw1_p10 τ (zqw1_q5 nx32 Q E) E H :=
  (conv (B := vc Pr zqw1_p10 τ (zqw1_q5 nx32 Q E) E H) (by kernel_rfl) (zqw1_34ok nx32 Q E τ H h))

theorem zqw1_36ok (nx32 : Int → HP) (Q : QT) (E : ET) (τ : Tau) (H : Heap) (h : zqw1_32_M nx32 Q E τ H) : vc Pr zqw1_p8 τ (zqw1_q4 nx32 Q E) E H :=
  (conv (B := vc Pr zqw1_p8 τ (zqw1_q4 nx32 Q E) E H) (by kernel_rfl) (vc_seq (K := (zqw1_3_M nx32 Q E)) (zqw1_35ok nx32 Q E τ H h) (zqw1_4ok nx32 Q E)))

@[reducible] noncomputable def zqw1_q19 (nx32 : Int → HP) (Q : QT) (E : ET) : Exit → Tau → Heap → Prop := (xthen (zqw1_32_M nx32 Q E) (zqw1_q4 nx32 Q E))

@[reducible] noncomputable def zqw1_p31 : Code := sA zqw1_p7

def zqw1_37 (nx32 : Int → HP) (Q : QT) (E : ET) (x0 : OA) (l0 : Nat) (c0 : Nat) (x1 : OA) (l1 : Nat) (c1 : Nat) (x5 : OA) (l5 : Nat) (c5 : Nat) (x6 : Int) (H : Heap) : Prop :=
 sel (decide ((x6 : Int) < ((l0 : Nat) : Int)))
 (zqw1_32 nx32 Q E x0 l0 c0 x1 l1 c1 x5 l5 c5 x6 H)
 (zqw1_1 Q E x5 l5 c5 H)

def zqw1_37_M (nx32 : Int → HP) (Q : QT) (E : ET) (τ : Tau) (H : Heap) : Prop := mSl (τ 0) fun x0 l0 c0 => mSl (τ 1) fun x1 l1 c1 => mSl (τ 5) fun x5 l5 c5 => mI .i64 (τ 6) fun x6 => zqw1_37 nx32 Q E x0 l0 c0 x1 l1 c1 x5 l5 c5 x6 H

theorem zqw1_38ok (nx32 : Int → HP) (Q : QT) (E : ET) (τ : Tau) (H : Heap) (h : zqw1_37_M nx32 Q E τ H) : vc Pr zqw1_p31 τ (zqw1_q19 nx32 Q E) E H :=
  vSl (i := 0) h (fun x0 l0 c0 h => vSl (i := 1) h (fun x1 l1 c1 h => vSl (i := 5) h (fun x5 l5 c5 h => vI (i := 6) h (fun x6 h => (conv (by kernel_rfl) h)))))

theorem zqw1_39ok (nx32 : Int → HP) (Q : QT) (E : ET) (τ : Tau) (H : Heap) (h : zqw1_37_M nx32 Q E τ H) : vc Pr zqw1_p7 τ (zqw1_q4 nx32 Q E) E H :=
  (conv (B := vc Pr zqw1_p7 τ (zqw1_q4 nx32 Q E) E H) (by kernel_rfl) (vc_seq (K := (zqw1_32_M nx32 Q E)) (zqw1_38ok nx32 Q E τ H h) (zqw1_36ok nx32 Q E)))

def zqw1_40 (Q : QT) (E : ET) (x0 : OA) (l0 : Nat) (c0 : Nat) (x1 : OA) (l1 : Nat) (c1 : Nat) (x5 : OA) (l5 : Nat) (c5 : Nat) (x6 : Int) (H : Heap) : Prop :=
 ∃ (I : Int → HP) (μ : Int → Heap → Nat), I x6 H ∧ ∀ (x6 : Int) (H : Heap), I x6 H →
 zqw1_37 (fun x6' H1 => I x6' H1 ∧ μ x6' H1 < μ x6 H) Q E x0 l0 c0 x1 l1 c1 x5 l5 c5 x6 H

def zqw1_40_M (Q : QT) (E : ET) (τ : Tau) (H : Heap) : Prop := mSl (τ 0) fun x0 l0 c0 => mSl (τ 1) fun x1 l1 c1 => mSl (τ 5) fun x5 l5 c5 => mI .i64 (τ 6) fun x6 => zqw1_40 Q E x0 l0 c0 x1 l1 c1 x5 l5 c5 x6 H

theorem zqw1_41ok (Q : QT) (E : ET) (τ : Tau) (H : Heap) (h : zqw1_40_M Q E τ H) : vc Pr zqw1_p6 τ (zqw1_q3 Q E) E H :=
  vSl (i := 0) h (fun x0 l0 c0 h => vSl (i := 1) h (fun x1 l1 c1 h => vSl (i := 5) h (fun x5 l5 c5 h => vI (i := 6) h (fun x6 h => match h with | ⟨I, μ, h0, hr⟩ => (conv (B := vc Pr zqw1_p6 (Tau.upd (Tau.upd (Tau.upd (Tau.upd τ 0 (.slice x0 l0 c0)) 1 (.slice x1 l1 c1)) 5 (.slice x5 l5 c5)) 6 (.int .i64 x6)) (zqw1_q3 Q E) E H) (by kernel_rfl) (vc_loop (c := sI zqw1_p6) (τ := (Tau.upd (Tau.upd (Tau.upd (Tau.upd τ 0 (.slice x0 l0 c0)) 1 (.slice x1 l1 c1)) 5 (.slice x5 l5 c5)) 6 (.int .i64 x6))) [0, 1, 5] (fun τ H => mI .i64 (τ 6) fun x6' => I x6' H) (fun τ H => μ (gI (τ 6)) H) (by kernel_rfl) h0 (fun τ1 H1 hf hI => fix_elim (τ := τ1) (i := 0) (v := (.slice x0 l0 c0)) (G := fun τ => vc Pr (sI zqw1_p6) τ (xthen (fun τ2 H2 => (mI .i64 (τ2 6) fun x6' => I x6' H2) ∧ μ (gI (τ2 6)) H2 < μ (gI (τ 6)) H1) (zqw1_q3 Q E)) E H1) (hf 0 (by simp)) (fix_elim (τ := (Tau.upd τ1 0 (.slice x0 l0 c0))) (i := 1) (v := (.slice x1 l1 c1)) (G := fun τ => vc Pr (sI zqw1_p6) τ (xthen (fun τ2 H2 => (mI .i64 (τ2 6) fun x6' => I x6' H2) ∧ μ (gI (τ2 6)) H2 < μ (gI (τ 6)) H1) (zqw1_q3 Q E)) E H1) (hf 1 (by simp)) (fix_elim (τ := (Tau.upd (Tau.upd τ1 0 (.slice x0 l0 c0)) 1 (.slice x1 l1 c1))) (i := 5) (v := (.slice x5 l5 c5)) (G := fun τ => vc Pr (sI zqw1_p6) τ (xthen (fun τ2 H2 => (mI .i64 (τ2 6) fun x6' => I x6' H2) ∧ μ (gI (τ2 6)) H2 < μ (gI (τ 6)) H1) (zqw1_q3 Q E)) E H1) (hf 5 (by simp)) (mI_elim (i := 6) (G := fun τ => vc Pr (sI zqw1_p6) τ (xthen (fun τ2 H2 => (mI .i64 (τ2 6) fun x6' => I x6' H2) ∧ μ (gI (τ2 6)) H2 < μ (gI (τ 6)) H1) (zqw1_q3 Q E)) E H1) hI (fun x6r h => (conv (B := vc Pr (sI zqw1_p6) (Tau.upd (Tau.upd (Tau.upd (Tau.upd τ1 0 (.slice x0 l0 c0)) 1 (.slice x1 l1 c1)) 5 (.slice x5 l5 c5)) 6 (.int .i64 x6r)) (xthen (fun τ2 H2 => (mI .i64 (τ2 6) fun x6' => I x6' H2) ∧ μ (gI (τ2 6)) H2 < μ (gI ((Tau.upd (Tau.upd (Tau.upd (Tau.upd τ1 0 (.slice x0 l0 c0)) 1 (.slice x1 l1 c1)) 5 (.slice x5 l5 c5)) 6 (.int .i64 x6r)) 6)) H1) (zqw1_q3 Q E)) E H1) (by kernel_rfl) (vc_xthen (zqw1_39ok (fun x6' H2 => I x6' H2 ∧ μ x6' H2 < μ x6r H1) Q E (Tau.upd (Tau.upd (Tau.upd (Tau.upd τ1 0 (.slice x0 l0 c0)) 1 (.slice x1 l1 c1)) 5 (.slice x5 l5 c5)) 6 (.int .i64 x6r)) H1 (conv (B := zqw1_37_M (fun x6' H2 => I x6' H2 ∧ μ x6' H2 < μ x6r H1) Q E (Tau.upd (Tau.upd (Tau.upd (Tau.upd τ1 0 (.slice x0 l0 c0)) 1 (.slice x1 l1 c1)) 5 (.slice x5 l5 c5)) 6 (.int .i64 x6r)) H1) (by kernel_rfl) (hr x6r H1 h))) (fun τ2 H2 hk => mI_elim (i := 6) (G := fun τ => (mI .i64 (τ 6) fun x6' => I x6' H2) ∧ μ (gI (τ 6)) H2 < μ x6r H1) hk (fun x6' h => h)))))))))))))))

theorem zqw1_42ok (Q : QT) (E : ET) (τ : Tau) (H : Heap) (h : zqw1_40_M Q E τ H) : vc Pr zqw1_p5 τ (zqw1_q2 Q E) E H :=
  (conv (B := vc Pr zqw1_p5 τ (zqw1_q2 Q E) E H) (by kernel_rfl) (zqw1_41ok Q E τ H h))

@[reducible] noncomputable def zqw1_q20 (Q : QT) (E : ET) : Exit → Tau → Heap → Prop := (xthen (zqw1_40_M Q E) (zqw1_q2 Q E))

@[reducible] noncomputable def zqw1_p32 : Code := sA zqw1_p4

def zqw1_43 (Q : QT) (E : ET) (x0 : OA) (l0 : Nat) (c0 : Nat) (x1 : OA) (l1 : Nat) (c1 : Nat) (x5 : OA) (l5 : Nat) (c5 : Nat) (H : Heap) : Prop :=
 zqw1_40 Q E x0 l0 c0 x1 l1 c1 x5 l5 c5 0 H

def zqw1_43_M (Q : QT) (E : ET) (τ : Tau) (H : Heap) : Prop := mSl (τ 0) fun x0 l0 c0 => mSl (τ 1) fun x1 l1 c1 => mSl (τ 5) fun x5 l5 c5 => zqw1_43 Q E x0 l0 c0 x1 l1 c1 x5 l5 c5 H

theorem zqw1_44ok (Q : QT) (E : ET) (τ : Tau) (H : Heap) (h : zqw1_43_M Q E τ H) : vc Pr zqw1_p32 τ (zqw1_q20 Q E) E H :=
  vSl (i := 0) h (fun x0 l0 c0 h => vSl (i := 1) h (fun x1 l1 c1 h => vSl (i := 5) h (fun x5 l5 c5 h => (conv (by kernel_rfl) h))))

theorem zqw1_45ok (Q : QT) (E : ET) (τ : Tau) (H : Heap) (h : zqw1_43_M Q E τ H) : vc Pr zqw1_p4 τ (zqw1_q2 Q E) E H :=
  (conv (B := vc Pr zqw1_p4 τ (zqw1_q2 Q E) E H) (by kernel_rfl) (vc_seq (K := (zqw1_40_M Q E)) (zqw1_44ok Q E τ H h) (zqw1_42ok Q E)))

theorem zqw1_46ok (Q : QT) (E : ET) (τ : Tau) (H : Heap) (h : zqw1_43_M Q E τ H) : vc Pr zqw1_p2 τ (zqw1_q1 Q E) E H :=
  (conv (B := vc Pr zqw1_p2 τ (zqw1_q1 Q E) E H) (by kernel_rfl) (vc_seq (K := (zqw1_1_M Q E)) (zqw1_45ok Q E τ H h) (zqw1_2ok Q E)))

@[reducible] noncomputable def zqw1_q21 (Q : QT) (E : ET) : Exit → Tau → Heap → Prop := (xthen (zqw1_43_M Q E) (zqw1_q1 Q E))

@[reducible] noncomputable def zqw1_p33 : Code := sA zqw1_p1

def zqw1_47 (Q : QT) (E : ET) (x0 : OA) (l0 : Nat) (c0 : Nat) (x1 : OA) (l1 : Nat) (c1 : Nat) (H : Heap) : Prop :=
 Does Pr 99 #[(.int .i64 ((l0 : Nat) : Int))] H (fun v145 H146 =>
 ∃ (p147 : OA) (l148 c149 : Nat), v145 = (.slice p147 l148 c149) ∧ zqw1_43 Q E x0 l0 c0 x1 l1 c1 p147 l148 c149 H146) E

def zqw1_47_M (Q : QT) (E : ET) (τ : Tau) (H : Heap) : Prop := mSl (τ 0) fun x0 l0 c0 => mSl (τ 1) fun x1 l1 c1 => zqw1_47 Q E x0 l0 c0 x1 l1 c1 H

theorem zqw1_48ok (Q : QT) (E : ET) (τ : Tau) (H : Heap) (h : zqw1_47_M Q E τ H) : vc Pr zqw1_p33 τ (zqw1_q21 Q E) E H :=
  vSl (i := 0) h (fun x0 l0 c0 h => vSl (i := 1) h (fun x1 l1 c1 h => (conv (by kernel_rfl) h)))

theorem zqw1_49ok (Q : QT) (E : ET) (τ : Tau) (H : Heap) (h : zqw1_47_M Q E τ H) : vc Pr zqw1_p1 τ (zqw1_q1 Q E) E H :=
  (conv (B := vc Pr zqw1_p1 τ (zqw1_q1 Q E) E H) (by kernel_rfl) (vc_seq (K := (zqw1_43_M Q E)) (zqw1_48ok Q E τ H h) (zqw1_46ok Q E)))

@[reducible] noncomputable def zqw1_q22 (Q : QT) (E : ET) : Exit → Tau → Heap → Prop := (xthen (zqw1_47_M Q E) (zqw1_q1 Q E))

@[reducible] noncomputable def zqw1_p34 : Code := sA zqw1_p0

def zqw1 (Q : QT) (E : ET) (a0 : OA) (a0l : Nat) (a0c : Nat) (a1 : OA) (a1l : Nat) (a1c : Nat) (H : Heap) : Prop :=
 zqw1_47 Q E a0 a0l a0c a1 a1l a1c H

theorem zqw1_fn (a0 : OA) (a0l : Nat) (a0c : Nat) (a1 : OA) (a1l : Nat) (a1c : Nat) (Q : QT) (E : ET) (H : Heap) (h : zqw1 Q E a0 a0l a0c a1 a1l a1c H)   : Does Pr 84 #[(.slice a0 a0l a0c), (.slice a1 a1l a1c)] H Q E :=
  Fn_of_vc (fn := Try.f84) (c := zqw1_p0) (args := [(.slice a0 a0l a0c), (.slice a1 a1l a1c)]) mixed (by kernel_rfl) (by kernel_rfl) (by kernel_rfl) (by kernel_rfl) (by kernel_rfl) ((conv (B := vc Pr zqw1_p0 (argT [(.slice a0 a0l a0c), (.slice a1 a1l a1c)]) (zqw1_q1 Q E) E H) (by kernel_rfl) (vc_seq (K := (zqw1_47_M Q E)) (conv (B := vc Pr zqw1_p34 (argT [(.slice a0 a0l a0c), (.slice a1 a1l a1c)]) (zqw1_q22 Q E) E H) (by kernel_rfl) h) (zqw1_49ok Q E))))

/-! jobmux/jobmuxref09.both -/
@[reducible] noncomputable def zqx1_q1 (Q : QT) (E : ET) : Exit → Tau → Heap → Prop := (retQ Pr (Try.f85).results.toList Q)

@[reducible] noncomputable def zqx1_p0 : Code := bodyOf Try.f85

@[reducible] noncomputable def zqx1_p1 : Code := sB zqx1_p0

@[reducible] noncomputable def zqx1_p2 : Code := sB zqx1_p1

@[reducible] noncomputable def zqx1_p3 : Code := sB zqx1_p2

def zqx1_1 (Q : QT) (E : ET) (x5 : OA) (l5 : Nat) (c5 : Nat) (H : Heap) : Prop :=
 Q (.slice x5 l5 c5) H

def zqx1_1_M (Q : QT) (E : ET) (τ : Tau) (H : Heap) : Prop := mSl (τ 5) fun x5 l5 c5 => zqx1_1 Q E x5 l5 c5 H

theorem zqx1_2ok (Q : QT) (E : ET) (τ : Tau) (H : Heap) (h : zqx1_1_M Q E τ H) : vc Pr zqx1_p3 τ (zqx1_q1 Q E) E H :=
  vSl (i := 5) h (fun x5 l5 c5 h => (conv (by kernel_rfl) h))

@[reducible] noncomputable def zqx1_q2 (Q : QT) (E : ET) : Exit → Tau → Heap → Prop := (xthen (zqx1_1_M Q E) (zqx1_q1 Q E))

@[reducible] noncomputable def zqx1_p4 : Code := sA zqx1_p2

@[reducible] noncomputable def zqx1_p5 : Code := sB zqx1_p4

@[reducible] noncomputable def zqx1_q3 (Q : QT) (E : ET) : Exit → Tau → Heap → Prop := (xblock 0 (zqx1_q2 Q E))

@[reducible] noncomputable def zqx1_p6 : Code := sI zqx1_p5

@[reducible] noncomputable def zqx1_q4 (nx26 : Int → HP) (Q : QT) (E : ET) : Exit → Tau → Heap → Prop := (xthen (fun τ H => mI .i64 (τ 6) fun x6' => nx26 x6' H) (zqx1_q3 Q E))

@[reducible] noncomputable def zqx1_p7 : Code := sI zqx1_p6

@[reducible] noncomputable def zqx1_p8 : Code := sB zqx1_p7

@[reducible] noncomputable def zqx1_p9 : Code := sB zqx1_p8

def zqx1_3 (nx26 : Int → HP) (Q : QT) (E : ET) (x0 : OA) (l0 : Nat) (c0 : Nat) (x1 : OA) (l1 : Nat) (c1 : Nat) (x5 : OA) (l5 : Nat) (c5 : Nat) (x6 : Int) (H : Heap) : Prop :=
 nx26 (IntKind.wrap .i64 (x6 + 1)) H

def zqx1_3_M (nx26 : Int → HP) (Q : QT) (E : ET) (τ : Tau) (H : Heap) : Prop := mSl (τ 0) fun x0 l0 c0 => mSl (τ 1) fun x1 l1 c1 => mSl (τ 5) fun x5 l5 c5 => mI .i64 (τ 6) fun x6 => zqx1_3 nx26 Q E x0 l0 c0 x1 l1 c1 x5 l5 c5 x6 H

theorem zqx1_4ok (nx26 : Int → HP) (Q : QT) (E : ET) (τ : Tau) (H : Heap) (h : zqx1_3_M nx26 Q E τ H) : vc Pr zqx1_p9 τ (zqx1_q4 nx26 Q E) E H :=
  vSl (i := 0) h (fun x0 l0 c0 h => vSl (i := 1) h (fun x1 l1 c1 h => vSl (i := 5) h (fun x5 l5 c5 h => vI (i := 6) h (fun x6 h => (conv (by kernel_rfl) h)))))

@[reducible] noncomputable def zqx1_q5 (nx26 : Int → HP) (Q : QT) (E : ET) : Exit → Tau → Heap → Prop := (xthen (zqx1_3_M nx26 Q E) (zqx1_q4 nx26 Q E))

@[reducible] noncomputable def zqx1_p10 : Code := sA zqx1_p8

@[reducible] noncomputable def zqx1_q6 (nx26 : Int → HP) (Q : QT) (E : ET) : Exit → Tau → Heap → Prop := (xblock 1 (zqx1_q5 nx26 Q E))

@[reducible] noncomputable def zqx1_p11 : Code := sI zqx1_p10

@[reducible] noncomputable def zqx1_p12 : Code := sB zqx1_p11

@[reducible] noncomputable def zqx1_q7 (nx26 : Int → HP) (Q : QT) (E : ET) : Exit → Tau → Heap → Prop := (xblock 2 (zqx1_q6 nx26 Q E))

@[reducible] noncomputable def zqx1_p13 : Code := sI zqx1_p12

@[reducible] noncomputable def zqx1_q8 (nx26 : Int → HP) (nx47 : Int → HP) (Q : QT) (E : ET) : Exit → Tau → Heap → Prop := (xthen (fun τ H => mI .i64 (τ 7) fun x7' => nx47 x7' H) (zqx1_q7 nx26 Q E))

@[reducible] noncomputable def zqx1_p14 : Code := sI zqx1_p13

@[reducible] noncomputable def zqx1_p15 : Code := sB zqx1_p14

@[reducible] noncomputable def zqx1_p16 : Code := sB zqx1_p15

def zqx1_5 (nx26 : Int → HP) (nx47 : Int → HP) (Q : QT) (E : ET) (x0 : OA) (l0 : Nat) (c0 : Nat) (x1 : OA) (l1 : Nat) (c1 : Nat) (x5 : OA) (l5 : Nat) (c5 : Nat) (x6 : Int) (x7 : Int) (H : Heap) : Prop :=
 nx47 (IntKind.wrap .i64 (x7 + 1)) H

def zqx1_5_M (nx26 : Int → HP) (nx47 : Int → HP) (Q : QT) (E : ET) (τ : Tau) (H : Heap) : Prop := mSl (τ 0) fun x0 l0 c0 => mSl (τ 1) fun x1 l1 c1 => mSl (τ 5) fun x5 l5 c5 => mI .i64 (τ 6) fun x6 => mI .i64 (τ 7) fun x7 => zqx1_5 nx26 nx47 Q E x0 l0 c0 x1 l1 c1 x5 l5 c5 x6 x7 H

theorem zqx1_6ok (nx26 : Int → HP) (nx47 : Int → HP) (Q : QT) (E : ET) (τ : Tau) (H : Heap) (h : zqx1_5_M nx26 nx47 Q E τ H) : vc Pr zqx1_p16 τ (zqx1_q8 nx26 nx47 Q E) E H :=
  vSl (i := 0) h (fun x0 l0 c0 h => vSl (i := 1) h (fun x1 l1 c1 h => vSl (i := 5) h (fun x5 l5 c5 h => vI (i := 6) h (fun x6 h => vI (i := 7) h (fun x7 h => (conv (by kernel_rfl) h))))))

@[reducible] noncomputable def zqx1_q9 (nx26 : Int → HP) (nx47 : Int → HP) (Q : QT) (E : ET) : Exit → Tau → Heap → Prop := (xthen (zqx1_5_M nx26 nx47 Q E) (zqx1_q8 nx26 nx47 Q E))

@[reducible] noncomputable def zqx1_p17 : Code := sA zqx1_p15

def zqx1_7 (nx26 : Int → HP) (nx47 : Int → HP) (Q : QT) (E : ET) (x0 : OA) (l0 : Nat) (c0 : Nat) (x1 : OA) (l1 : Nat) (c1 : Nat) (x5 : OA) (l5 : Nat) (c5 : Nat) (x6 : Int) (x7 : Int) (H : Heap) : Prop :=
 (0 ≤ (x6 : Int) ∧ (x6 : Int) < ((l5 : Nat) : Int)) ∧ ptr x5 fun q68 =>
 ldSl (Addr.add q68 ((x6 : Int).toNat * 1)) H fun p69 l70 c71 =>
 (0 ≤ (x6 : Int) ∧ (x6 : Int) < ((l0 : Nat) : Int)) ∧ ptr x0 fun q72 =>
 ldSl (Addr.add q72 ((x6 : Int).toNat * 1)) H fun p73 l74 c75 =>
 (0 ≤ (x7 : Int) ∧ (x7 : Int) < ((l74 : Nat) : Int)) ∧ ptr p73 fun q76 =>
 ldB (Addr.add q76 ((x7 : Int).toNat * 1)) H fun b77 =>
 sel b77
 ((0 ≤ (x7 : Int) ∧ (x7 : Int) < ((l70 : Nat) : Int)) ∧ ptr p69 fun q78 =>
 wr (Addr.add q78 ((x7 : Int).toNat * 1)) [(.bool true)] H fun H79 =>
 zqx1_5 nx26 nx47 Q E x0 l0 c0 x1 l1 c1 x5 l5 c5 x6 x7 H79)
 ((0 ≤ (x6 : Int) ∧ (x6 : Int) < ((l1 : Nat) : Int)) ∧ ptr x1 fun q80 =>
 ldSl (Addr.add q80 ((x6 : Int).toNat * 1)) H fun p81 l82 c83 =>
 (0 ≤ (x7 : Int) ∧ (x7 : Int) < ((l82 : Nat) : Int)) ∧ ptr p81 fun q84 =>
 ldB (Addr.add q84 ((x7 : Int).toNat * 1)) H fun b85 =>
 (0 ≤ (x7 : Int) ∧ (x7 : Int) < ((l70 : Nat) : Int)) ∧ ptr p69 fun q86 =>
 wr (Addr.add q86 ((x7 : Int).toNat * 1)) [(.bool b85)] H fun H87 =>
 zqx1_5 nx26 nx47 Q E x0 l0 c0 x1 l1 c1 x5 l5 c5 x6 x7 H87)

def zqx1_7_M (nx26 : Int → HP) (nx47 : Int → HP) (Q : QT) (E : ET) (τ : Tau) (H : Heap) : Prop := mSl (τ 0) fun x0 l0 c0 => mSl (τ 1) fun x1 l1 c1 => mSl (τ 5) fun x5 l5 c5 => mI .i64 (τ 6) fun x6 => mI .i64 (τ 7) fun x7 => zqx1_7 nx26 nx47 Q E x0 l0 c0 x1 l1 c1 x5 l5 c5 x6 x7 H

theorem zqx1_8ok (nx26 : Int → HP) (nx47 : Int → HP) (Q : QT) (E : ET) (τ : Tau) (H : Heap) (h : zqx1_7_M nx26 nx47 Q E τ H) : vc Pr zqx1_p17 τ (zqx1_q9 nx26 nx47 Q E) E H :=
  vSl (i := 0) h (fun x0 l0 c0 h => vSl (i := 1) h (fun x1 l1 c1 h => vSl (i := 5) h (fun x5 l5 c5 h => vI (i := 6) h (fun x6 h => vI (i := 7) h (fun x7 h => (conv (by kernel_rfl) h))))))

theorem zqx1_9ok (nx26 : Int → HP) (nx47 : Int → HP) (Q : QT) (E : ET) (τ : Tau) (H : Heap) (h : zqx1_7_M nx26 nx47 Q E τ H) : vc Pr zqx1_p15 τ (zqx1_q8 nx26 nx47 Q E) E H :=
  (conv (B := vc Pr zqx1_p15 τ (zqx1_q8 nx26 nx47 Q E) E H) (by kernel_rfl) (vc_seq (K := (zqx1_5_M nx26 nx47 Q E)) (zqx1_8ok nx26 nx47 Q E τ H h) (zqx1_6ok nx26 nx47 Q E)))

@[reducible] noncomputable def zqx1_q10 (nx26 : Int → HP) (nx47 : Int → HP) (Q : QT) (E : ET) : Exit → Tau → Heap → Prop := (xthen (zqx1_7_M nx26 nx47 Q E) (zqx1_q8 nx26 nx47 Q E))

@[reducible] noncomputable def zqx1_p18 : Code := sA zqx1_p14

def zqx1_10 (nx26 : Int → HP) (nx47 : Int → HP) (Q : QT) (E : ET) (x0 : OA) (l0 : Nat) (c0 : Nat) (x1 : OA) (l1 : Nat) (c1 : Nat) (x5 : OA) (l5 : Nat) (c5 : Nat) (x6 : Int) (x7 : Int) (H : Heap) : Prop :=
 sel (decide ((x7 : Int) < ((l0 : Nat) : Int)))
 (zqx1_7 nx26 nx47 Q E x0 l0 c0 x1 l1 c1 x5 l5 c5 x6 x7 H)
 (zqx1_3 nx26 Q E x0 l0 c0 x1 l1 c1 x5 l5 c5 x6 H)

def zqx1_10_M (nx26 : Int → HP) (nx47 : Int → HP) (Q : QT) (E : ET) (τ : Tau) (H : Heap) : Prop := mSl (τ 0) fun x0 l0 c0 => mSl (τ 1) fun x1 l1 c1 => mSl (τ 5) fun x5 l5 c5 => mI .i64 (τ 6) fun x6 => mI .i64 (τ 7) fun x7 => zqx1_10 nx26 nx47 Q E x0 l0 c0 x1 l1 c1 x5 l5 c5 x6 x7 H

theorem zqx1_11ok (nx26 : Int → HP) (nx47 : Int → HP) (Q : QT) (E : ET) (τ : Tau) (H : Heap) (h : zqx1_10_M nx26 nx47 Q E τ H) : vc Pr zqx1_p18 τ (zqx1_q10 nx26 nx47 Q E) E H :=
  vSl (i := 0) h (fun x0 l0 c0 h => vSl (i := 1) h (fun x1 l1 c1 h => vSl (i := 5) h (fun x5 l5 c5 h => vI (i := 6) h (fun x6 h => vI (i := 7) h (fun x7 h => (conv (by kernel_rfl) h))))))

theorem zqx1_12ok (nx26 : Int → HP) (nx47 : Int → HP) (Q : QT) (E : ET) (τ : Tau) (H : Heap) (h : zqx1_10_M nx26 nx47 Q E τ H) : vc Pr zqx1_p14 τ (zqx1_q8 nx26 nx47 Q E) E H :=
  (conv (B := vc Pr zqx1_p14 τ (zqx1_q8 nx26 nx47 Q E) E H) (by kernel_rfl) (vc_seq (K := (zqx1_7_M nx26 nx47 Q E)) (zqx1_11ok nx26 nx47 Q E τ H h) (zqx1_9ok nx26 nx47 Q E)))

def zqx1_13 (nx26 : Int → HP) (Q : QT) (E : ET) (x0 : OA) (l0 : Nat) (c0 : Nat) (x1 : OA) (l1 : Nat) (c1 : Nat) (x5 : OA) (l5 : Nat) (c5 : Nat) (x6 : Int) (x7 : Int) (H : Heap) : Prop :=
 ∃ (I : Int → HP) (μ : Int → Heap → Nat), I x7 H ∧ ∀ (x7 : Int) (H : Heap), I x7 H →
 zqx1_10 nx26 (fun x7' H1 => I x7' H1 ∧ μ x7' H1 < μ x7 H) Q E x0 l0 c0 x1 l1 c1 x5 l5 c5 x6 x7 H

def zqx1_13_M (nx26 : Int → HP) (Q : QT) (E : ET) (τ : Tau) (H : Heap) : Prop := mSl (τ 0) fun x0 l0 c0 => mSl (τ 1) fun x1 l1 c1 => mSl (τ 5) fun x5 l5 c5 => mI .i64 (τ 6) fun x6 => mI .i64 (τ 7) fun x7 => zqx1_13 nx26 Q E x0 l0 c0 x1 l1 c1 x5 l5 c5 x6 x7 H

theorem zqx1_14ok (nx26 : Int → HP) (Q : QT) (E : ET) (τ : Tau) (H : Heap) (h : zqx1_13_M nx26 Q E τ H) : vc Pr zqx1_p13 τ (zqx1_q7 nx26 Q E) E H :=
  vSl (i := 0) h (fun x0 l0 c0 h => vSl (i := 1) h (fun x1 l1 c1 h => vSl (i := 5) h (fun x5 l5 c5 h => vI (i := 6) h (fun x6 h => vI (i := 7) h (fun x7 h => match h with | ⟨I, μ, h0, hr⟩ => (conv (B := vc Pr zqx1_p13 (Tau.upd (Tau.upd (Tau.upd (Tau.upd (Tau.upd τ 0 (.slice x0 l0 c0)) 1 (.slice x1 l1 c1)) 5 (.slice x5 l5 c5)) 6 (.int .i64 x6)) 7 (.int .i64 x7)) (zqx1_q7 nx26 Q E) E H) (by kernel_rfl) (vc_loop (c := sI zqx1_p13) (τ := (Tau.upd (Tau.upd (Tau.upd (Tau.upd (Tau.upd τ 0 (.slice x0 l0 c0)) 1 (.slice x1 l1 c1)) 5 (.slice x5 l5 c5)) 6 (.int .i64 x6)) 7 (.int .i64 x7))) [0, 1, 5, 6] (fun τ H => mI .i64 (τ 7) fun x7' => I x7' H) (fun τ H => μ (gI (τ 7)) H) (by kernel_rfl) h0 (fun τ1 H1 hf hI => fix_elim (τ := τ1) (i := 0) (v := (.slice x0 l0 c0)) (G := fun τ => vc Pr (sI zqx1_p13) τ (xthen (fun τ2 H2 => (mI .i64 (τ2 7) fun x7' => I x7' H2) ∧ μ (gI (τ2 7)) H2 < μ (gI (τ 7)) H1) (zqx1_q7 nx26 Q E)) E H1) (hf 0 (by simp)) (fix_elim (τ := (Tau.upd τ1 0 (.slice x0 l0 c0))) (i := 1) (v := (.slice x1 l1 c1)) (G := fun τ => vc Pr (sI zqx1_p13) τ (xthen (fun τ2 H2 => (mI .i64 (τ2 7) fun x7' => I x7' H2) ∧ μ (gI (τ2 7)) H2 < μ (gI (τ 7)) H1) (zqx1_q7 nx26 Q E)) E H1) (hf 1 (by simp)) (fix_elim (τ := (Tau.upd (Tau.upd τ1 0 (.slice x0 l0 c0)) 1 (.slice x1 l1 c1))) (i := 5) (v := (.slice x5 l5 c5)) (G := fun τ => vc Pr (sI zqx1_p13) τ (xthen (fun τ2 H2 => (mI .i64 (τ2 7) fun x7' => I x7' H2) ∧ μ (gI (τ2 7)) H2 < μ (gI (τ 7)) H1) (zqx1_q7 nx26 Q E)) E H1) (hf 5 (by simp)) (fix_elim (τ := (Tau.upd (Tau.upd (Tau.upd τ1 0 (.slice x0 l0 c0)) 1 (.slice x1 l1 c1)) 5 (.slice x5 l5 c5))) (i := 6) (v := (.int .i64 x6)) (G := fun τ => vc Pr (sI zqx1_p13) τ (xthen (fun τ2 H2 => (mI .i64 (τ2 7) fun x7' => I x7' H2) ∧ μ (gI (τ2 7)) H2 < μ (gI (τ 7)) H1) (zqx1_q7 nx26 Q E)) E H1) (hf 6 (by simp)) (mI_elim (i := 7) (G := fun τ => vc Pr (sI zqx1_p13) τ (xthen (fun τ2 H2 => (mI .i64 (τ2 7) fun x7' => I x7' H2) ∧ μ (gI (τ2 7)) H2 < μ (gI (τ 7)) H1) (zqx1_q7 nx26 Q E)) E H1) hI (fun x7r h => (conv (B := vc Pr (sI zqx1_p13) (Tau.upd (Tau.upd (Tau.upd (Tau.upd (Tau.upd τ1 0 (.slice x0 l0 c0)) 1 (.slice x1 l1 c1)) 5 (.slice x5 l5 c5)) 6 (.int .i64 x6)) 7 (.int .i64 x7r)) (xthen (fun τ2 H2 => (mI .i64 (τ2 7) fun x7' => I x7' H2) ∧ μ (gI (τ2 7)) H2 < μ (gI ((Tau.upd (Tau.upd (Tau.upd (Tau.upd (Tau.upd τ1 0 (.slice x0 l0 c0)) 1 (.slice x1 l1 c1)) 5 (.slice x5 l5 c5)) 6 (.int .i64 x6)) 7 (.int .i64 x7r)) 7)) H1) (zqx1_q7 nx26 Q E)) E H1) (by kernel_rfl) (vc_xthen (zqx1_12ok nx26 (fun x7' H2 => I x7' H2 ∧ μ x7' H2 < μ x7r H1) Q E (Tau.upd (Tau.upd (Tau.upd (Tau.upd (Tau.upd τ1 0 (.slice x0 l0 c0)) 1 (.slice x1 l1 c1)) 5 (.slice x5 l5 c5)) 6 (.int .i64 x6)) 7 (.int .i64 x7r)) H1 (conv (B := zqx1_10_M nx26 (fun x7' H2 => I x7' H2 ∧ μ x7' H2 < μ x7r H1) Q E (Tau.upd (Tau.upd (Tau.upd (Tau.upd (Tau.upd τ1 0 (.slice x0 l0 c0)) 1 (.slice x1 l1 c1)) 5 (.slice x5 l5 c5)) 6 (.int .i64 x6)) 7 (.int .i64 x7r)) H1) (by kernel_rfl) (hr x7r H1 h))) (fun τ2 H2 hk => mI_elim (i := 7) (G := fun τ => (mI .i64 (τ 7) fun x7' => I x7' H2) ∧ μ (gI (τ 7)) H2 < μ x7r H1) hk (fun x7' h => h)))))))))))))))))

theorem zqx1_15ok (nx26 : Int → HP) (Q : QT) (E : ET) (τ : Tau) (H : Heap) (h : zqx1_13_M nx26 Q E τ H) : vc Pr zqx1_p12 τ (zqx1_q6 nx26 Q E) E H :=
  (conv (B := vc Pr zqx1_p12 τ (zqx1_q6 nx26 Q E) E H) (by kernel_rfl) (zqx1_14ok nx26 Q E τ H h))

@[reducible] noncomputable def zqx1_q11 (nx26 : Int → HP) (Q : QT) (E : ET) : Exit → Tau → Heap → Prop := (xthen (zqx1_13_M nx26 Q E) (zqx1_q6 nx26 Q E))

@[reducible] noncomputable def zqx1_p19 : Code := sA zqx1_p11

def zqx1_16 (nx26 : Int → HP) (Q : QT) (E : ET) (x0 : OA) (l0 : Nat) (c0 : Nat) (x1 : OA) (l1 : Nat) (c1 : Nat) (x5 : OA) (l5 : Nat) (c5 : Nat) (x6 : Int) (H : Heap) : Prop :=
 zqx1_13 nx26 Q E x0 l0 c0 x1 l1 c1 x5 l5 c5 x6 0 H

def zqx1_16_M (nx26 : Int → HP) (Q : QT) (E : ET) (τ : Tau) (H : Heap) : Prop := mSl (τ 0) fun x0 l0 c0 => mSl (τ 1) fun x1 l1 c1 => mSl (τ 5) fun x5 l5 c5 => mI .i64 (τ 6) fun x6 => zqx1_16 nx26 Q E x0 l0 c0 x1 l1 c1 x5 l5 c5 x6 H

theorem zqx1_17ok (nx26 : Int → HP) (Q : QT) (E : ET) (τ : Tau) (H : Heap) (h : zqx1_16_M nx26 Q E τ H) : vc Pr zqx1_p19 τ (zqx1_q11 nx26 Q E) E H :=
  vSl (i := 0) h (fun x0 l0 c0 h => vSl (i := 1) h (fun x1 l1 c1 h => vSl (i := 5) h (fun x5 l5 c5 h => vI (i := 6) h (fun x6 h => (conv (by kernel_rfl) h)))))

theorem zqx1_18ok (nx26 : Int → HP) (Q : QT) (E : ET) (τ : Tau) (H : Heap) (h : zqx1_16_M nx26 Q E τ H) : vc Pr zqx1_p11 τ (zqx1_q6 nx26 Q E) E H :=
  (conv (B := vc Pr zqx1_p11 τ (zqx1_q6 nx26 Q E) E H) (by kernel_rfl) (vc_seq (K := (zqx1_13_M nx26 Q E)) (zqx1_17ok nx26 Q E τ H h) (zqx1_15ok nx26 Q E)))

theorem zqx1_19ok (nx26 : Int → HP) (Q : QT) (E : ET) (τ : Tau) (H : Heap) (h : zqx1_16_M nx26 Q E τ H) : vc Pr zqx1_p10 τ (zqx1_q5 nx26 Q E) E H :=
  (conv (B := vc Pr zqx1_p10 τ (zqx1_q5 nx26 Q E) E H) (by kernel_rfl) (zqx1_18ok nx26 Q E τ H h))

theorem zqx1_20ok (nx26 : Int → HP) (Q : QT) (E : ET) (τ : Tau) (H : Heap) (h : zqx1_16_M nx26 Q E τ H) : vc Pr zqx1_p8 τ (zqx1_q4 nx26 Q E) E H :=
  (conv (B := vc Pr zqx1_p8 τ (zqx1_q4 nx26 Q E) E H) (by kernel_rfl) (vc_seq (K := (zqx1_3_M nx26 Q E)) (zqx1_19ok nx26 Q E τ H h) (zqx1_4ok nx26 Q E)))

@[reducible] noncomputable def zqx1_q12 (nx26 : Int → HP) (Q : QT) (E : ET) : Exit → Tau → Heap → Prop := (xthen (zqx1_16_M nx26 Q E) (zqx1_q4 nx26 Q E))

@[reducible] noncomputable def zqx1_p20 : Code := sA zqx1_p7

def zqx1_21 (nx26 : Int → HP) (Q : QT) (E : ET) (x0 : OA) (l0 : Nat) (c0 : Nat) (x1 : OA) (l1 : Nat) (c1 : Nat) (x5 : OA) (l5 : Nat) (c5 : Nat) (x6 : Int) (H : Heap) : Prop :=
 sel (decide ((x6 : Int) < ((l0 : Nat) : Int)))
 (zqx1_16 nx26 Q E x0 l0 c0 x1 l1 c1 x5 l5 c5 x6 H)
 (zqx1_1 Q E x5 l5 c5 H)

def zqx1_21_M (nx26 : Int → HP) (Q : QT) (E : ET) (τ : Tau) (H : Heap) : Prop := mSl (τ 0) fun x0 l0 c0 => mSl (τ 1) fun x1 l1 c1 => mSl (τ 5) fun x5 l5 c5 => mI .i64 (τ 6) fun x6 => zqx1_21 nx26 Q E x0 l0 c0 x1 l1 c1 x5 l5 c5 x6 H

theorem zqx1_22ok (nx26 : Int → HP) (Q : QT) (E : ET) (τ : Tau) (H : Heap) (h : zqx1_21_M nx26 Q E τ H) : vc Pr zqx1_p20 τ (zqx1_q12 nx26 Q E) E H :=
  vSl (i := 0) h (fun x0 l0 c0 h => vSl (i := 1) h (fun x1 l1 c1 h => vSl (i := 5) h (fun x5 l5 c5 h => vI (i := 6) h (fun x6 h => (conv (by kernel_rfl) h)))))

theorem zqx1_23ok (nx26 : Int → HP) (Q : QT) (E : ET) (τ : Tau) (H : Heap) (h : zqx1_21_M nx26 Q E τ H) : vc Pr zqx1_p7 τ (zqx1_q4 nx26 Q E) E H :=
  (conv (B := vc Pr zqx1_p7 τ (zqx1_q4 nx26 Q E) E H) (by kernel_rfl) (vc_seq (K := (zqx1_16_M nx26 Q E)) (zqx1_22ok nx26 Q E τ H h) (zqx1_20ok nx26 Q E)))

def zqx1_24 (Q : QT) (E : ET) (x0 : OA) (l0 : Nat) (c0 : Nat) (x1 : OA) (l1 : Nat) (c1 : Nat) (x5 : OA) (l5 : Nat) (c5 : Nat) (x6 : Int) (H : Heap) : Prop :=
 ∃ (I : Int → HP) (μ : Int → Heap → Nat), I x6 H ∧ ∀ (x6 : Int) (H : Heap), I x6 H →
 zqx1_21 (fun x6' H1 => I x6' H1 ∧ μ x6' H1 < μ x6 H) Q E x0 l0 c0 x1 l1 c1 x5 l5 c5 x6 H

def zqx1_24_M (Q : QT) (E : ET) (τ : Tau) (H : Heap) : Prop := mSl (τ 0) fun x0 l0 c0 => mSl (τ 1) fun x1 l1 c1 => mSl (τ 5) fun x5 l5 c5 => mI .i64 (τ 6) fun x6 => zqx1_24 Q E x0 l0 c0 x1 l1 c1 x5 l5 c5 x6 H

theorem zqx1_25ok (Q : QT) (E : ET) (τ : Tau) (H : Heap) (h : zqx1_24_M Q E τ H) : vc Pr zqx1_p6 τ (zqx1_q3 Q E) E H :=
  vSl (i := 0) h (fun x0 l0 c0 h => vSl (i := 1) h (fun x1 l1 c1 h => vSl (i := 5) h (fun x5 l5 c5 h => vI (i := 6) h (fun x6 h => match h with | ⟨I, μ, h0, hr⟩ => (conv (B := vc Pr zqx1_p6 (Tau.upd (Tau.upd (Tau.upd (Tau.upd τ 0 (.slice x0 l0 c0)) 1 (.slice x1 l1 c1)) 5 (.slice x5 l5 c5)) 6 (.int .i64 x6)) (zqx1_q3 Q E) E H) (by kernel_rfl) (vc_loop (c := sI zqx1_p6) (τ := (Tau.upd (Tau.upd (Tau.upd (Tau.upd τ 0 (.slice x0 l0 c0)) 1 (.slice x1 l1 c1)) 5 (.slice x5 l5 c5)) 6 (.int .i64 x6))) [0, 1, 5] (fun τ H => mI .i64 (τ 6) fun x6' => I x6' H) (fun τ H => μ (gI (τ 6)) H) (by kernel_rfl) h0 (fun τ1 H1 hf hI => fix_elim (τ := τ1) (i := 0) (v := (.slice x0 l0 c0)) (G := fun τ => vc Pr (sI zqx1_p6) τ (xthen (fun τ2 H2 => (mI .i64 (τ2 6) fun x6' => I x6' H2) ∧ μ (gI (τ2 6)) H2 < μ (gI (τ 6)) H1) (zqx1_q3 Q E)) E H1) (hf 0 (by simp)) (fix_elim (τ := (Tau.upd τ1 0 (.slice x0 l0 c0))) (i := 1) (v := (.slice x1 l1 c1)) (G := fun τ => vc Pr (sI zqx1_p6) τ (xthen (fun τ2 H2 => (mI .i64 (τ2 6) fun x6' => I x6' H2) ∧ μ (gI (τ2 6)) H2 < μ (gI (τ 6)) H1) (zqx1_q3 Q E)) E H1) (hf 1 (by simp)) (fix_elim (τ := (Tau.upd (Tau.upd τ1 0 (.slice x0 l0 c0)) 1 (.slice x1 l1 c1))) (i := 5) (v := (.slice x5 l5 c5)) (G := fun τ => vc Pr (sI zqx1_p6) τ (xthen (fun τ2 H2 => (mI .i64 (τ2 6) fun x6' => I x6' H2) ∧ μ (gI (τ2 6)) H2 < μ (gI (τ 6)) H1) (zqx1_q3 Q E)) E H1) (hf 5 (by simp)) (mI_elim (i := 6) (G := fun τ => vc Pr (sI zqx1_p6) τ (xthen (fun τ2 H2 => (mI .i64 (τ2 6) fun x6' => I x6' H2) ∧ μ (gI (τ2 6)) H2 < μ (gI (τ 6)) H1) (zqx1_q3 Q E)) E H1) hI (fun x6r h => (conv (B := vc Pr (sI zqx1_p6) (Tau.upd (Tau.upd (Tau.upd (Tau.upd τ1 0 (.slice x0 l0 c0)) 1 (.slice x1 l1 c1)) 5 (.slice x5 l5 c5)) 6 (.int .i64 x6r)) (xthen (fun τ2 H2 => (mI .i64 (τ2 6) fun x6' => I x6' H2) ∧ μ (gI (τ2 6)) H2 < μ (gI ((Tau.upd (Tau.upd (Tau.upd (Tau.upd τ1 0 (.slice x0 l0 c0)) 1 (.slice x1 l1 c1)) 5 (.slice x5 l5 c5)) 6 (.int .i64 x6r)) 6)) H1) (zqx1_q3 Q E)) E H1) (by kernel_rfl) (vc_xthen (zqx1_23ok (fun x6' H2 => I x6' H2 ∧ μ x6' H2 < μ x6r H1) Q E (Tau.upd (Tau.upd (Tau.upd (Tau.upd τ1 0 (.slice x0 l0 c0)) 1 (.slice x1 l1 c1)) 5 (.slice x5 l5 c5)) 6 (.int .i64 x6r)) H1 (conv (B := zqx1_21_M (fun x6' H2 => I x6' H2 ∧ μ x6' H2 < μ x6r H1) Q E (Tau.upd (Tau.upd (Tau.upd (Tau.upd τ1 0 (.slice x0 l0 c0)) 1 (.slice x1 l1 c1)) 5 (.slice x5 l5 c5)) 6 (.int .i64 x6r)) H1) (by kernel_rfl) (hr x6r H1 h))) (fun τ2 H2 hk => mI_elim (i := 6) (G := fun τ => (mI .i64 (τ 6) fun x6' => I x6' H2) ∧ μ (gI (τ 6)) H2 < μ x6r H1) hk (fun x6' h => h)))))))))))))))

theorem zqx1_26ok (Q : QT) (E : ET) (τ : Tau) (H : Heap) (h : zqx1_24_M Q E τ H) : vc Pr zqx1_p5 τ (zqx1_q2 Q E) E H :=
  (conv (B := vc Pr zqx1_p5 τ (zqx1_q2 Q E) E H) (by kernel_rfl) (zqx1_25ok Q E τ H h))

@[reducible] noncomputable def zqx1_q13 (Q : QT) (E : ET) : Exit → Tau → Heap → Prop := (xthen (zqx1_24_M Q E) (zqx1_q2 Q E))

@[reducible] noncomputable def zqx1_p21 : Code := sA zqx1_p4

def zqx1_27 (Q : QT) (E : ET) (x0 : OA) (l0 : Nat) (c0 : Nat) (x1 : OA) (l1 : Nat) (c1 : Nat) (x5 : OA) (l5 : Nat) (c5 : Nat) (H : Heap) : Prop :=
 zqx1_24 Q E x0 l0 c0 x1 l1 c1 x5 l5 c5 0 H

def zqx1_27_M (Q : QT) (E : ET) (τ : Tau) (H : Heap) : Prop := mSl (τ 0) fun x0 l0 c0 => mSl (τ 1) fun x1 l1 c1 => mSl (τ 5) fun x5 l5 c5 => zqx1_27 Q E x0 l0 c0 x1 l1 c1 x5 l5 c5 H

theorem zqx1_28ok (Q : QT) (E : ET) (τ : Tau) (H : Heap) (h : zqx1_27_M Q E τ H) : vc Pr zqx1_p21 τ (zqx1_q13 Q E) E H :=
  vSl (i := 0) h (fun x0 l0 c0 h => vSl (i := 1) h (fun x1 l1 c1 h => vSl (i := 5) h (fun x5 l5 c5 h => (conv (by kernel_rfl) h))))

theorem zqx1_29ok (Q : QT) (E : ET) (τ : Tau) (H : Heap) (h : zqx1_27_M Q E τ H) : vc Pr zqx1_p4 τ (zqx1_q2 Q E) E H :=
  (conv (B := vc Pr zqx1_p4 τ (zqx1_q2 Q E) E H) (by kernel_rfl) (vc_seq (K := (zqx1_24_M Q E)) (zqx1_28ok Q E τ H h) (zqx1_26ok Q E)))

theorem zqx1_30ok (Q : QT) (E : ET) (τ : Tau) (H : Heap) (h : zqx1_27_M Q E τ H) : vc Pr zqx1_p2 τ (zqx1_q1 Q E) E H :=
  (conv (B := vc Pr zqx1_p2 τ (zqx1_q1 Q E) E H) (by kernel_rfl) (vc_seq (K := (zqx1_1_M Q E)) (zqx1_29ok Q E τ H h) (zqx1_2ok Q E)))

@[reducible] noncomputable def zqx1_q14 (Q : QT) (E : ET) : Exit → Tau → Heap → Prop := (xthen (zqx1_27_M Q E) (zqx1_q1 Q E))

@[reducible] noncomputable def zqx1_p22 : Code := sA zqx1_p1

def zqx1_31 (Q : QT) (E : ET) (x0 : OA) (l0 : Nat) (c0 : Nat) (x1 : OA) (l1 : Nat) (c1 : Nat) (H : Heap) : Prop :=
 Does Pr 99 #[(.int .i64 ((l0 : Nat) : Int))] H (fun v88 H89 =>
 ∃ (p90 : OA) (l91 c92 : Nat), v88 = (.slice p90 l91 c92) ∧ zqx1_27 Q E x0 l0 c0 x1 l1 c1 p90 l91 c92 H89) E

def zqx1_31_M (Q : QT) (E : ET) (τ : Tau) (H : Heap) : Prop := mSl (τ 0) fun x0 l0 c0 => mSl (τ 1) fun x1 l1 c1 => zqx1_31 Q E x0 l0 c0 x1 l1 c1 H

theorem zqx1_32ok (Q : QT) (E : ET) (τ : Tau) (H : Heap) (h : zqx1_31_M Q E τ H) : vc Pr zqx1_p22 τ (zqx1_q14 Q E) E H :=
  vSl (i := 0) h (fun x0 l0 c0 h => vSl (i := 1) h (fun x1 l1 c1 h => (conv (by kernel_rfl) h)))

theorem zqx1_33ok (Q : QT) (E : ET) (τ : Tau) (H : Heap) (h : zqx1_31_M Q E τ H) : vc Pr zqx1_p1 τ (zqx1_q1 Q E) E H :=
  (conv (B := vc Pr zqx1_p1 τ (zqx1_q1 Q E) E H) (by kernel_rfl) (vc_seq (K := (zqx1_27_M Q E)) (zqx1_32ok Q E τ H h) (zqx1_30ok Q E)))

@[reducible] noncomputable def zqx1_q15 (Q : QT) (E : ET) : Exit → Tau → Heap → Prop := (xthen (zqx1_31_M Q E) (zqx1_q1 Q E))

@[reducible] noncomputable def zqx1_p23 : Code := sA zqx1_p0

def zqx1 (Q : QT) (E : ET) (a0 : OA) (a0l : Nat) (a0c : Nat) (a1 : OA) (a1l : Nat) (a1c : Nat) (H : Heap) : Prop :=
 zqx1_31 Q E a0 a0l a0c a1 a1l a1c H

theorem zqx1_fn (a0 : OA) (a0l : Nat) (a0c : Nat) (a1 : OA) (a1l : Nat) (a1c : Nat) (Q : QT) (E : ET) (H : Heap) (h : zqx1 Q E a0 a0l a0c a1 a1l a1c H)   : Does Pr 85 #[(.slice a0 a0l a0c), (.slice a1 a1l a1c)] H Q E :=
  Fn_of_vc (fn := Try.f85) (c := zqx1_p0) (args := [(.slice a0 a0l a0c), (.slice a1 a1l a1c)]) mixed (by kernel_rfl) (by kernel_rfl) (by kernel_rfl) (by kernel_rfl) (by kernel_rfl) ((conv (B := vc Pr zqx1_p0 (argT [(.slice a0 a0l a0c), (.slice a1 a1l a1c)]) (zqx1_q1 Q E) E H) (by kernel_rfl) (vc_seq (K := (zqx1_31_M Q E)) (conv (B := vc Pr zqx1_p23 (argT [(.slice a0 a0l a0c), (.slice a1 a1l a1c)]) (zqx1_q15 Q E) E H) (by kernel_rfl) h) (zqx1_33ok Q E))))

/-! jobmux/jobmuxref09.star -/
@[reducible] noncomputable def zqy1_q1 (Q : QT) (E : ET) : Exit → Tau → Heap → Prop := (retQ Pr (Try.f86).results.toList Q)

@[reducible] noncomputable def zqy1_p0 : Code := bodyOf Try.f86

@[reducible] noncomputable def zqy1_p1 : Code := sB zqy1_p0

@[reducible] noncomputable def zqy1_p2 : Code := sB zqy1_p1

@[reducible] noncomputable def zqy1_p3 : Code := sB zqy1_p2

def zqy1_1 (Q : QT) (E : ET) (x3 : OA) (l3 : Nat) (c3 : Nat) (H : Heap) : Prop :=
 Q (.slice x3 l3 c3) H

def zqy1_1_M (Q : QT) (E : ET) (τ : Tau) (H : Heap) : Prop := mSl (τ 3) fun x3 l3 c3 => zqy1_1 Q E x3 l3 c3 H

theorem zqy1_2ok (Q : QT) (E : ET) (τ : Tau) (H : Heap) (h : zqy1_1_M Q E τ H) : vc Pr zqy1_p3 τ (zqy1_q1 Q E) E H :=
  vSl (i := 3) h (fun x3 l3 c3 h => (conv (by kernel_rfl) h))

@[reducible] noncomputable def zqy1_q2 (Q : QT) (E : ET) : Exit → Tau → Heap → Prop := (xthen (zqy1_1_M Q E) (zqy1_q1 Q E))

@[reducible] noncomputable def zqy1_p4 : Code := sA zqy1_p2

@[reducible] noncomputable def zqy1_p5 : Code := sB zqy1_p4

@[reducible] noncomputable def zqy1_q3 (Q : QT) (E : ET) : Exit → Tau → Heap → Prop := (xblock 0 (zqy1_q2 Q E))

@[reducible] noncomputable def zqy1_p6 : Code := sI zqy1_p5

@[reducible] noncomputable def zqy1_q4 (nx37 : Int → HP) (Q : QT) (E : ET) : Exit → Tau → Heap → Prop := (xthen (fun τ H => mI .i64 (τ 4) fun x4' => nx37 x4' H) (zqy1_q3 Q E))

@[reducible] noncomputable def zqy1_p7 : Code := sI zqy1_p6

@[reducible] noncomputable def zqy1_p8 : Code := sB zqy1_p7

@[reducible] noncomputable def zqy1_p9 : Code := sB zqy1_p8

def zqy1_3 (nx37 : Int → HP) (Q : QT) (E : ET) (x0 : OA) (l0 : Nat) (c0 : Nat) (x3 : OA) (l3 : Nat) (c3 : Nat) (x4 : Int) (H : Heap) : Prop :=
 nx37 (IntKind.wrap .i64 (x4 + 1)) H

def zqy1_3_M (nx37 : Int → HP) (Q : QT) (E : ET) (τ : Tau) (H : Heap) : Prop := mSl (τ 0) fun x0 l0 c0 => mSl (τ 3) fun x3 l3 c3 => mI .i64 (τ 4) fun x4 => zqy1_3 nx37 Q E x0 l0 c0 x3 l3 c3 x4 H

theorem zqy1_4ok (nx37 : Int → HP) (Q : QT) (E : ET) (τ : Tau) (H : Heap) (h : zqy1_3_M nx37 Q E τ H) : vc Pr zqy1_p9 τ (zqy1_q4 nx37 Q E) E H :=
  vSl (i := 0) h (fun x0 l0 c0 h => vSl (i := 3) h (fun x3 l3 c3 h => vI (i := 4) h (fun x4 h => (conv (by kernel_rfl) h))))

@[reducible] noncomputable def zqy1_q5 (nx37 : Int → HP) (Q : QT) (E : ET) : Exit → Tau → Heap → Prop := (xthen (zqy1_3_M nx37 Q E) (zqy1_q4 nx37 Q E))

@[reducible] noncomputable def zqy1_p10 : Code := sA zqy1_p8

@[reducible] noncomputable def zqy1_q6 (nx37 : Int → HP) (Q : QT) (E : ET) : Exit → Tau → Heap → Prop := (xblock 1 (zqy1_q5 nx37 Q E))

@[reducible] noncomputable def zqy1_p11 : Code := sI zqy1_p10

@[reducible] noncomputable def zqy1_p12 : Code := sB zqy1_p11

@[reducible] noncomputable def zqy1_q7 (nx37 : Int → HP) (Q : QT) (E : ET) : Exit → Tau → Heap → Prop := (xblock 2 (zqy1_q6 nx37 Q E))

@[reducible] noncomputable def zqy1_p13 : Code := sI zqy1_p12

@[reducible] noncomputable def zqy1_q8 (nx37 : Int → HP) (nx64 : Int → HP) (Q : QT) (E : ET) : Exit → Tau → Heap → Prop := (xthen (fun τ H => mI .i64 (τ 5) fun x5' => nx64 x5' H) (zqy1_q7 nx37 Q E))

@[reducible] noncomputable def zqy1_p14 : Code := sI zqy1_p13

@[reducible] noncomputable def zqy1_p15 : Code := sB zqy1_p14

@[reducible] noncomputable def zqy1_p16 : Code := sB zqy1_p15

def zqy1_5 (nx37 : Int → HP) (nx64 : Int → HP) (Q : QT) (E : ET) (x0 : OA) (l0 : Nat) (c0 : Nat) (x3 : OA) (l3 : Nat) (c3 : Nat) (x4 : Int) (x5 : Int) (H : Heap) : Prop :=
 nx64 (IntKind.wrap .i64 (x5 + 1)) H

def zqy1_5_M (nx37 : Int → HP) (nx64 : Int → HP) (Q : QT) (E : ET) (τ : Tau) (H : Heap) : Prop := mSl (τ 0) fun x0 l0 c0 => mSl (τ 3) fun x3 l3 c3 => mI .i64 (τ 4) fun x4 => mI .i64 (τ 5) fun x5 => zqy1_5 nx37 nx64 Q E x0 l0 c0 x3 l3 c3 x4 x5 H

theorem zqy1_6ok (nx37 : Int → HP) (nx64 : Int → HP) (Q : QT) (E : ET) (τ : Tau) (H : Heap) (h : zqy1_5_M nx37 nx64 Q E τ H) : vc Pr zqy1_p16 τ (zqy1_q8 nx37 nx64 Q E) E H :=
  vSl (i := 0) h (fun x0 l0 c0 h => vSl (i := 3) h (fun x3 l3 c3 h => vI (i := 4) h (fun x4 h => vI (i := 5) h (fun x5 h => (conv (by kernel_rfl) h)))))

@[reducible] noncomputable def zqy1_q9 (nx37 : Int → HP) (nx64 : Int → HP) (Q : QT) (E : ET) : Exit → Tau → Heap → Prop := (xthen (zqy1_5_M nx37 nx64 Q E) (zqy1_q8 nx37 nx64 Q E))

@[reducible] noncomputable def zqy1_p17 : Code := sA zqy1_p15

@[reducible] noncomputable def zqy1_q10 (nx37 : Int → HP) (nx64 : Int → HP) (Q : QT) (E : ET) : Exit → Tau → Heap → Prop := (xblock 3 (zqy1_q9 nx37 nx64 Q E))

@[reducible] noncomputable def zqy1_p18 : Code := sI zqy1_p17

@[reducible] noncomputable def zqy1_p19 : Code := sB zqy1_p18

@[reducible] noncomputable def zqy1_q11 (nx37 : Int → HP) (nx64 : Int → HP) (Q : QT) (E : ET) : Exit → Tau → Heap → Prop := (xblock 4 (zqy1_q10 nx37 nx64 Q E))

@[reducible] noncomputable def zqy1_p20 : Code := sI zqy1_p19

@[reducible] noncomputable def zqy1_q12 (nx37 : Int → HP) (nx64 : Int → HP) (nx91 : Int → HP) (Q : QT) (E : ET) : Exit → Tau → Heap → Prop := (xthen (fun τ H => mI .i64 (τ 6) fun x6' => nx91 x6' H) (zqy1_q11 nx37 nx64 Q E))

@[reducible] noncomputable def zqy1_p21 : Code := sI zqy1_p20

@[reducible] noncomputable def zqy1_p22 : Code := sB zqy1_p21

@[reducible] noncomputable def zqy1_p23 : Code := sB zqy1_p22

def zqy1_7 (nx37 : Int → HP) (nx64 : Int → HP) (nx91 : Int → HP) (Q : QT) (E : ET) (x0 : OA) (l0 : Nat) (c0 : Nat) (x3 : OA) (l3 : Nat) (c3 : Nat) (x4 : Int) (x5 : Int) (x6 : Int) (H : Heap) : Prop :=
 nx91 (IntKind.wrap .i64 (x6 + 1)) H

def zqy1_7_M (nx37 : Int → HP) (nx64 : Int → HP) (nx91 : Int → HP) (Q : QT) (E : ET) (τ : Tau) (H : Heap) : Prop := mSl (τ 0) fun x0 l0 c0 => mSl (τ 3) fun x3 l3 c3 => mI .i64 (τ 4) fun x4 => mI .i64 (τ 5) fun x5 => mI .i64 (τ 6) fun x6 => zqy1_7 nx37 nx64 nx91 Q E x0 l0 c0 x3 l3 c3 x4 x5 x6 H

theorem zqy1_8ok (nx37 : Int → HP) (nx64 : Int → HP) (nx91 : Int → HP) (Q : QT) (E : ET) (τ : Tau) (H : Heap) (h : zqy1_7_M nx37 nx64 nx91 Q E τ H) : vc Pr zqy1_p23 τ (zqy1_q12 nx37 nx64 nx91 Q E) E H :=
  vSl (i := 0) h (fun x0 l0 c0 h => vSl (i := 3) h (fun x3 l3 c3 h => vI (i := 4) h (fun x4 h => vI (i := 5) h (fun x5 h => vI (i := 6) h (fun x6 h => (conv (by kernel_rfl) h))))))

@[reducible] noncomputable def zqy1_q13 (nx37 : Int → HP) (nx64 : Int → HP) (nx91 : Int → HP) (Q : QT) (E : ET) : Exit → Tau → Heap → Prop := (xthen (zqy1_7_M nx37 nx64 nx91 Q E) (zqy1_q12 nx37 nx64 nx91 Q E))

@[reducible] noncomputable def zqy1_p24 : Code := sA zqy1_p22

def zqy1_9 (nx37 : Int → HP) (nx64 : Int → HP) (nx91 : Int → HP) (Q : QT) (E : ET) (x0 : OA) (l0 : Nat) (c0 : Nat) (x3 : OA) (l3 : Nat) (c3 : Nat) (x4 : Int) (x5 : Int) (x6 : Int) (H : Heap) : Prop :=
 (0 ≤ (x5 : Int) ∧ (x5 : Int) < ((l3 : Nat) : Int)) ∧ ptr x3 fun q118 =>
 ldSl (Addr.add q118 ((x5 : Int).toNat * 1)) H fun p119 l120 c121 =>
 (0 ≤ (x5 : Int) ∧ (x5 : Int) < ((l3 : Nat) : Int)) ∧ ptr x3 fun q122 =>
 ldSl (Addr.add q122 ((x5 : Int).toNat * 1)) H fun p123 l124 c125 =>
 (0 ≤ (x6 : Int) ∧ (x6 : Int) < ((l124 : Nat) : Int)) ∧ ptr p123 fun q126 =>
 ldB (Addr.add q126 ((x6 : Int).toNat * 1)) H fun b127 =>
 sel b127
 ((0 ≤ (x6 : Int) ∧ (x6 : Int) < ((l120 : Nat) : Int)) ∧ ptr p119 fun q128 =>
 wr (Addr.add q128 ((x6 : Int).toNat * 1)) [(.bool true)] H fun H129 =>
 zqy1_7 nx37 nx64 nx91 Q E x0 l0 c0 x3 l3 c3 x4 x5 x6 H129)
 ((0 ≤ (x4 : Int) ∧ (x4 : Int) < ((l3 : Nat) : Int)) ∧ ptr x3 fun q130 =>
 ldSl (Addr.add q130 ((x4 : Int).toNat * 1)) H fun p131 l132 c133 =>
 (0 ≤ (x6 : Int) ∧ (x6 : Int) < ((l132 : Nat) : Int)) ∧ ptr p131 fun q134 =>
 ldB (Addr.add q134 ((x6 : Int).toNat * 1)) H fun b135 =>
 (0 ≤ (x6 : Int) ∧ (x6 : Int) < ((l120 : Nat) : Int)) ∧ ptr p119 fun q136 =>
 wr (Addr.add q136 ((x6 : Int).toNat * 1)) [(.bool b135)] H fun H137 =>
 zqy1_7 nx37 nx64 nx91 Q E x0 l0 c0 x3 l3 c3 x4 x5 x6 H137)

def zqy1_9_M (nx37 : Int → HP) (nx64 : Int → HP) (nx91 : Int → HP) (Q : QT) (E : ET) (τ : Tau) (H : Heap) : Prop := mSl (τ 0) fun x0 l0 c0 => mSl (τ 3) fun x3 l3 c3 => mI .i64 (τ 4) fun x4 => mI .i64 (τ 5) fun x5 => mI .i64 (τ 6) fun x6 => zqy1_9 nx37 nx64 nx91 Q E x0 l0 c0 x3 l3 c3 x4 x5 x6 H

theorem zqy1_10ok (nx37 : Int → HP) (nx64 : Int → HP) (nx91 : Int → HP) (Q : QT) (E : ET) (τ : Tau) (H : Heap) (h : zqy1_9_M nx37 nx64 nx91 Q E τ H) : vc Pr zqy1_p24 τ (zqy1_q13 nx37 nx64 nx91 Q E) E H :=
  vSl (i := 0) h (fun x0 l0 c0 h => vSl (i := 3) h (fun x3 l3 c3 h => vI (i := 4) h (fun x4 h => vI (i := 5) h (fun x5 h => vI (i := 6) h (fun x6 h => (conv (by kernel_rfl) h))))))

theorem zqy1_11ok (nx37 : Int → HP) (nx64 : Int → HP) (nx91 : Int → HP) (Q : QT) (E : ET) (τ : Tau) (H : Heap) (h : zqy1_9_M nx37 nx64 nx91 Q E τ H) : vc Pr zqy1_p22 τ (zqy1_q12 nx37 nx64 nx91 Q E) E H :=
  (conv (B := vc Pr zqy1_p22 τ (zqy1_q12 nx37 nx64 nx91 Q E) E H) (by kernel_rfl) (vc_seq (K := (zqy1_7_M nx37 nx64 nx91 Q E)) (zqy1_10ok nx37 nx64 nx91 Q E τ H h) (zqy1_8ok nx37 nx64 nx91 Q E)))

@[reducible] noncomputable def zqy1_q14 (nx37 : Int → HP) (nx64 : Int → HP) (nx91 : Int → HP) (Q : QT) (E : ET) : Exit → Tau → Heap → Prop := (xthen (zqy1_9_M nx37 nx64 nx91 Q E) (zqy1_q12 nx37 nx64 nx91 Q E))

@[reducible] noncomputable def zqy1_p25 : Code := sA zqy1_p21

@[reducible] noncomputable def zqy1_p26 : Code := sB zqy1_p25

def zqy1_12 (nx37 : Int → HP) (nx64 : Int → HP) (nx91 : Int → HP) (Q : QT) (E : ET) (x0 : OA) (l0 : Nat) (c0 : Nat) (x3 : OA) (l3 : Nat) (c3 : Nat) (x4 : Int) (x5 : Int) (x6 : Int) (x36 : Bool) (H : Heap) : Prop :=
 sel x36
 (zqy1_9 nx37 nx64 nx91 Q E x0 l0 c0 x3 l3 c3 x4 x5 x6 H)
 (zqy1_5 nx37 nx64 Q E x0 l0 c0 x3 l3 c3 x4 x5 H)

def zqy1_12_M (nx37 : Int → HP) (nx64 : Int → HP) (nx91 : Int → HP) (Q : QT) (E : ET) (τ : Tau) (H : Heap) : Prop := mSl (τ 0) fun x0 l0 c0 => mSl (τ 3) fun x3 l3 c3 => mI .i64 (τ 4) fun x4 => mI .i64 (τ 5) fun x5 => mI .i64 (τ 6) fun x6 => mB (τ 36) fun x36 => zqy1_12 nx37 nx64 nx91 Q E x0 l0 c0 x3 l3 c3 x4 x5 x6 x36 H

theorem zqy1_13ok (nx37 : Int → HP) (nx64 : Int → HP) (nx91 : Int → HP) (Q : QT) (E : ET) (τ : Tau) (H : Heap) (h : zqy1_12_M nx37 nx64 nx91 Q E τ H) : vc Pr zqy1_p26 τ (zqy1_q14 nx37 nx64 nx91 Q E) E H :=
  vSl (i := 0) h (fun x0 l0 c0 h => vSl (i := 3) h (fun x3 l3 c3 h => vI (i := 4) h (fun x4 h => vI (i := 5) h (fun x5 h => vI (i := 6) h (fun x6 h => vB (i := 36) h (fun x36 h => (conv (by kernel_rfl) h)))))))

@[reducible] noncomputable def zqy1_q15 (nx37 : Int → HP) (nx64 : Int → HP) (nx91 : Int → HP) (Q : QT) (E : ET) : Exit → Tau → Heap → Prop := (xthen (zqy1_12_M nx37 nx64 nx91 Q E) (zqy1_q14 nx37 nx64 nx91 Q E))

@[reducible] noncomputable def zqy1_p27 : Code := sA zqy1_p25

def zqy1_14 (nx37 : Int → HP) (nx64 : Int → HP) (nx91 : Int → HP) (Q : QT) (E : ET) (x0 : OA) (l0 : Nat) (c0 : Nat) (x3 : OA) (l3 : Nat) (c3 : Nat) (x4 : Int) (x5 : Int) (x6 : Int) (H : Heap) : Prop :=
 sel (decide ((x6 : Int) < ((l0 : Nat) : Int)))
 ((0 ≤ (x5 : Int) ∧ (x5 : Int) < ((l3 : Nat) : Int)) ∧ ptr x3 fun q144 =>
 ldSl (Addr.add q144 ((x5 : Int).toNat * 1)) H fun p145 l146 c147 =>
 (0 ≤ (x4 : Int) ∧ (x4 : Int) < ((l146 : Nat) : Int)) ∧ ptr p145 fun q148 =>
 ldB (Addr.add q148 ((x4 : Int).toNat * 1)) H fun b149 =>
 zqy1_12 nx37 nx64 nx91 Q E x0 l0 c0 x3 l3 c3 x4 x5 x6 b149 H)
 (zqy1_12 nx37 nx64 nx91 Q E x0 l0 c0 x3 l3 c3 x4 x5 x6 false H)

def zqy1_14_M (nx37 : Int → HP) (nx64 : Int → HP) (nx91 : Int → HP) (Q : QT) (E : ET) (τ : Tau) (H : Heap) : Prop := mSl (τ 0) fun x0 l0 c0 => mSl (τ 3) fun x3 l3 c3 => mI .i64 (τ 4) fun x4 => mI .i64 (τ 5) fun x5 => mI .i64 (τ 6) fun x6 => zqy1_14 nx37 nx64 nx91 Q E x0 l0 c0 x3 l3 c3 x4 x5 x6 H

theorem zqy1_15ok (nx37 : Int → HP) (nx64 : Int → HP) (nx91 : Int → HP) (Q : QT) (E : ET) (τ : Tau) (H : Heap) (h : zqy1_14_M nx37 nx64 nx91 Q E τ H) : vc Pr zqy1_p27 τ (zqy1_q15 nx37 nx64 nx91 Q E) E H :=
  vSl (i := 0) h (fun x0 l0 c0 h => vSl (i := 3) h (fun x3 l3 c3 h => vI (i := 4) h (fun x4 h => vI (i := 5) h (fun x5 h => vI (i := 6) h (fun x6 h => (conv (by kernel_rfl) h))))))

theorem zqy1_16ok (nx37 : Int → HP) (nx64 : Int → HP) (nx91 : Int → HP) (Q : QT) (E : ET) (τ : Tau) (H : Heap) (h : zqy1_14_M nx37 nx64 nx91 Q E τ H) : vc Pr zqy1_p25 τ (zqy1_q14 nx37 nx64 nx91 Q E) E H :=
  (conv (B := vc Pr zqy1_p25 τ (zqy1_q14 nx37 nx64 nx91 Q E) E H) (by kernel_rfl) (vc_seq (K := (zqy1_12_M nx37 nx64 nx91 Q E)) (zqy1_15ok nx37 nx64 nx91 Q E τ H h) (zqy1_13ok nx37 nx64 nx91 Q E)))

theorem zqy1_17ok (nx37 : Int → HP) (nx64 : Int → HP) (nx91 : Int → HP) (Q : QT) (E : ET) (τ : Tau) (H : Heap) (h : zqy1_14_M nx37 nx64 nx91 Q E τ H) : vc Pr zqy1_p21 τ (zqy1_q12 nx37 nx64 nx91 Q E) E H :=
  (conv (B := vc Pr zqy1_p21 τ (zqy1_q12 nx37 nx64 nx91 Q E) E H) (by kernel_rfl) (vc_seq (K := (zqy1_9_M nx37 nx64 nx91 Q E)) (zqy1_16ok nx37 nx64 nx91 Q E τ H h) (zqy1_11ok nx37 nx64 nx91 Q E)))

def zqy1_18 (nx37 : Int → HP) (nx64 : Int → HP) (Q : QT) (E : ET) (x0 : OA) (l0 : Nat) (c0 : Nat) (x3 : OA) (l3 : Nat) (c3 : Nat) (x4 : Int) (x5 : Int) (x6 : Int) (H : Heap) : Prop :=
 ∃ (I : Int → HP) (μ : Int → Heap → Nat), I x6 H ∧ ∀ (x6 : Int) (H : Heap), I x6 H →
 zqy1_14 nx37 nx64 (fun x6' H1 => I x6' H1 ∧ μ x6' H1 < μ x6 H) Q E x0 l0 c0 x3 l3 c3 x4 x5 x6 H

def zqy1_18_M (nx37 : Int → HP) (nx64 : Int → HP) (Q : QT) (E : ET) (τ : Tau) (H : Heap) : Prop := mSl (τ 0) fun x0 l0 c0 => mSl (τ 3) fun x3 l3 c3 => mI .i64 (τ 4) fun x4 => mI .i64 (τ 5) fun x5 => mI .i64 (τ 6) fun x6 => zqy1_18 nx37 nx64 Q E x0 l0 c0 x3 l3 c3 x4 x5 x6 H

theorem zqy1_19ok (nx37 : Int → HP) (nx64 : Int → HP) (Q : QT) (E : ET) (τ : Tau) (H : Heap) (h : zqy1_18_M nx37 nx64 Q E τ H) : vc Pr zqy1_p20 τ (zqy1_q11 nx37 nx64 Q E) E H :=
  vSl (i := 0) h (fun x0 l0 c0 h => vSl (i := 3) h (fun x3 l3 c3 h => vI (i := 4) h (fun x4 h => vI (i := 5) h (fun x5 h => vI (i := 6) h (fun x6 h => match h with | ⟨I, μ, h0, hr⟩ => (conv (B := vc Pr zqy1_p20 (Tau.upd (Tau.upd (Tau.upd (Tau.upd (Tau.upd τ 0 (.slice x0 l0 c0)) 3 (.slice x3 l3 c3)) 4 (.int .i64 x4)) 5 (.int .i64 x5)) 6 (.int .i64 x6)) (zqy1_q11 nx37 nx64 Q E) E H) (by kernel_rfl) (vc_loop (c := sI zqy1_p20) (τ := (Tau.upd (Tau.upd (Tau.upd (Tau.upd (Tau.upd τ 0 (.slice x0 l0 c0)) 3 (.slice x3 l3 c3)) 4 (.int .i64 x4)) 5 (.int .i64 x5)) 6 (.int .i64 x6))) [0, 3, 4, 5] (fun τ H => mI .i64 (τ 6) fun x6' => I x6' H) (fun τ H => μ (gI (τ 6)) H) (by kernel_rfl) h0 (fun τ1 H1 hf hI => fix_elim (τ := τ1) (i := 0) (v := (.slice x0 l0 c0)) (G := fun τ => vc Pr (sI zqy1_p20) τ (xthen (fun τ2 H2 => (mI .i64 (τ2 6) fun x6' => I x6' H2) ∧ μ (gI (τ2 6)) H2 < μ (gI (τ 6)) H1) (zqy1_q11 nx37 nx64 Q E)) E H1) (hf 0 (by simp)) (fix_elim (τ := (Tau.upd τ1 0 (.slice x0 l0 c0))) (i := 3) (v := (.slice x3 l3 c3)) (G := fun τ => vc Pr (sI zqy1_p20) τ (xthen (fun τ2 H2 => (mI .i64 (τ2 6) fun x6' => I x6' H2) ∧ μ (gI (τ2 6)) H2 < μ (gI (τ 6)) H1) (zqy1_q11 nx37 nx64 Q E)) E H1) (hf 3 (by simp)) (fix_elim (τ := (Tau.upd (Tau.upd τ1 0 (.slice x0 l0 c0)) 3 (.slice x3 l3 c3))) (i := 4) (v := (.int .i64 x4)) (G := fun τ => vc Pr (sI zqy1_p20) τ (xthen (fun τ2 H2 => (mI .i64 (τ2 6) fun x6' => I x6' H2) ∧ μ (gI (τ2 6)) H2 < μ (gI (τ 6)) H1) (zqy1_q11 nx37 nx64 Q E)) E H1) (hf 4 (by simp)) (fix_elim (τ := (Tau.upd (Tau.upd (Tau.upd τ1 0 (.slice x0 l0 c0)) 3 (.slice x3 l3 c3)) 4 (.int .i64 x4))) (i := 5) (v := (.int .i64 x5)) (G := fun τ => vc Pr (sI zqy1_p20) τ (xthen (fun τ2 H2 => (mI .i64 (τ2 6) fun x6' => I x6' H2) ∧ μ (gI (τ2 6)) H2 < μ (gI (τ 6)) H1) (zqy1_q11 nx37 nx64 Q E)) E H1) (hf 5 (by simp)) (mI_elim (i := 6) (G := fun τ => vc Pr (sI zqy1_p20) τ (xthen (fun τ2 H2 => (mI .i64 (τ2 6) fun x6' => I x6' H2) ∧ μ (gI (τ2 6)) H2 < μ (gI (τ 6)) H1) (zqy1_q11 nx37 nx64 Q E)) E H1) hI (fun x6r h => (conv (B := vc Pr (sI zqy1_p20) (Tau.upd (Tau.upd (Tau.upd (Tau.upd (Tau.upd τ1 0 (.slice x0 l0 c0)) 3 (.slice x3 l3 c3)) 4 (.int .i64 x4)) 5 (.int .i64 x5)) 6 (.int .i64 x6r)) (xthen (fun τ2 H2 => (mI .i64 (τ2 6) fun x6' => I x6' H2) ∧ μ (gI (τ2 6)) H2 < μ (gI ((Tau.upd (Tau.upd (Tau.upd (Tau.upd (Tau.upd τ1 0 (.slice x0 l0 c0)) 3 (.slice x3 l3 c3)) 4 (.int .i64 x4)) 5 (.int .i64 x5)) 6 (.int .i64 x6r)) 6)) H1) (zqy1_q11 nx37 nx64 Q E)) E H1) (by kernel_rfl) (vc_xthen (zqy1_17ok nx37 nx64 (fun x6' H2 => I x6' H2 ∧ μ x6' H2 < μ x6r H1) Q E (Tau.upd (Tau.upd (Tau.upd (Tau.upd (Tau.upd τ1 0 (.slice x0 l0 c0)) 3 (.slice x3 l3 c3)) 4 (.int .i64 x4)) 5 (.int .i64 x5)) 6 (.int .i64 x6r)) H1 (conv (B := zqy1_14_M nx37 nx64 (fun x6' H2 => I x6' H2 ∧ μ x6' H2 < μ x6r H1) Q E (Tau.upd (Tau.upd (Tau.upd (Tau.upd (Tau.upd τ1 0 (.slice x0 l0 c0)) 3 (.slice x3 l3 c3)) 4 (.int .i64 x4)) 5 (.int .i64 x5)) 6 (.int .i64 x6r)) H1) (by kernel_rfl) (hr x6r H1 h))) (fun τ2 H2 hk => mI_elim (i := 6) (G := fun τ => (mI .i64 (τ 6) fun x6' => I x6' H2) ∧ μ (gI (τ 6)) H2 < μ x6r H1) hk (fun x6' h => h)))))))))))))))))

theorem zqy1_20ok (nx37 : Int → HP) (nx64 : Int → HP) (Q : QT) (E : ET) (τ : Tau) (H : Heap) (h : zqy1_18_M nx37 nx64 Q E τ H) : vc Pr zqy1_p19 τ (zqy1_q10 nx37 nx64 Q E) E H :=
  (conv (B := vc Pr zqy1_p19 τ (zqy1_q10 nx37 nx64 Q E) E H) (by kernel_rfl) (zqy1_19ok nx37 nx64 Q E τ H h))

@[reducible] noncomputable def zqy1_q16 (nx37 : Int → HP) (nx64 : Int → HP) (Q : QT) (E : ET) : Exit → Tau → Heap → Prop := (xthen (zqy1_18_M nx37 nx64 Q E) (zqy1_q10 nx37 nx64 Q E))

@[reducible] noncomputable def zqy1_p28 : Code := sA zqy1_p18

def zqy1_21 (nx37 : Int → HP) (nx64 : Int → HP) (Q : QT) (E : ET) (x0 : OA) (l0 : Nat) (c0 : Nat) (x3 : OA) (l3 : Nat) (c3 : Nat) (x4 : Int) (x5 : Int) (H : Heap) : Prop :=
 zqy1_18 nx37 nx64 Q E x0 l0 c0 x3 l3 c3 x4 x5 0 H

def zqy1_21_M (nx37 : Int → HP) (nx64 : Int → HP) (Q : QT) (E : ET) (τ : Tau) (H : Heap) : Prop := mSl (τ 0) fun x0 l0 c0 => mSl (τ 3) fun x3 l3 c3 => mI .i64 (τ 4) fun x4 => mI .i64 (τ 5) fun x5 => zqy1_21 nx37 nx64 Q E x0 l0 c0 x3 l3 c3 x4 x5 H

theorem zqy1_22ok (nx37 : Int → HP) (nx64 : Int → HP) (Q : QT) (E : ET) (τ : Tau) (H : Heap) (h : zqy1_21_M nx37 nx64 Q E τ H) : vc Pr zqy1_p28 τ (zqy1_q16 nx37 nx64 Q E) E H :=
  vSl (i := 0) h (fun x0 l0 c0 h => vSl (i := 3) h (fun x3 l3 c3 h => vI (i := 4) h (fun x4 h => vI (i := 5) h (fun x5 h => (conv (by kernel_rfl) h)))))

theorem zqy1_23ok (nx37 : Int → HP) (nx64 : Int → HP) (Q : QT) (E : ET) (τ : Tau) (H : Heap) (h : zqy1_21_M nx37 nx64 Q E τ H) : vc Pr zqy1_p18 τ (zqy1_q10 nx37 nx64 Q E) E H :=
  (conv (B := vc Pr zqy1_p18 τ (zqy1_q10 nx37 nx64 Q E) E H) (by kernel_rfl) (vc_seq (K := (zqy1_18_M nx37 nx64 Q E)) (zqy1_22ok nx37 nx64 Q E τ H h) (zqy1_20ok nx37 nx64 Q E)))

theorem zqy1_24ok (nx37 : Int → HP) (nx64 : Int → HP) (Q : QT) (E : ET) (τ : Tau) (H : Heap) (h : zqy1_21_M nx37 nx64 Q E τ H) : vc Pr zqy1_p17 τ (zqy1_q9 nx37 nx64 Q E) E H :=
  (conv (B := vc Pr zqy1_p17 τ (zqy1_q9 nx37 nx64 Q E) E H) (by kernel_rfl) (zqy1_23ok nx37 nx64 Q E τ H h))

theorem zqy1_25ok (nx37 : Int → HP) (nx64 : Int → HP) (Q : QT) (E : ET) (τ : Tau) (H : Heap) (h : zqy1_21_M nx37 nx64 Q E τ H) : vc Pr zqy1_p15 τ (zqy1_q8 nx37 nx64 Q E) E H :=
  (conv (B := vc Pr zqy1_p15 τ (zqy1_q8 nx37 nx64 Q E) E H) (by kernel_rfl) (vc_seq (K := (zqy1_5_M nx37 nx64 Q E)) (zqy1_24ok nx37 nx64 Q E τ H h) (zqy1_6ok nx37 nx64 Q E)))

@[reducible] noncomputable def zqy1_q17 (nx37 : Int → HP) (nx64 : Int → HP) (Q : QT) (E : ET) : Exit → Tau → Heap → Prop := (xthen (zqy1_21_M nx37 nx64 Q E) (zqy1_q8 nx37 nx64 Q E))

@[reducible] noncomputable def zqy1_p29 : Code := sA zqy1_p14

def zqy1_26 (nx37 : Int → HP) (nx64 : Int → HP) (Q : QT) (E : ET) (x0 : OA) (l0 : Nat) (c0 : Nat) (x3 : OA) (l3 : Nat) (c3 : Nat) (x4 : Int) (x5 : Int) (H : Heap) : Prop :=
 sel (decide ((x5 : Int) < ((l0 : Nat) : Int)))
 (zqy1_21 nx37 nx64 Q E x0 l0 c0 x3 l3 c3 x4 x5 H)
 (zqy1_3 nx37 Q E x0 l0 c0 x3 l3 c3 x4 H)

def zqy1_26_M (nx37 : Int → HP) (nx64 : Int → HP) (Q : QT) (E : ET) (τ : Tau) (H : Heap) : Prop := mSl (τ 0) fun x0 l0 c0 => mSl (τ 3) fun x3 l3 c3 => mI .i64 (τ 4) fun x4 => mI .i64 (τ 5) fun x5 => zqy1_26 nx37 nx64 Q E x0 l0 c0 x3 l3 c3 x4 x5 H

theorem zqy1_27ok (nx37 : Int → HP) (nx64 : Int → HP) (Q : QT) (E : ET) (τ : Tau) (H : Heap) (h : zqy1_26_M nx37 nx64 Q E τ H) : vc Pr zqy1_p29 τ (zqy1_q17 nx37 nx64 Q E) E H :=
  vSl (i := 0) h (fun x0 l0 c0 h => vSl (i := 3) h (fun x3 l3 c3 h => vI (i := 4) h (fun x4 h => vI (i := 5) h (fun x5 h => (conv (by kernel_rfl) h)))))

theorem zqy1_28ok (nx37 : Int → HP) (nx64 : Int → HP) (Q : QT) (E : ET) (τ : Tau) (H : Heap) (h : zqy1_26_M nx37 nx64 Q E τ H) : vc Pr zqy1_p14 τ (zqy1_q8 nx37 nx64 Q E) E H :=
  (conv (B := vc Pr zqy1_p14 τ (zqy1_q8 nx37 nx64 Q E) E H) (by kernel_rfl) (vc_seq (K := (zqy1_21_M nx37 nx64 Q E)) (zqy1_27ok nx37 nx64 Q E τ H h) (zqy1_25ok nx37 nx64 Q E)))

def zqy1_29 (nx37 : Int → HP) (Q : QT) (E : ET) (x0 : OA) (l0 : Nat) (c0 : Nat) (x3 : OA) (l3 : Nat) (c3 : Nat) (x4 : Int) (x5 : Int) (H : Heap) : Prop :=
 ∃ (I : Int → HP) (μ : Int → Heap → Nat), I x5 H ∧ ∀ (x5 : Int) (H : Heap), I x5 H →
 zqy1_26 nx37 (fun x5' H1 => I x5' H1 ∧ μ x5' H1 < μ x5 H) Q E x0 l0 c0 x3 l3 c3 x4 x5 H

def zqy1_29_M (nx37 : Int → HP) (Q : QT) (E : ET) (τ : Tau) (H : Heap) : Prop := mSl (τ 0) fun x0 l0 c0 => mSl (τ 3) fun x3 l3 c3 => mI .i64 (τ 4) fun x4 => mI .i64 (τ 5) fun x5 => zqy1_29 nx37 Q E x0 l0 c0 x3 l3 c3 x4 x5 H

theorem zqy1_30ok (nx37 : Int → HP) (Q : QT) (E : ET) (τ : Tau) (H : Heap) (h : zqy1_29_M nx37 Q E τ H) : vc Pr zqy1_p13 τ (zqy1_q7 nx37 Q E) E H :=
  vSl (i := 0) h (fun x0 l0 c0 h => vSl (i := 3) h (fun x3 l3 c3 h => vI (i := 4) h (fun x4 h => vI (i := 5) h (fun x5 h => match h with | ⟨I, μ, h0, hr⟩ => (conv (B := vc Pr zqy1_p13 (Tau.upd (Tau.upd (Tau.upd (Tau.upd τ 0 (.slice x0 l0 c0)) 3 (.slice x3 l3 c3)) 4 (.int .i64 x4)) 5 (.int .i64 x5)) (zqy1_q7 nx37 Q E) E H) (by kernel_rfl) (vc_loop (c := sI zqy1_p13) (τ := (Tau.upd (Tau.upd (Tau.upd (Tau.upd τ 0 (.slice x0 l0 c0)) 3 (.slice x3 l3 c3)) 4 (.int .i64 x4)) 5 (.int .i64 x5))) [0, 3, 4] (fun τ H => mI .i64 (τ 5) fun x5' => I x5' H) (fun τ H => μ (gI (τ 5)) H) (by kernel_rfl) h0 (fun τ1 H1 hf hI => fix_elim (τ := τ1) (i := 0) (v := (.slice x0 l0 c0)) (G := fun τ => vc Pr (sI zqy1_p13) τ (xthen (fun τ2 H2 => (mI .i64 (τ2 5) fun x5' => I x5' H2) ∧ μ (gI (τ2 5)) H2 < μ (gI (τ 5)) H1) (zqy1_q7 nx37 Q E)) E H1) (hf 0 (by simp)) (fix_elim (τ := (Tau.upd τ1 0 (.slice x0 l0 c0))) (i := 3) (v := (.slice x3 l3 c3)) (G := fun τ => vc Pr (sI zqy1_p13) τ (xthen (fun τ2 H2 => (mI .i64 (τ2 5) fun x5' => I x5' H2) ∧ μ (gI (τ2 5)) H2 < μ (gI (τ 5)) H1) (zqy1_q7 nx37 Q E)) E H1) (hf 3 (by simp)) (fix_elim (τ := (Tau.upd (Tau.upd τ1 0 (.slice x0 l0 c0)) 3 (.slice x3 l3 c3))) (i := 4) (v := (.int .i64 x4)) (G := fun τ => vc Pr (sI zqy1_p13) τ (xthen (fun τ2 H2 => (mI .i64 (τ2 5) fun x5' => I x5' H2) ∧ μ (gI (τ2 5)) H2 < μ (gI (τ 5)) H1) (zqy1_q7 nx37 Q E)) E H1) (hf 4 (by simp)) (mI_elim (i := 5) (G := fun τ => vc Pr (sI zqy1_p13) τ (xthen (fun τ2 H2 => (mI .i64 (τ2 5) fun x5' => I x5' H2) ∧ μ (gI (τ2 5)) H2 < μ (gI (τ 5)) H1) (zqy1_q7 nx37 Q E)) E H1) hI (fun x5r h => (conv (B := vc Pr (sI zqy1_p13) (Tau.upd (Tau.upd (Tau.upd (Tau.upd τ1 0 (.slice x0 l0 c0)) 3 (.slice x3 l3 c3)) 4 (.int .i64 x4)) 5 (.int .i64 x5r)) (xthen (fun τ2 H2 => (mI .i64 (τ2 5) fun x5' => I x5' H2) ∧ μ (gI (τ2 5)) H2 < μ (gI ((Tau.upd (Tau.upd (Tau.upd (Tau.upd τ1 0 (.slice x0 l0 c0)) 3 (.slice x3 l3 c3)) 4 (.int .i64 x4)) 5 (.int .i64 x5r)) 5)) H1) (zqy1_q7 nx37 Q E)) E H1) (by kernel_rfl) (vc_xthen (zqy1_28ok nx37 (fun x5' H2 => I x5' H2 ∧ μ x5' H2 < μ x5r H1) Q E (Tau.upd (Tau.upd (Tau.upd (Tau.upd τ1 0 (.slice x0 l0 c0)) 3 (.slice x3 l3 c3)) 4 (.int .i64 x4)) 5 (.int .i64 x5r)) H1 (conv (B := zqy1_26_M nx37 (fun x5' H2 => I x5' H2 ∧ μ x5' H2 < μ x5r H1) Q E (Tau.upd (Tau.upd (Tau.upd (Tau.upd τ1 0 (.slice x0 l0 c0)) 3 (.slice x3 l3 c3)) 4 (.int .i64 x4)) 5 (.int .i64 x5r)) H1) (by kernel_rfl) (hr x5r H1 h))) (fun τ2 H2 hk => mI_elim (i := 5) (G := fun τ => (mI .i64 (τ 5) fun x5' => I x5' H2) ∧ μ (gI (τ 5)) H2 < μ x5r H1) hk (fun x5' h => h)))))))))))))))

theorem zqy1_31ok (nx37 : Int → HP) (Q : QT) (E : ET) (τ : Tau) (H : Heap) (h : zqy1_29_M nx37 Q E τ H) : vc Pr zqy1_p12 τ (zqy1_q6 nx37 Q E) E H :=
  (conv (B := vc Pr zqy1_p12 τ (zqy1_q6 nx37 Q E) E H) (by kernel_rfl) (zqy1_30ok nx37 Q E τ H h))

@[reducible] noncomputable def zqy1_q18 (nx37 : Int → HP) (Q : QT) (E : ET) : Exit → Tau → Heap → Prop := (xthen (zqy1_29_M nx37 Q E) (zqy1_q6 nx37 Q E))

@[reducible] noncomputable def zqy1_p30 : Code := sA zqy1_p11

def zqy1_32 (nx37 : Int → HP) (Q : QT) (E : ET) (x0 : OA) (l0 : Nat) (c0 : Nat) (x3 : OA) (l3 : Nat) (c3 : Nat) (x4 : Int) (H : Heap) : Prop :=
 zqy1_29 nx37 Q E x0 l0 c0 x3 l3 c3 x4 0 H

def zqy1_32_M (nx37 : Int → HP) (Q : QT) (E : ET) (τ : Tau) (H : Heap) : Prop := mSl (τ 0) fun x0 l0 c0 => mSl (τ 3) fun x3 l3 c3 => mI .i64 (τ 4) fun x4 => zqy1_32 nx37 Q E x0 l0 c0 x3 l3 c3 x4 H

theorem zqy1_33ok (nx37 : Int → HP) (Q : QT) (E : ET) (τ : Tau) (H : Heap) (h : zqy1_32_M nx37 Q E τ H) : vc Pr zqy1_p30 τ (zqy1_q18 nx37 Q E) E H :=
  vSl (i := 0) h (fun x0 l0 c0 h => vSl (i := 3) h (fun x3 l3 c3 h => vI (i := 4) h (fun x4 h => (conv (by kernel_rfl) h))))

theorem zqy1_34ok (nx37 : Int → HP) (Q : QT) (E : ET) (τ : Tau) (H : Heap) (h : zqy1_32_M nx37 Q E τ H) : vc Pr zqy1_p11 τ (zqy1_q6 nx37 Q E) E H :=
  (conv (B := vc Pr zqy1_p11 τ (zqy1_q6 nx37 Q E) E H) (by kernel_rfl) (vc_seq (K := (zqy1_29_M nx37 Q E)) (zqy1_33ok nx37 Q E τ H h) (zqy1_31ok nx37 Q E)))

theorem zqy1_35ok (nx37 : Int → HP) (Q : QT) (E : ET) (τ : Tau) (H : Heap) (h : zqy1_32_M nx37 Q E τ H) : vc Pr zqy1_p10 τ (zqy1_q5 nx37 Q E) E H :=
  (conv (B := vc Pr zqy1_p10 τ (zqy1_q5 nx37 Q E) E H) (by kernel_rfl) (zqy1_34ok nx37 Q E τ H h))

theorem zqy1_36ok (nx37 : Int → HP) (Q : QT) (E : ET) (τ : Tau) (H : Heap) (h : zqy1_32_M nx37 Q E τ H) : vc Pr zqy1_p8 τ (zqy1_q4 nx37 Q E) E H :=
  (conv (B := vc Pr zqy1_p8 τ (zqy1_q4 nx37 Q E) E H) (by kernel_rfl) (vc_seq (K := (zqy1_3_M nx37 Q E)) (zqy1_35ok nx37 Q E τ H h) (zqy1_4ok nx37 Q E)))

@[reducible] noncomputable def zqy1_q19 (nx37 : Int → HP) (Q : QT) (E : ET) : Exit → Tau → Heap → Prop := (xthen (zqy1_32_M nx37 Q E) (zqy1_q4 nx37 Q E))

@[reducible] noncomputable def zqy1_p31 : Code := sA zqy1_p7

def zqy1_37 (nx37 : Int → HP) (Q : QT) (E : ET) (x0 : OA) (l0 : Nat) (c0 : Nat) (x3 : OA) (l3 : Nat) (c3 : Nat) (x4 : Int) (H : Heap) : Prop :=
 sel (decide ((x4 : Int) < ((l0 : Nat) : Int)))
 (zqy1_32 nx37 Q E x0 l0 c0 x3 l3 c3 x4 H)
 (zqy1_1 Q E x3 l3 c3 H)

def zqy1_37_M (nx37 : Int → HP) (Q : QT) (E : ET) (τ : Tau) (H : Heap) : Prop := mSl (τ 0) fun x0 l0 c0 => mSl (τ 3) fun x3 l3 c3 => mI .i64 (τ 4) fun x4 => zqy1_37 nx37 Q E x0 l0 c0 x3 l3 c3 x4 H

theorem zqy1_38ok (nx37 : Int → HP) (Q : QT) (E : ET) (τ : Tau) (H : Heap) (h : zqy1_37_M nx37 Q E τ H) : vc Pr zqy1_p31 τ (zqy1_q19 nx37 Q E) E H :=
  vSl (i := 0) h (fun x0 l0 c0 h => vSl (i := 3) h (fun x3 l3 c3 h => vI (i := 4) h (fun x4 h => (conv (by kernel_rfl) h))))

theorem zqy1_39ok (nx37 : Int → HP) (Q : QT) (E : ET) (τ : Tau) (H : Heap) (h : zqy1_37_M nx37 Q E τ H) : vc Pr zqy1_p7 τ (zqy1_q4 nx37 Q E) E H :=
  (conv (B := vc Pr zqy1_p7 τ (zqy1_q4 nx37 Q E) E H) (by kernel_rfl) (vc_seq (K := (zqy1_32_M nx37 Q E)) (zqy1_38ok nx37 Q E τ H h) (zqy1_36ok nx37 Q E)))

def zqy1_40 (Q : QT) (E : ET) (x0 : OA) (l0 : Nat) (c0 : Nat) (x3 : OA) (l3 : Nat) (c3 : Nat) (x4 : Int) (H : Heap) : Prop :=
 ∃ (I : Int → HP) (μ : Int → Heap → Nat), I x4 H ∧ ∀ (x4 : Int) (H : Heap), I x4 H →
 zqy1_37 (fun x4' H1 => I x4' H1 ∧ μ x4' H1 < μ x4 H) Q E x0 l0 c0 x3 l3 c3 x4 H

def zqy1_40_M (Q : QT) (E : ET) (τ : Tau) (H : Heap) : Prop := mSl (τ 0) fun x0 l0 c0 => mSl (τ 3) fun x3 l3 c3 => mI .i64 (τ 4) fun x4 => zqy1_40 Q E x0 l0 c0 x3 l3 c3 x4 H

theorem zqy1_41ok (Q : QT) (E : ET) (τ : Tau) (H : Heap) (h : zqy1_40_M Q E τ H) : vc Pr zqy1_p6 τ (zqy1_q3 Q E) E H :=
  vSl (i := 0) h (fun x0 l0 c0 h => vSl (i := 3) h (fun x3 l3 c3 h => vI (i := 4) h (fun x4 h => match h with | ⟨I, μ, h0, hr⟩ => (conv (B := vc Pr zqy1_p6 (Tau.upd (Tau.upd (Tau.upd τ 0 (.slice x0 l0 c0)) 3 (.slice x3 l3 c3)) 4 (.int .i64 x4)) (zqy1_q3 Q E) E H) (by kernel_rfl) (vc_loop (c := sI zqy1_p6) (τ := (Tau.upd (Tau.upd (Tau.upd τ 0 (.slice x0 l0 c0)) 3 (.slice x3 l3 c3)) 4 (.int .i64 x4))) [0, 3] (fun τ H => mI .i64 (τ 4) fun x4' => I x4' H) (fun τ H => μ (gI (τ 4)) H) (by kernel_rfl) h0 (fun τ1 H1 hf hI => fix_elim (τ := τ1) (i := 0) (v := (.slice x0 l0 c0)) (G := fun τ => vc Pr (sI zqy1_p6) τ (xthen (fun τ2 H2 => (mI .i64 (τ2 4) fun x4' => I x4' H2) ∧ μ (gI (τ2 4)) H2 < μ (gI (τ 4)) H1) (zqy1_q3 Q E)) E H1) (hf 0 (by simp)) (fix_elim (τ := (Tau.upd τ1 0 (.slice x0 l0 c0))) (i := 3) (v := (.slice x3 l3 c3)) (G := fun τ => vc Pr (sI zqy1_p6) τ (xthen (fun τ2 H2 => (mI .i64 (τ2 4) fun x4' => I x4' H2) ∧ μ (gI (τ2 4)) H2 < μ (gI (τ 4)) H1) (zqy1_q3 Q E)) E H1) (hf 3 (by simp)) (mI_elim (i := 4) (G := fun τ => vc Pr (sI zqy1_p6) τ (xthen (fun τ2 H2 => (mI .i64 (τ2 4) fun x4' => I x4' H2) ∧ μ (gI (τ2 4)) H2 < μ (gI (τ 4)) H1) (zqy1_q3 Q E)) E H1) hI (fun x4r h => (conv (B := vc Pr (sI zqy1_p6) (Tau.upd (Tau.upd (Tau.upd τ1 0 (.slice x0 l0 c0)) 3 (.slice x3 l3 c3)) 4 (.int .i64 x4r)) (xthen (fun τ2 H2 => (mI .i64 (τ2 4) fun x4' => I x4' H2) ∧ μ (gI (τ2 4)) H2 < μ (gI ((Tau.upd (Tau.upd (Tau.upd τ1 0 (.slice x0 l0 c0)) 3 (.slice x3 l3 c3)) 4 (.int .i64 x4r)) 4)) H1) (zqy1_q3 Q E)) E H1) (by kernel_rfl) (vc_xthen (zqy1_39ok (fun x4' H2 => I x4' H2 ∧ μ x4' H2 < μ x4r H1) Q E (Tau.upd (Tau.upd (Tau.upd τ1 0 (.slice x0 l0 c0)) 3 (.slice x3 l3 c3)) 4 (.int .i64 x4r)) H1 (conv (B := zqy1_37_M (fun x4' H2 => I x4' H2 ∧ μ x4' H2 < μ x4r H1) Q E (Tau.upd (Tau.upd (Tau.upd τ1 0 (.slice x0 l0 c0)) 3 (.slice x3 l3 c3)) 4 (.int .i64 x4r)) H1) (by kernel_rfl) (hr x4r H1 h))) (fun τ2 H2 hk => mI_elim (i := 4) (G := fun τ => (mI .i64 (τ 4) fun x4' => I x4' H2) ∧ μ (gI (τ 4)) H2 < μ x4r H1) hk (fun x4' h => h)))))))))))))

theorem zqy1_42ok (Q : QT) (E : ET) (τ : Tau) (H : Heap) (h : zqy1_40_M Q E τ H) : vc Pr zqy1_p5 τ (zqy1_q2 Q E) E H :=
  (conv (B := vc Pr zqy1_p5 τ (zqy1_q2 Q E) E H) (by kernel_rfl) (zqy1_41ok Q E τ H h))

@[reducible] noncomputable def zqy1_q20 (Q : QT) (E : ET) : Exit → Tau → Heap → Prop := (xthen (zqy1_40_M Q E) (zqy1_q2 Q E))

@[reducible] noncomputable def zqy1_p32 : Code := sA zqy1_p4

def zqy1_43 (Q : QT) (E : ET) (x0 : OA) (l0 : Nat) (c0 : Nat) (x3 : OA) (l3 : Nat) (c3 : Nat) (H : Heap) : Prop :=
 zqy1_40 Q E x0 l0 c0 x3 l3 c3 0 H

def zqy1_43_M (Q : QT) (E : ET) (τ : Tau) (H : Heap) : Prop := mSl (τ 0) fun x0 l0 c0 => mSl (τ 3) fun x3 l3 c3 => zqy1_43 Q E x0 l0 c0 x3 l3 c3 H

theorem zqy1_44ok (Q : QT) (E : ET) (τ : Tau) (H : Heap) (h : zqy1_43_M Q E τ H) : vc Pr zqy1_p32 τ (zqy1_q20 Q E) E H :=
  vSl (i := 0) h (fun x0 l0 c0 h => vSl (i := 3) h (fun x3 l3 c3 h => (conv (by kernel_rfl) h)))

theorem zqy1_45ok (Q : QT) (E : ET) (τ : Tau) (H : Heap) (h : zqy1_43_M Q E τ H) : vc Pr zqy1_p4 τ (zqy1_q2 Q E) E H :=
  (conv (B := vc Pr zqy1_p4 τ (zqy1_q2 Q E) E H) (by kernel_rfl) (vc_seq (K := (zqy1_40_M Q E)) (zqy1_44ok Q E τ H h) (zqy1_42ok Q E)))

theorem zqy1_46ok (Q : QT) (E : ET) (τ : Tau) (H : Heap) (h : zqy1_43_M Q E τ H) : vc Pr zqy1_p2 τ (zqy1_q1 Q E) E H :=
  (conv (B := vc Pr zqy1_p2 τ (zqy1_q1 Q E) E H) (by kernel_rfl) (vc_seq (K := (zqy1_1_M Q E)) (zqy1_45ok Q E τ H h) (zqy1_2ok Q E)))

@[reducible] noncomputable def zqy1_q21 (Q : QT) (E : ET) : Exit → Tau → Heap → Prop := (xthen (zqy1_43_M Q E) (zqy1_q1 Q E))

@[reducible] noncomputable def zqy1_p33 : Code := sA zqy1_p1

def zqy1_47 (Q : QT) (E : ET) (x0 : OA) (l0 : Nat) (c0 : Nat) (H : Heap) : Prop :=
 Does Pr 87 #[(.int .i64 ((l0 : Nat) : Int))] H (fun v150 H151 =>
 ∃ (p152 : OA) (l153 c154 : Nat), v150 = (.slice p152 l153 c154) ∧ Does Pr 85 #[(.slice p152 l153 c154), (.slice x0 l0 c0)] H151 (fun v155 H156 =>
 ∃ (p157 : OA) (l158 c159 : Nat), v155 = (.slice p157 l158 c159) ∧ zqy1_43 Q E x0 l0 c0 p157 l158 c159 H156) E) E

def zqy1_47_M (Q : QT) (E : ET) (τ : Tau) (H : Heap) : Prop := mSl (τ 0) fun x0 l0 c0 => zqy1_47 Q E x0 l0 c0 H

theorem zqy1_48ok (Q : QT) (E : ET) (τ : Tau) (H : Heap) (h : zqy1_47_M Q E τ H) : vc Pr zqy1_p33 τ (zqy1_q21 Q E) E H :=
  vSl (i := 0) h (fun x0 l0 c0 h => (conv (by kernel_rfl) h))

theorem zqy1_49ok (Q : QT) (E : ET) (τ : Tau) (H : Heap) (h : zqy1_47_M Q E τ H) : vc Pr zqy1_p1 τ (zqy1_q1 Q E) E H :=
  (conv (B := vc Pr zqy1_p1 τ (zqy1_q1 Q E) E H) (by kernel_rfl) (vc_seq (K := (zqy1_43_M Q E)) (zqy1_48ok Q E τ H h) (zqy1_46ok Q E)))

@[reducible] noncomputable def zqy1_q22 (Q : QT) (E : ET) : Exit → Tau → Heap → Prop := (xthen (zqy1_47_M Q E) (zqy1_q1 Q E))

@[reducible] noncomputable def zqy1_p34 : Code := sA zqy1_p0

def zqy1 (Q : QT) (E : ET) (a0 : OA) (a0l : Nat) (a0c : Nat) (H : Heap) : Prop :=
 zqy1_47 Q E a0 a0l a0c H

theorem zqy1_fn (a0 : OA) (a0l : Nat) (a0c : Nat) (Q : QT) (E : ET) (H : Heap) (h : zqy1 Q E a0 a0l a0c H)   : Does Pr 86 #[(.slice a0 a0l a0c)] H Q E :=
  Fn_of_vc (fn := Try.f86) (c := zqy1_p0) (args := [(.slice a0 a0l a0c)]) mixed (by kernel_rfl) (by kernel_rfl) (by kernel_rfl) (by kernel_rfl) (by kernel_rfl) ((conv (B := vc Pr zqy1_p0 (argT [(.slice a0 a0l a0c)]) (zqy1_q1 Q E) E H) (by kernel_rfl) (vc_seq (K := (zqy1_47_M Q E)) (conv (B := vc Pr zqy1_p34 (argT [(.slice a0 a0l a0c)]) (zqy1_q22 Q E) E H) (by kernel_rfl) h) (zqy1_49ok Q E))))

/-! jobmux/jobmuxref09.stay -/
@[reducible] noncomputable def zqz1_q1 (Q : QT) (E : ET) : Exit → Tau → Heap → Prop := (retQ Pr (Try.f87).results.toList Q)

@[reducible] noncomputable def zqz1_p0 : Code := bodyOf Try.f87

@[reducible] noncomputable def zqz1_p1 : Code := sB zqz1_p0

@[reducible] noncomputable def zqz1_p2 : Code := sB zqz1_p1

@[reducible] noncomputable def zqz1_p3 : Code := sB zqz1_p2

def zqz1_1 (Q : QT) (E : ET) (x3 : OA) (l3 : Nat) (c3 : Nat) (H : Heap) : Prop :=
 Q (.slice x3 l3 c3) H

def zqz1_1_M (Q : QT) (E : ET) (τ : Tau) (H : Heap) : Prop := mSl (τ 3) fun x3 l3 c3 => zqz1_1 Q E x3 l3 c3 H

theorem zqz1_2ok (Q : QT) (E : ET) (τ : Tau) (H : Heap) (h : zqz1_1_M Q E τ H) : vc Pr zqz1_p3 τ (zqz1_q1 Q E) E H :=
  vSl (i := 3) h (fun x3 l3 c3 h => (conv (by kernel_rfl) h))

@[reducible] noncomputable def zqz1_q2 (Q : QT) (E : ET) : Exit → Tau → Heap → Prop := (xthen (zqz1_1_M Q E) (zqz1_q1 Q E))

@[reducible] noncomputable def zqz1_p4 : Code := sA zqz1_p2

@[reducible] noncomputable def zqz1_p5 : Code := sB zqz1_p4

@[reducible] noncomputable def zqz1_q3 (Q : QT) (E : ET) : Exit → Tau → Heap → Prop := (xblock 0 (zqz1_q2 Q E))

@[reducible] noncomputable def zqz1_p6 : Code := sI zqz1_p5

@[reducible] noncomputable def zqz1_q4 (nx12 : Int → HP) (Q : QT) (E : ET) : Exit → Tau → Heap → Prop := (xthen (fun τ H => mI .i64 (τ 4) fun x4' => nx12 x4' H) (zqz1_q3 Q E))

@[reducible] noncomputable def zqz1_p7 : Code := sI zqz1_p6

@[reducible] noncomputable def zqz1_p8 : Code := sB zqz1_p7

def zqz1_3 (nx12 : Int → HP) (Q : QT) (E : ET) (x0 : Int) (x3 : OA) (l3 : Nat) (c3 : Nat) (x4 : Int) (H : Heap) : Prop :=
 (0 ≤ (x4 : Int) ∧ (x4 : Int) < ((l3 : Nat) : Int)) ∧ ptr x3 fun q13 =>
 ldSl (Addr.add q13 ((x4 : Int).toNat * 1)) H fun p14 l15 c16 =>
 (0 ≤ (x4 : Int) ∧ (x4 : Int) < ((l15 : Nat) : Int)) ∧ ptr p14 fun q17 =>
 wr (Addr.add q17 ((x4 : Int).toNat * 1)) [(.bool true)] H fun H18 =>
 nx12 (IntKind.wrap .i64 (x4 + 1)) H18

def zqz1_3_M (nx12 : Int → HP) (Q : QT) (E : ET) (τ : Tau) (H : Heap) : Prop := mI .i64 (τ 0) fun x0 => mSl (τ 3) fun x3 l3 c3 => mI .i64 (τ 4) fun x4 => zqz1_3 nx12 Q E x0 x3 l3 c3 x4 H

theorem zqz1_4ok (nx12 : Int → HP) (Q : QT) (E : ET) (τ : Tau) (H : Heap) (h : zqz1_3_M nx12 Q E τ H) : vc Pr zqz1_p8 τ (zqz1_q4 nx12 Q E) E H :=
  vI (i := 0) h (fun x0 h => vSl (i := 3) h (fun x3 l3 c3 h => vI (i := 4) h (fun x4 h => (conv (by kernel_rfl) h))))

@[reducible] noncomputable def zqz1_q5 (nx12 : Int → HP) (Q : QT) (E : ET) : Exit → Tau → Heap → Prop := (xthen (zqz1_3_M nx12 Q E) (zqz1_q4 nx12 Q E))

@[reducible] noncomputable def zqz1_p9 : Code := sA zqz1_p7

def zqz1_5 (nx12 : Int → HP) (Q : QT) (E : ET) (x0 : Int) (x3 : OA) (l3 : Nat) (c3 : Nat) (x4 : Int) (H : Heap) : Prop :=
 sel (decide ((x4 : Int) < x0))
 (zqz1_3 nx12 Q E x0 x3 l3 c3 x4 H)
 (zqz1_1 Q E x3 l3 c3 H)

def zqz1_5_M (nx12 : Int → HP) (Q : QT) (E : ET) (τ : Tau) (H : Heap) : Prop := mI .i64 (τ 0) fun x0 => mSl (τ 3) fun x3 l3 c3 => mI .i64 (τ 4) fun x4 => zqz1_5 nx12 Q E x0 x3 l3 c3 x4 H

theorem zqz1_6ok (nx12 : Int → HP) (Q : QT) (E : ET) (τ : Tau) (H : Heap) (h : zqz1_5_M nx12 Q E τ H) : vc Pr zqz1_p9 τ (zqz1_q5 nx12 Q E) E H :=
  vI (i := 0) h (fun x0 h => vSl (i := 3) h (fun x3 l3 c3 h => vI (i := 4) h (fun x4 h => (conv (by kernel_rfl) h))))

theorem zqz1_7ok (nx12 : Int → HP) (Q : QT) (E : ET) (τ : Tau) (H : Heap) (h : zqz1_5_M nx12 Q E τ H) : vc Pr zqz1_p7 τ (zqz1_q4 nx12 Q E) E H :=
  (conv (B := vc Pr zqz1_p7 τ (zqz1_q4 nx12 Q E) E H) (by kernel_rfl) (vc_seq (K := (zqz1_3_M nx12 Q E)) (zqz1_6ok nx12 Q E τ H h) (zqz1_4ok nx12 Q E)))

def zqz1_8 (Q : QT) (E : ET) (x0 : Int) (x3 : OA) (l3 : Nat) (c3 : Nat) (x4 : Int) (H : Heap) : Prop :=
 ∃ (I : Int → HP) (μ : Int → Heap → Nat), I x4 H ∧ ∀ (x4 : Int) (H : Heap), I x4 H →
 zqz1_5 (fun x4' H1 => I x4' H1 ∧ μ x4' H1 < μ x4 H) Q E x0 x3 l3 c3 x4 H

def zqz1_8_M (Q : QT) (E : ET) (τ : Tau) (H : Heap) : Prop := mI .i64 (τ 0) fun x0 => mSl (τ 3) fun x3 l3 c3 => mI .i64 (τ 4) fun x4 => zqz1_8 Q E x0 x3 l3 c3 x4 H

theorem zqz1_9ok (Q : QT) (E : ET) (τ : Tau) (H : Heap) (h : zqz1_8_M Q E τ H) : vc Pr zqz1_p6 τ (zqz1_q3 Q E) E H :=
  vI (i := 0) h (fun x0 h => vSl (i := 3) h (fun x3 l3 c3 h => vI (i := 4) h (fun x4 h => match h with | ⟨I, μ, h0, hr⟩ => (conv (B := vc Pr zqz1_p6 (Tau.upd (Tau.upd (Tau.upd τ 0 (.int .i64 x0)) 3 (.slice x3 l3 c3)) 4 (.int .i64 x4)) (zqz1_q3 Q E) E H) (by kernel_rfl) (vc_loop (c := sI zqz1_p6) (τ := (Tau.upd (Tau.upd (Tau.upd τ 0 (.int .i64 x0)) 3 (.slice x3 l3 c3)) 4 (.int .i64 x4))) [0, 3] (fun τ H => mI .i64 (τ 4) fun x4' => I x4' H) (fun τ H => μ (gI (τ 4)) H) (by kernel_rfl) h0 (fun τ1 H1 hf hI => fix_elim (τ := τ1) (i := 0) (v := (.int .i64 x0)) (G := fun τ => vc Pr (sI zqz1_p6) τ (xthen (fun τ2 H2 => (mI .i64 (τ2 4) fun x4' => I x4' H2) ∧ μ (gI (τ2 4)) H2 < μ (gI (τ 4)) H1) (zqz1_q3 Q E)) E H1) (hf 0 (by simp)) (fix_elim (τ := (Tau.upd τ1 0 (.int .i64 x0))) (i := 3) (v := (.slice x3 l3 c3)) (G := fun τ => vc Pr (sI zqz1_p6) τ (xthen (fun τ2 H2 => (mI .i64 (τ2 4) fun x4' => I x4' H2) ∧ μ (gI (τ2 4)) H2 < μ (gI (τ 4)) H1) (zqz1_q3 Q E)) E H1) (hf 3 (by simp)) (mI_elim (i := 4) (G := fun τ => vc Pr (sI zqz1_p6) τ (xthen (fun τ2 H2 => (mI .i64 (τ2 4) fun x4' => I x4' H2) ∧ μ (gI (τ2 4)) H2 < μ (gI (τ 4)) H1) (zqz1_q3 Q E)) E H1) hI (fun x4r h => (conv (B := vc Pr (sI zqz1_p6) (Tau.upd (Tau.upd (Tau.upd τ1 0 (.int .i64 x0)) 3 (.slice x3 l3 c3)) 4 (.int .i64 x4r)) (xthen (fun τ2 H2 => (mI .i64 (τ2 4) fun x4' => I x4' H2) ∧ μ (gI (τ2 4)) H2 < μ (gI ((Tau.upd (Tau.upd (Tau.upd τ1 0 (.int .i64 x0)) 3 (.slice x3 l3 c3)) 4 (.int .i64 x4r)) 4)) H1) (zqz1_q3 Q E)) E H1) (by kernel_rfl) (vc_xthen (zqz1_7ok (fun x4' H2 => I x4' H2 ∧ μ x4' H2 < μ x4r H1) Q E (Tau.upd (Tau.upd (Tau.upd τ1 0 (.int .i64 x0)) 3 (.slice x3 l3 c3)) 4 (.int .i64 x4r)) H1 (conv (B := zqz1_5_M (fun x4' H2 => I x4' H2 ∧ μ x4' H2 < μ x4r H1) Q E (Tau.upd (Tau.upd (Tau.upd τ1 0 (.int .i64 x0)) 3 (.slice x3 l3 c3)) 4 (.int .i64 x4r)) H1) (by kernel_rfl) (hr x4r H1 h))) (fun τ2 H2 hk => mI_elim (i := 4) (G := fun τ => (mI .i64 (τ 4) fun x4' => I x4' H2) ∧ μ (gI (τ 4)) H2 < μ x4r H1) hk (fun x4' h => h)))))))))))))

theorem zqz1_10ok (Q : QT) (E : ET) (τ : Tau) (H : Heap) (h : zqz1_8_M Q E τ H) : vc Pr zqz1_p5 τ (zqz1_q2 Q E) E H :=
  (conv (B := vc Pr zqz1_p5 τ (zqz1_q2 Q E) E H) (by kernel_rfl) (zqz1_9ok Q E τ H h))

@[reducible] noncomputable def zqz1_q6 (Q : QT) (E : ET) : Exit → Tau → Heap → Prop := (xthen (zqz1_8_M Q E) (zqz1_q2 Q E))

@[reducible] noncomputable def zqz1_p10 : Code := sA zqz1_p4

def zqz1_11 (Q : QT) (E : ET) (x0 : Int) (x3 : OA) (l3 : Nat) (c3 : Nat) (H : Heap) : Prop :=
 zqz1_8 Q E x0 x3 l3 c3 0 H

def zqz1_11_M (Q : QT) (E : ET) (τ : Tau) (H : Heap) : Prop := mI .i64 (τ 0) fun x0 => mSl (τ 3) fun x3 l3 c3 => zqz1_11 Q E x0 x3 l3 c3 H

theorem zqz1_12ok (Q : QT) (E : ET) (τ : Tau) (H : Heap) (h : zqz1_11_M Q E τ H) : vc Pr zqz1_p10 τ (zqz1_q6 Q E) E H :=
  vI (i := 0) h (fun x0 h => vSl (i := 3) h (fun x3 l3 c3 h => (conv (by kernel_rfl) h)))

theorem zqz1_13ok (Q : QT) (E : ET) (τ : Tau) (H : Heap) (h : zqz1_11_M Q E τ H) : vc Pr zqz1_p4 τ (zqz1_q2 Q E) E H :=
  (conv (B := vc Pr zqz1_p4 τ (zqz1_q2 Q E) E H) (by kernel_rfl) (vc_seq (K := (zqz1_8_M Q E)) (zqz1_12ok Q E τ H h) (zqz1_10ok Q E)))

theorem zqz1_14ok (Q : QT) (E : ET) (τ : Tau) (H : Heap) (h : zqz1_11_M Q E τ H) : vc Pr zqz1_p2 τ (zqz1_q1 Q E) E H :=
  (conv (B := vc Pr zqz1_p2 τ (zqz1_q1 Q E) E H) (by kernel_rfl) (vc_seq (K := (zqz1_1_M Q E)) (zqz1_13ok Q E τ H h) (zqz1_2ok Q E)))

@[reducible] noncomputable def zqz1_q7 (Q : QT) (E : ET) : Exit → Tau → Heap → Prop := (xthen (zqz1_11_M Q E) (zqz1_q1 Q E))

@[reducible] noncomputable def zqz1_p11 : Code := sA zqz1_p1

def zqz1_15 (Q : QT) (E : ET) (x0 : Int) (H : Heap) : Prop :=
 Does Pr 99 #[(.int .i64 x0)] H (fun v19 H20 =>
 ∃ (p21 : OA) (l22 c23 : Nat), v19 = (.slice p21 l22 c23) ∧ zqz1_11 Q E x0 p21 l22 c23 H20) E

def zqz1_15_M (Q : QT) (E : ET) (τ : Tau) (H : Heap) : Prop := mI .i64 (τ 0) fun x0 => zqz1_15 Q E x0 H

theorem zqz1_16ok (Q : QT) (E : ET) (τ : Tau) (H : Heap) (h : zqz1_15_M Q E τ H) : vc Pr zqz1_p11 τ (zqz1_q7 Q E) E H :=
  vI (i := 0) h (fun x0 h => (conv (by kernel_rfl) h))

theorem zqz1_17ok (Q : QT) (E : ET) (τ : Tau) (H : Heap) (h : zqz1_15_M Q E τ H) : vc Pr zqz1_p1 τ (zqz1_q1 Q E) E H :=
  (conv (B := vc Pr zqz1_p1 τ (zqz1_q1 Q E) E H) (by kernel_rfl) (vc_seq (K := (zqz1_11_M Q E)) (zqz1_16ok Q E τ H h) (zqz1_14ok Q E)))

@[reducible] noncomputable def zqz1_q8 (Q : QT) (E : ET) : Exit → Tau → Heap → Prop := (xthen (zqz1_15_M Q E) (zqz1_q1 Q E))

@[reducible] noncomputable def zqz1_p12 : Code := sA zqz1_p0

def zqz1 (Q : QT) (E : ET) (a0 : Int) (H : Heap) : Prop :=
 zqz1_15 Q E a0 H

theorem zqz1_fn (a0 : Int) (Q : QT) (E : ET) (H : Heap) (h : zqz1 Q E a0 H)   : Does Pr 87 #[(.int .i64 a0)] H Q E :=
  Fn_of_vc (fn := Try.f87) (c := zqz1_p0) (args := [(.int .i64 a0)]) mixed (by kernel_rfl) (by kernel_rfl) (by kernel_rfl) (by kernel_rfl) (by kernel_rfl) ((conv (B := vc Pr zqz1_p0 (argT [(.int .i64 a0)]) (zqz1_q1 Q E) E H) (by kernel_rfl) (vc_seq (K := (zqz1_15_M Q E)) (conv (B := vc Pr zqz1_p12 (argT [(.int .i64 a0)]) (zqz1_q8 Q E) E H) (by kernel_rfl) h) (zqz1_17ok Q E))))

end Go.Proofs.Ytaffcoiomggpfaa
