import Derived.Test.YtaffcoiomggpfaaVPr
/- Printed by gen.py: the Go functions of package r09 over a heap view, and that the model does so. -/
namespace Go.Proofs.Ytaffcoiomggpfaa
open Go.V
set_option linter.unusedVariables false
set_option maxRecDepth 100000
variable (Q : QT) (E : ET)
/-! jobmux/jobmuxref09.First -/
noncomputable def zqu_q1 (Q : QT) (E : ET) : XT := (retQ Pr (Try.f20).results.toList Q)

def zqu_1 (Q : QT) (E : ET)  (H : Heap) : Prop :=
 Q (.int .i64 (-1)) H

def zqu_1_M  (τ : Tau) (H : Heap) : Prop := zqu_1 Q E  H

theorem zqu_2ok  : Ok Pr (zqu_1_M Q E) (sB (sB (sB (bodyOf Try.f20)))) (zqu_q1 Q E) E := fun τ H h =>
  (conv (by kernel_rfl) h)

noncomputable def zqu_q2  : XT := (xthen (zqu_1_M Q E) (zqu_q1 Q E))

noncomputable def zqu_p4 : Code := sA (sB (sB (bodyOf Try.f20)))

noncomputable def zqu_q4 (nx12 : Int → HP) : XT := (xthen (fun τ H => mI .i64 (τ 5) fun x5' => nx12 x5' H) (xblock 0 (zqu_q2 Q E)))

noncomputable def zqu_p7 : Code := sI (sI (sB zqu_p4))

def zqu_3 (nx12 : Int → HP) (Q : QT) (E : ET) (x0 : OA) (l0 c0 : Nat) (x1 : OA) (l1 c1 : Nat) (x5 : Int) (H : Heap) : Prop :=
 nx12 (IntKind.wrap .i64 (x5 + 1)) H

def zqu_3_M (nx12 : Int → HP) (τ : Tau) (H : Heap) : Prop := mSl (τ 0) fun x0 l0 c0 => mSl (τ 1) fun x1 l1 c1 => mI .i64 (τ 5) fun x5 => zqu_3 nx12 Q E x0 l0 c0 x1 l1 c1 x5 H

theorem zqu_4ok (nx12 : Int → HP) : Ok Pr (zqu_3_M Q E nx12) (sB (sB zqu_p7)) (zqu_q4 Q E nx12) E := fun τ H h =>
  wSl 0 h (fun x0 l0 c0 h => wSl 1 h (fun x1 l1 c1 h => wI 5 h (fun x5 h => (conv (by kernel_rfl) h))))

noncomputable def zqu_q5 (nx12 : Int → HP) : XT := (xthen (zqu_3_M Q E nx12) (zqu_q4 Q E nx12))

def zqu_5 (nx12 : Int → HP) (Q : QT) (E : ET) (x0 : OA) (l0 c0 : Nat) (x1 : OA) (l1 c1 : Nat) (x5 : Int) (H : Heap) : Prop :=
 (0 ≤ x5 ∧ x5 ≤ (c1 : Int)) ∧ Does Pr 55 #[(.slice x0 l0 c0), (.slice (if c1 = 0 then x1 else Option.map (fun a => Addr.add a (0 * 1)) x1) (x5.toNat - 0) (c1 - 0))] H (fun v21 H22 =>
 ∃ (p23 : OA) (l24 c25 : Nat), v21 = (.slice p23 l24 c25) ∧ Does Pr 54 #[(.slice p23 l24 c25)] H22 (fun v26 H27 =>
 ∃ b28 : Bool, v26 = (.bool b28) ∧ sel b28
 (Q (.int .i64 x5) H27)
 (zqu_3 nx12 Q E x0 l0 c0 x1 l1 c1 x5 H27)) E) E

def zqu_5_M (nx12 : Int → HP) (τ : Tau) (H : Heap) : Prop := mSl (τ 0) fun x0 l0 c0 => mSl (τ 1) fun x1 l1 c1 => mI .i64 (τ 5) fun x5 => zqu_5 nx12 Q E x0 l0 c0 x1 l1 c1 x5 H

theorem zqu_6ok (nx12 : Int → HP) : Ok Pr (zqu_5_M Q E nx12) (sA (sB zqu_p7)) (zqu_q5 Q E nx12) E := fun τ H h =>
  wSl 0 h (fun x0 l0 c0 h => wSl 1 h (fun x1 l1 c1 h => wI 5 h (fun x5 h => (conv (by kernel_rfl) h))))

theorem zqu_7ok (nx12 : Int → HP) : Ok Pr (zqu_5_M Q E nx12) (sB zqu_p7) (zqu_q4 Q E nx12) E := fun τ H h =>
  (conv (by kernel_rfl) (vc_seq (K := (zqu_3_M Q E nx12)) (zqu_6ok Q E nx12 τ H h) (zqu_4ok Q E nx12)))

noncomputable def zqu_q6 (nx12 : Int → HP) : XT := (xthen (zqu_5_M Q E nx12) (zqu_q4 Q E nx12))

def zqu_8 (nx12 : Int → HP) (Q : QT) (E : ET) (x0 : OA) (l0 c0 : Nat) (x1 : OA) (l1 c1 : Nat) (x5 : Int) (H : Heap) : Prop :=
 sel (decide (x5 ≤ (l1 : Int)))
 (zqu_5 nx12 Q E x0 l0 c0 x1 l1 c1 x5 H)
 (zqu_1 Q E  H)

def zqu_8_M (nx12 : Int → HP) (τ : Tau) (H : Heap) : Prop := mSl (τ 0) fun x0 l0 c0 => mSl (τ 1) fun x1 l1 c1 => mI .i64 (τ 5) fun x5 => zqu_8 nx12 Q E x0 l0 c0 x1 l1 c1 x5 H

theorem zqu_9ok (nx12 : Int → HP) : Ok Pr (zqu_8_M Q E nx12) (sA zqu_p7) (zqu_q6 Q E nx12) E := fun τ H h =>
  wSl 0 h (fun x0 l0 c0 h => wSl 1 h (fun x1 l1 c1 h => wI 5 h (fun x5 h => (conv (by kernel_rfl) h))))

theorem zqu_10ok (nx12 : Int → HP) : Ok Pr (zqu_8_M Q E nx12) zqu_p7 (zqu_q4 Q E nx12) E := fun τ H h =>
  (conv (by kernel_rfl) (vc_seq (K := (zqu_5_M Q E nx12)) (zqu_9ok Q E nx12 τ H h) (zqu_7ok Q E nx12)))

def zqu_11 (Q : QT) (E : ET) (x0 : OA) (l0 c0 : Nat) (x1 : OA) (l1 c1 : Nat) (x5 : Int) (H : Heap) : Prop :=
 ∃ (I : Int → HP) (μ : Int → Heap → Nat), I x5 H ∧ ∀ (x5 : Int) (H : Heap), I x5 H →
 zqu_8 (fun x5' H1 => I x5' H1 ∧ μ x5' H1 < μ x5 H) Q E x0 l0 c0 x1 l1 c1 x5 H

def zqu_11_M  (τ : Tau) (H : Heap) : Prop := mSl (τ 0) fun x0 l0 c0 => mSl (τ 1) fun x1 l1 c1 => mI .i64 (τ 5) fun x5 => zqu_11 Q E x0 l0 c0 x1 l1 c1 x5 H

theorem zqu_12ok  : Ok Pr (zqu_11_M Q E) (sI (sB zqu_p4)) (xblock 0 (zqu_q2 Q E)) E := fun τ H h =>
  wSl 0 h (fun x0 l0 c0 h => wSl 1 h (fun x1 l1 c1 h => wI 5 h (fun x5 h => match h with | ⟨I, μ, h0, hr⟩ => (conv (by kernel_rfl) (vc_loopG (c := sI (sI (sB zqu_p4))) (τ := (Tau.upd (Tau.upd (Tau.upd τ 0 (.slice x0 l0 c0)) 1 (.slice x1 l1 c1)) 5 (.int .i64 x5))) [0, 1] (fun τ H => mI .i64 (τ 5) fun x5' => I x5' H) (fun τ H => μ (gI (τ 5)) H) (by kernel_rfl) h0 (fun τ1 H1 hf hI => uF 0 (.slice x0 l0 c0) (hf 0 (by simp)) (uF 1 (.slice x1 l1 c1) (hf 1 (by simp)) (uI 5 hI (fun x5r h => lgx (zqu_10ok Q E (fun x5' H2 => I x5' H2 ∧ μ x5' H2 < μ x5r H1) (Tau.upd (Tau.upd (Tau.upd τ1 0 (.slice x0 l0 c0)) 1 (.slice x1 l1 c1)) 5 (.int .i64 x5r)) H1 (conv (by kernel_rfl) (hr x5r H1 h))) (fun τ2 H2 hk => kI 5 hk (fun x5' h => conv (by kernel_rfl) h)))))))))))

theorem zqu_13ok  : Ok Pr (zqu_11_M Q E) (sB zqu_p4) (zqu_q2 Q E) E := fun τ H h =>
  (conv (by kernel_rfl) (zqu_12ok Q E τ H h))

noncomputable def zqu_q7  : XT := (xthen (zqu_11_M Q E) (zqu_q2 Q E))

def zqu_14 (Q : QT) (E : ET) (x0 : OA) (l0 c0 : Nat) (x1 : OA) (l1 c1 : Nat) (H : Heap) : Prop :=
 zqu_11 Q E x0 l0 c0 x1 l1 c1 0 H

def zqu_14_M  (τ : Tau) (H : Heap) : Prop := mSl (τ 0) fun x0 l0 c0 => mSl (τ 1) fun x1 l1 c1 => zqu_14 Q E x0 l0 c0 x1 l1 c1 H

theorem zqu_15ok  : Ok Pr (zqu_14_M Q E) (sA zqu_p4) (zqu_q7 Q E) E := fun τ H h =>
  wSl 0 h (fun x0 l0 c0 h => wSl 1 h (fun x1 l1 c1 h => (conv (by kernel_rfl) h)))

theorem zqu_16ok  : Ok Pr (zqu_14_M Q E) zqu_p4 (zqu_q2 Q E) E := fun τ H h =>
  (conv (by kernel_rfl) (vc_seq (K := (zqu_11_M Q E)) (zqu_15ok Q E τ H h) (zqu_13ok Q E)))

theorem zqu_17ok  : Ok Pr (zqu_14_M Q E) (sB (sB (bodyOf Try.f20))) (zqu_q1 Q E) E := fun τ H h =>
  (conv (by kernel_rfl) (vc_seq (K := (zqu_1_M Q E)) (zqu_16ok Q E τ H h) (zqu_2ok Q E)))

noncomputable def zqu_q8  : XT := (xthen (zqu_14_M Q E) (zqu_q1 Q E))

def zqu_18 (Q : QT) (E : ET) (x0 : OA) (l0 c0 : Nat) (x1 : OA) (l1 c1 : Nat) (H : Heap) : Prop :=
 Does Pr 41 #[(.slice x0 l0 c0)] H (fun v29 H30 =>
 ∃ b31 : Bool, v29 = (.bool b31) ∧ sel (!b31)
 (Q (.int .i64 (-1)) H30)
 (zqu_14 Q E x0 l0 c0 x1 l1 c1 H30)) E

def zqu_18_M  (τ : Tau) (H : Heap) : Prop := mSl (τ 0) fun x0 l0 c0 => mSl (τ 1) fun x1 l1 c1 => zqu_18 Q E x0 l0 c0 x1 l1 c1 H

theorem zqu_19ok  : Ok Pr (zqu_18_M Q E) (sA (sB (bodyOf Try.f20))) (zqu_q8 Q E) E := fun τ H h =>
  wSl 0 h (fun x0 l0 c0 h => wSl 1 h (fun x1 l1 c1 h => (conv (by kernel_rfl) h)))

theorem zqu_20ok  : Ok Pr (zqu_18_M Q E) (sB (bodyOf Try.f20)) (zqu_q1 Q E) E := fun τ H h =>
  (conv (by kernel_rfl) (vc_seq (K := (zqu_14_M Q E)) (zqu_19ok Q E τ H h) (zqu_17ok Q E)))

def zqu (Q : QT) (E : ET) (a0 : OA) (a0l : Nat) (a0c : Nat) (a1 : OA) (a1l : Nat) (a1c : Nat) (H : Heap) : Prop :=
 zqu_18 Q E a0 a0l a0c a1 a1l a1c H

theorem zqu_fn (a0 : OA) (a0l : Nat) (a0c : Nat) (a1 : OA) (a1l : Nat) (a1c : Nat) (Q : QT) (E : ET) (H : Heap) (h : zqu Q E a0 a0l a0c a1 a1l a1c H)   : Does Pr 20 #[(.slice a0 a0l a0c), (.slice a1 a1l a1c)] H Q E :=
  Fn_of_vc (fn := Try.f20) (c := (bodyOf Try.f20)) (args := [(.slice a0 a0l a0c), (.slice a1 a1l a1c)]) mixed (by kernel_rfl) (by kernel_rfl) (by kernel_rfl) (by kernel_rfl) (by kernel_rfl) ((conv (B := vc Pr (bodyOf Try.f20) (argT [(.slice a0 a0l a0c), (.slice a1 a1l a1c)]) (zqu_q1 Q E) E H) (by kernel_rfl) (vc_seq (K := (zqu_18_M Q E)) (conv (B := vc Pr (sA (bodyOf Try.f20)) (argT [(.slice a0 a0l a0c), (.slice a1 a1l a1c)]) (xthen (zqu_18_M Q E) (zqu_q1 Q E)) E H) (by kernel_rfl) h) (zqu_20ok Q E))))

/-! jobmux/jobmuxref09.some -/
noncomputable def zqv_q1 (Q : QT) (E : ET) : XT := (retQ Pr (Try.f54).results.toList Q)

noncomputable def zqv_p0 : Code := bodyOf Try.f54

def zqv_1 (Q : QT) (E : ET)  (H : Heap) : Prop :=
 Q (.bool false) H

def zqv_1_M  (τ : Tau) (H : Heap) : Prop := zqv_1 Q E  H

theorem zqv_2ok  : Ok Pr (zqv_1_M Q E) (sB (sB zqv_p0)) (zqv_q1 Q E) E := fun τ H h =>
  (conv (by kernel_rfl) h)

noncomputable def zqv_q2  : XT := (xthen (zqv_1_M Q E) (zqv_q1 Q E))

noncomputable def zqv_p5 : Code := sI (sB (sA (sB zqv_p0)))

noncomputable def zqv_q4 (nx7 : Int → HP) : XT := (xthen (fun τ H => mI .i64 (τ 3) fun x3' => nx7 x3' H) (xblock 0 (zqv_q2 Q E)))

def zqv_3 (nx7 : Int → HP) (Q : QT) (E : ET) (x0 : OA) (l0 c0 : Nat) (x3 : Int) (H : Heap) : Prop :=
 nx7 (IntKind.wrap .i64 (x3 + 1)) H

def zqv_3_M (nx7 : Int → HP) (τ : Tau) (H : Heap) : Prop := mSl (τ 0) fun x0 l0 c0 => mI .i64 (τ 3) fun x3 => zqv_3 nx7 Q E x0 l0 c0 x3 H

theorem zqv_4ok (nx7 : Int → HP) : Ok Pr (zqv_3_M Q E nx7) (sB (sB (sI zqv_p5))) (zqv_q4 Q E nx7) E := fun τ H h =>
  wSl 0 h (fun x0 l0 c0 h => wI 3 h (fun x3 h => (conv (by kernel_rfl) h)))

noncomputable def zqv_p9 : Code := sA (sB (sI zqv_p5))

noncomputable def zqv_q6 (nx7 : Int → HP) : XT := (xblock 1 (xthen (zqv_3_M Q E nx7) (zqv_q4 Q E nx7)))

noncomputable def zqv_q8 (nx7 : Int → HP) (nx14 : Int → HP) : XT := (xthen (fun τ H => mI .i64 (τ 4) fun x4' => nx14 x4' H) (xblock 2 (zqv_q6 Q E nx7)))

noncomputable def zqv_p13 : Code := sI (sI (sB (sI zqv_p9)))

def zqv_5 (nx7 : Int → HP) (nx14 : Int → HP) (Q : QT) (E : ET) (x0 : OA) (l0 c0 : Nat) (x3 x4 : Int) (H : Heap) : Prop :=
 nx14 (IntKind.wrap .i64 (x4 + 1)) H

def zqv_5_M (nx7 : Int → HP) (nx14 : Int → HP) (τ : Tau) (H : Heap) : Prop := mSl (τ 0) fun x0 l0 c0 => mI .i64 (τ 3) fun x3 => mI .i64 (τ 4) fun x4 => zqv_5 nx7 nx14 Q E x0 l0 c0 x3 x4 H

theorem zqv_6ok (nx7 : Int → HP) (nx14 : Int → HP) : Ok Pr (zqv_5_M Q E nx7 nx14) (sB (sB zqv_p13)) (zqv_q8 Q E nx7 nx14) E := fun τ H h =>
  wSl 0 h (fun x0 l0 c0 h => wI 3 h (fun x3 h => wI 4 h (fun x4 h => (conv (by kernel_rfl) h))))

noncomputable def zqv_q9 (nx7 : Int → HP) (nx14 : Int → HP) : XT := (xthen (zqv_5_M Q E nx7 nx14) (zqv_q8 Q E nx7 nx14))

def zqv_7 (nx7 : Int → HP) (nx14 : Int → HP) (Q : QT) (E : ET) (x0 : OA) (l0 c0 : Nat) (x3 x4 : Int) (H : Heap) : Prop :=
 (0 ≤ x3 ∧ x3 < (l0 : Int)) ∧ ptr x0 fun q21 =>
 ldSl (Addr.add q21 (x3.toNat * 1)) H fun p22 l23 c24 =>
 (0 ≤ x4 ∧ x4 < (l23 : Int)) ∧ ptr p22 fun q25 =>
 ldB (Addr.add q25 (x4.toNat * 1)) H fun b26 =>
 sel b26
 (Q (.bool true) H)
 (zqv_5 nx7 nx14 Q E x0 l0 c0 x3 x4 H)

def zqv_7_M (nx7 : Int → HP) (nx14 : Int → HP) (τ : Tau) (H : Heap) : Prop := mSl (τ 0) fun x0 l0 c0 => mI .i64 (τ 3) fun x3 => mI .i64 (τ 4) fun x4 => zqv_7 nx7 nx14 Q E x0 l0 c0 x3 x4 H

theorem zqv_8ok (nx7 : Int → HP) (nx14 : Int → HP) : Ok Pr (zqv_7_M Q E nx7 nx14) (sA (sB zqv_p13)) (zqv_q9 Q E nx7 nx14) E := fun τ H h =>
  wSl 0 h (fun x0 l0 c0 h => wI 3 h (fun x3 h => wI 4 h (fun x4 h => (conv (by kernel_rfl) h))))

theorem zqv_9ok (nx7 : Int → HP) (nx14 : Int → HP) : Ok Pr (zqv_7_M Q E nx7 nx14) (sB zqv_p13) (zqv_q8 Q E nx7 nx14) E := fun τ H h =>
  (conv (by kernel_rfl) (vc_seq (K := (zqv_5_M Q E nx7 nx14)) (zqv_8ok Q E nx7 nx14 τ H h) (zqv_6ok Q E nx7 nx14)))

noncomputable def zqv_q10 (nx7 : Int → HP) (nx14 : Int → HP) : XT := (xthen (zqv_7_M Q E nx7 nx14) (zqv_q8 Q E nx7 nx14))

def zqv_10 (nx7 : Int → HP) (nx14 : Int → HP) (Q : QT) (E : ET) (x0 : OA) (l0 c0 : Nat) (x3 x4 : Int) (H : Heap) : Prop :=
 sel (decide (x4 < (l0 : Int)))
 (zqv_7 nx7 nx14 Q E x0 l0 c0 x3 x4 H)
 (zqv_3 nx7 Q E x0 l0 c0 x3 H)

def zqv_10_M (nx7 : Int → HP) (nx14 : Int → HP) (τ : Tau) (H : Heap) : Prop := mSl (τ 0) fun x0 l0 c0 => mI .i64 (τ 3) fun x3 => mI .i64 (τ 4) fun x4 => zqv_10 nx7 nx14 Q E x0 l0 c0 x3 x4 H

theorem zqv_11ok (nx7 : Int → HP) (nx14 : Int → HP) : Ok Pr (zqv_10_M Q E nx7 nx14) (sA zqv_p13) (zqv_q10 Q E nx7 nx14) E := fun τ H h =>
  wSl 0 h (fun x0 l0 c0 h => wI 3 h (fun x3 h => wI 4 h (fun x4 h => (conv (by kernel_rfl) h))))

theorem zqv_12ok (nx7 : Int → HP) (nx14 : Int → HP) : Ok Pr (zqv_10_M Q E nx7 nx14) zqv_p13 (zqv_q8 Q E nx7 nx14) E := fun τ H h =>
  (conv (by kernel_rfl) (vc_seq (K := (zqv_7_M Q E nx7 nx14)) (zqv_11ok Q E nx7 nx14 τ H h) (zqv_9ok Q E nx7 nx14)))

def zqv_13 (nx7 : Int → HP) (Q : QT) (E : ET) (x0 : OA) (l0 c0 : Nat) (x3 x4 : Int) (H : Heap) : Prop :=
 ∃ (I : Int → HP) (μ : Int → Heap → Nat), I x4 H ∧ ∀ (x4 : Int) (H : Heap), I x4 H →
 zqv_10 nx7 (fun x4' H1 => I x4' H1 ∧ μ x4' H1 < μ x4 H) Q E x0 l0 c0 x3 x4 H

def zqv_13_M (nx7 : Int → HP) (τ : Tau) (H : Heap) : Prop := mSl (τ 0) fun x0 l0 c0 => mI .i64 (τ 3) fun x3 => mI .i64 (τ 4) fun x4 => zqv_13 nx7 Q E x0 l0 c0 x3 x4 H

theorem zqv_14ok (nx7 : Int → HP) : Ok Pr (zqv_13_M Q E nx7) (sI (sB (sI zqv_p9))) (xblock 2 (zqv_q6 Q E nx7)) E := fun τ H h =>
  wSl 0 h (fun x0 l0 c0 h => wI 3 h (fun x3 h => wI 4 h (fun x4 h => match h with | ⟨I, μ, h0, hr⟩ => (conv (by kernel_rfl) (vc_loopG (c := sI (sI (sB (sI zqv_p9)))) (τ := (Tau.upd (Tau.upd (Tau.upd τ 0 (.slice x0 l0 c0)) 3 (.int .i64 x3)) 4 (.int .i64 x4))) [0, 3] (fun τ H => mI .i64 (τ 4) fun x4' => I x4' H) (fun τ H => μ (gI (τ 4)) H) (by kernel_rfl) h0 (fun τ1 H1 hf hI => uF 0 (.slice x0 l0 c0) (hf 0 (by simp)) (uF 3 (.int .i64 x3) (hf 3 (by simp)) (uI 4 hI (fun x4r h => lgx (zqv_12ok Q E nx7 (fun x4' H2 => I x4' H2 ∧ μ x4' H2 < μ x4r H1) (Tau.upd (Tau.upd (Tau.upd τ1 0 (.slice x0 l0 c0)) 3 (.int .i64 x3)) 4 (.int .i64 x4r)) H1 (conv (by kernel_rfl) (hr x4r H1 h))) (fun τ2 H2 hk => kI 4 hk (fun x4' h => conv (by kernel_rfl) h)))))))))))

theorem zqv_15ok (nx7 : Int → HP) : Ok Pr (zqv_13_M Q E nx7) (sB (sI zqv_p9)) (zqv_q6 Q E nx7) E := fun τ H h =>
  (conv (by kernel_rfl) (zqv_14ok Q E nx7 τ H h))

def zqv_16 (nx7 : Int → HP) (Q : QT) (E : ET) (x0 : OA) (l0 c0 : Nat) (x3 : Int) (H : Heap) : Prop :=
 zqv_13 nx7 Q E x0 l0 c0 x3 0 H

def zqv_16_M (nx7 : Int → HP) (τ : Tau) (H : Heap) : Prop := mSl (τ 0) fun x0 l0 c0 => mI .i64 (τ 3) fun x3 => zqv_16 nx7 Q E x0 l0 c0 x3 H

theorem zqv_17ok (nx7 : Int → HP) : Ok Pr (zqv_16_M Q E nx7) (sA (sI zqv_p9)) (xthen (zqv_13_M Q E nx7) (zqv_q6 Q E nx7)) E := fun τ H h =>
  wSl 0 h (fun x0 l0 c0 h => wI 3 h (fun x3 h => (conv (by kernel_rfl) h)))

theorem zqv_18ok (nx7 : Int → HP) : Ok Pr (zqv_16_M Q E nx7) (sI zqv_p9) (zqv_q6 Q E nx7) E := fun τ H h =>
  (conv (by kernel_rfl) (vc_seq (K := (zqv_13_M Q E nx7)) (zqv_17ok Q E nx7 τ H h) (zqv_15ok Q E nx7)))

theorem zqv_19ok (nx7 : Int → HP) : Ok Pr (zqv_16_M Q E nx7) zqv_p9 (xthen (zqv_3_M Q E nx7) (zqv_q4 Q E nx7)) E := fun τ H h =>
  (conv (by kernel_rfl) (zqv_18ok Q E nx7 τ H h))

theorem zqv_20ok (nx7 : Int → HP) : Ok Pr (zqv_16_M Q E nx7) (sB (sI zqv_p5)) (zqv_q4 Q E nx7) E := fun τ H h =>
  (conv (by kernel_rfl) (vc_seq (K := (zqv_3_M Q E nx7)) (zqv_19ok Q E nx7 τ H h) (zqv_4ok Q E nx7)))

def zqv_21 (nx7 : Int → HP) (Q : QT) (E : ET) (x0 : OA) (l0 c0 : Nat) (x3 : Int) (H : Heap) : Prop :=
 sel (decide (x3 < (l0 : Int)))
 (zqv_16 nx7 Q E x0 l0 c0 x3 H)
 (zqv_1 Q E  H)

def zqv_21_M (nx7 : Int → HP) (τ : Tau) (H : Heap) : Prop := mSl (τ 0) fun x0 l0 c0 => mI .i64 (τ 3) fun x3 => zqv_21 nx7 Q E x0 l0 c0 x3 H

theorem zqv_22ok (nx7 : Int → HP) : Ok Pr (zqv_21_M Q E nx7) (sA (sI zqv_p5)) (xthen (zqv_16_M Q E nx7) (zqv_q4 Q E nx7)) E := fun τ H h =>
  wSl 0 h (fun x0 l0 c0 h => wI 3 h (fun x3 h => (conv (by kernel_rfl) h)))

theorem zqv_23ok (nx7 : Int → HP) : Ok Pr (zqv_21_M Q E nx7) (sI zqv_p5) (zqv_q4 Q E nx7) E := fun τ H h =>
  (conv (by kernel_rfl) (vc_seq (K := (zqv_16_M Q E nx7)) (zqv_22ok Q E nx7 τ H h) (zqv_20ok Q E nx7)))

def zqv_24 (Q : QT) (E : ET) (x0 : OA) (l0 c0 : Nat) (x3 : Int) (H : Heap) : Prop :=
 ∃ (I : Int → HP) (μ : Int → Heap → Nat), I x3 H ∧ ∀ (x3 : Int) (H : Heap), I x3 H →
 zqv_21 (fun x3' H1 => I x3' H1 ∧ μ x3' H1 < μ x3 H) Q E x0 l0 c0 x3 H

def zqv_24_M  (τ : Tau) (H : Heap) : Prop := mSl (τ 0) fun x0 l0 c0 => mI .i64 (τ 3) fun x3 => zqv_24 Q E x0 l0 c0 x3 H

theorem zqv_25ok  : Ok Pr (zqv_24_M Q E) zqv_p5 (xblock 0 (zqv_q2 Q E)) E := fun τ H h =>
  wSl 0 h (fun x0 l0 c0 h => wI 3 h (fun x3 h => match h with | ⟨I, μ, h0, hr⟩ => (conv (by kernel_rfl) (vc_loopG (c := sI zqv_p5) (τ := (Tau.upd (Tau.upd τ 0 (.slice x0 l0 c0)) 3 (.int .i64 x3))) [0] (fun τ H => mI .i64 (τ 3) fun x3' => I x3' H) (fun τ H => μ (gI (τ 3)) H) (by kernel_rfl) h0 (fun τ1 H1 hf hI => uF 0 (.slice x0 l0 c0) (hf 0 (by simp)) (uI 3 hI (fun x3r h => lgx (zqv_23ok Q E (fun x3' H2 => I x3' H2 ∧ μ x3' H2 < μ x3r H1) (Tau.upd (Tau.upd τ1 0 (.slice x0 l0 c0)) 3 (.int .i64 x3r)) H1 (conv (by kernel_rfl) (hr x3r H1 h))) (fun τ2 H2 hk => kI 3 hk (fun x3' h => conv (by kernel_rfl) h)))))))))

theorem zqv_26ok  : Ok Pr (zqv_24_M Q E) (sB (sA (sB zqv_p0))) (zqv_q2 Q E) E := fun τ H h =>
  (conv (by kernel_rfl) (zqv_25ok Q E τ H h))

def zqv_27 (Q : QT) (E : ET) (x0 : OA) (l0 c0 : Nat) (H : Heap) : Prop :=
 zqv_24 Q E x0 l0 c0 0 H

def zqv_27_M  (τ : Tau) (H : Heap) : Prop := mSl (τ 0) fun x0 l0 c0 => zqv_27 Q E x0 l0 c0 H

theorem zqv_28ok  : Ok Pr (zqv_27_M Q E) (sA (sA (sB zqv_p0))) (xthen (zqv_24_M Q E) (zqv_q2 Q E)) E := fun τ H h =>
  wSl 0 h (fun x0 l0 c0 h => (conv (by kernel_rfl) h))

theorem zqv_29ok  : Ok Pr (zqv_27_M Q E) (sA (sB zqv_p0)) (zqv_q2 Q E) E := fun τ H h =>
  (conv (by kernel_rfl) (vc_seq (K := (zqv_24_M Q E)) (zqv_28ok Q E τ H h) (zqv_26ok Q E)))

theorem zqv_30ok  : Ok Pr (zqv_27_M Q E) (sB zqv_p0) (zqv_q1 Q E) E := fun τ H h =>
  (conv (by kernel_rfl) (vc_seq (K := (zqv_1_M Q E)) (zqv_29ok Q E τ H h) (zqv_2ok Q E)))

def zqv (Q : QT) (E : ET) (a0 : OA) (a0l : Nat) (a0c : Nat) (H : Heap) : Prop :=
 zqv_27 Q E a0 a0l a0c H

theorem zqv_fn (a0 : OA) (a0l : Nat) (a0c : Nat) (Q : QT) (E : ET) (H : Heap) (h : zqv Q E a0 a0l a0c H)   : Does Pr 54 #[(.slice a0 a0l a0c)] H Q E :=
  Fn_of_vc (fn := Try.f54) (c := zqv_p0) (args := [(.slice a0 a0l a0c)]) mixed (by kernel_rfl) (by kernel_rfl) (by kernel_rfl) (by kernel_rfl) (by kernel_rfl) ((conv (B := vc Pr zqv_p0 (argT [(.slice a0 a0l a0c)]) (zqv_q1 Q E) E H) (by kernel_rfl) (vc_seq (K := (zqv_27_M Q E)) (conv (B := vc Pr (sA zqv_p0) (argT [(.slice a0 a0l a0c)]) (xthen (zqv_27_M Q E) (zqv_q1 Q E)) E H) (by kernel_rfl) h) (zqv_30ok Q E))))

/-! jobmux/jobmuxref09.root -/
noncomputable def zqw_q1 (Q : QT) (E : ET) : XT := (retQ Pr (Try.f55).results.toList Q)

noncomputable def zqw_p0 : Code := bodyOf Try.f55

def zqw_1 (Q : QT) (E : ET) (x5 : OA) (l5 c5 : Nat) (H : Heap) : Prop :=
 (0 ≤ ((IntKind.wrap .i64 ((l5 : Int) - 1)) : Int) ∧ ((IntKind.wrap .i64 ((l5 : Int) - 1)) : Int) < (l5 : Int)) ∧ ptr x5 fun q108 =>
 ldSl (Addr.add q108 (((IntKind.wrap .i64 ((l5 : Int) - 1)) : Int).toNat * 1)) H fun p109 l110 c111 =>
 Q (.slice p109 l110 c111) H

def zqw_1_M  (τ : Tau) (H : Heap) : Prop := mSl (τ 5) fun x5 l5 c5 => zqw_1 Q E x5 l5 c5 H

theorem zqw_2ok  : Ok Pr (zqw_1_M Q E) (sB (sB (sB zqw_p0))) (zqw_q1 Q E) E := fun τ H h =>
  wSl 5 h (fun x5 l5 c5 h => (conv (by kernel_rfl) h))

noncomputable def zqw_q2  : XT := (xthen (zqw_1_M Q E) (zqw_q1 Q E))

noncomputable def zqw_p4 : Code := sA (sB (sB zqw_p0))

noncomputable def zqw_q4 (nx112 : OA → Nat → Nat → Int → HP) : XT := (xthen (fun τ H => mSl (τ 5) fun x5' l5' c5' => mI .i64 (τ 6) fun x6' => nx112 x5' l5' c5' x6' H) (xblock 0 (zqw_q2 Q E)))

noncomputable def zqw_p7 : Code := sI (sI (sB zqw_p4))

def zqw_3 (nx112 : OA → Nat → Nat → Int → HP) (Q : QT) (E : ET) (x0 : OA) (l0 c0 : Nat) (x1 : OA) (l1 c1 : Nat) (x5 : OA) (l5 c5 : Nat) (x6 : Int) (H : Heap) : Prop :=
 nx112 x5 l5 c5 (IntKind.wrap .i64 (x6 + 1)) H

def zqw_3_M (nx112 : OA → Nat → Nat → Int → HP) (τ : Tau) (H : Heap) : Prop := mSl (τ 0) fun x0 l0 c0 => mSl (τ 1) fun x1 l1 c1 => mSl (τ 5) fun x5 l5 c5 => mI .i64 (τ 6) fun x6 => zqw_3 nx112 Q E x0 l0 c0 x1 l1 c1 x5 l5 c5 x6 H

theorem zqw_4ok (nx112 : OA → Nat → Nat → Int → HP) : Ok Pr (zqw_3_M Q E nx112) (sB (sB zqw_p7)) (zqw_q4 Q E nx112) E := fun τ H h =>
  wSl 0 h (fun x0 l0 c0 h => wSl 1 h (fun x1 l1 c1 h => wSl 5 h (fun x5 l5 c5 h => wI 6 h (fun x6 h => (conv (by kernel_rfl) h)))))

noncomputable def zqw_q6 (nx112 : OA → Nat → Nat → Int → HP) : XT := (xblock 1 (xthen (zqw_3_M Q E nx112) (zqw_q4 Q E nx112)))

noncomputable def zqw_p11 : Code := sI (sA (sB zqw_p7))

noncomputable def zqw_p13 : Code := sB (sB zqw_p11)

def zqw_5 (nx112 : OA → Nat → Nat → Int → HP) (Q : QT) (E : ET) (x0 : OA) (l0 c0 : Nat) (x1 : OA) (l1 c1 : Nat) (x5 : OA) (l5 c5 : Nat) (x6 : Int) (x8 : OA) (l8 c8 : Nat) (H : Heap) : Prop :=
 nw (.cells #[(.slice x8 l8 c8)] 79 (0, 0)) H fun i321 H322 =>
 app Pr 134 x5 l5 c5 (.slice (some ⟨i321, 0, none⟩) 1 1) H322 fun p323 l324 c325 H326 =>
 zqw_3 nx112 Q E x0 l0 c0 x1 l1 c1 p323 l324 c325 x6 H326

def zqw_5_M (nx112 : OA → Nat → Nat → Int → HP) (τ : Tau) (H : Heap) : Prop := mSl (τ 0) fun x0 l0 c0 => mSl (τ 1) fun x1 l1 c1 => mSl (τ 5) fun x5 l5 c5 => mI .i64 (τ 6) fun x6 => mSl (τ 8) fun x8 l8 c8 => zqw_5 nx112 Q E x0 l0 c0 x1 l1 c1 x5 l5 c5 x6 x8 l8 c8 H

theorem zqw_6ok (nx112 : OA → Nat → Nat → Int → HP) : Ok Pr (zqw_5_M Q E nx112) (sB zqw_p13) (zqw_q6 Q E nx112) E := fun τ H h =>
  wSl 0 h (fun x0 l0 c0 h => wSl 1 h (fun x1 l1 c1 h => wSl 5 h (fun x5 l5 c5 h => wI 6 h (fun x6 h => wSl 8 h (fun x8 l8 c8 h => (conv (by kernel_rfl) h))))))

noncomputable def zqw_q7 (nx112 : OA → Nat → Nat → Int → HP) : XT := (xthen (zqw_5_M Q E nx112) (zqw_q6 Q E nx112))

def zqw_7 (nx112 : OA → Nat → Nat → Int → HP) (Q : QT) (E : ET) (x0 : OA) (l0 c0 : Nat) (x1 : OA) (l1 c1 : Nat) (x5 : OA) (l5 c5 : Nat) (x6 : Int) (x7 : OA) (H : Heap) : Prop :=
 ptr x7 fun q327 =>
 ldI .i64 q327 H fun n328 =>
 sel (n328 == 3)
 (ptr x7 fun q329 =>
 ldI .i64 (Addr.add q329 1) H fun n330 =>
 (0 ≤ n330 ∧ n330 < (l5 : Int)) ∧ ptr x5 fun q331 =>
 ldSl (Addr.add q331 (n330.toNat * 1)) H fun p332 l333 c334 =>
 ptr x7 fun q335 =>
 ldI .i64 (Addr.add q335 2) H fun n336 =>
 (0 ≤ n336 ∧ n336 < (l5 : Int)) ∧ ptr x5 fun q337 =>
 ldSl (Addr.add q337 (n336.toNat * 1)) H fun p338 l339 c340 =>
 Does Pr 84 #[(.slice p332 l333 c334), (.slice p338 l339 c340)] H (fun v341 H342 =>
 ∃ (p343 : OA) (l344 c345 : Nat), v341 = (.slice p343 l344 c345) ∧ zqw_5 nx112 Q E x0 l0 c0 x1 l1 c1 x5 l5 c5 x6 p343 l344 c345 H342) (fun _ _ => False))
 (sel (n328 == 4)
 (ptr x7 fun q346 =>
 ldI .i64 (Addr.add q346 1) H fun n347 =>
 (0 ≤ n347 ∧ n347 < (l5 : Int)) ∧ ptr x5 fun q348 =>
 ldSl (Addr.add q348 (n347.toNat * 1)) H fun p349 l350 c351 =>
 ptr x7 fun q352 =>
 ldI .i64 (Addr.add q352 2) H fun n353 =>
 (0 ≤ n353 ∧ n353 < (l5 : Int)) ∧ ptr x5 fun q354 =>
 ldSl (Addr.add q354 (n353.toNat * 1)) H fun p355 l356 c357 =>
 Does Pr 85 #[(.slice p349 l350 c351), (.slice p355 l356 c357)] H (fun v358 H359 =>
 ∃ (p360 : OA) (l361 c362 : Nat), v358 = (.slice p360 l361 c362) ∧ zqw_5 nx112 Q E x0 l0 c0 x1 l1 c1 x5 l5 c5 x6 p360 l361 c362 H359) (fun _ _ => False))
 (sel (n328 == 5)
 (ptr x7 fun q363 =>
 ldI .i64 (Addr.add q363 1) H fun n364 =>
 (0 ≤ n364 ∧ n364 < (l5 : Int)) ∧ ptr x5 fun q365 =>
 ldSl (Addr.add q365 (n364.toNat * 1)) H fun p366 l367 c368 =>
 Does Pr 86 #[(.slice p366 l367 c368)] H (fun v369 H370 =>
 ∃ (p371 : OA) (l372 c373 : Nat), v369 = (.slice p371 l372 c373) ∧ zqw_5 nx112 Q E x0 l0 c0 x1 l1 c1 x5 l5 c5 x6 p371 l372 c373 H370) E)
 (sel (n328 == 6)
 (∃ Z374 : Nat → Prop,
 ptr x7 fun q375 =>
 Z374 (Addr.block (Addr.add q375 1)) ∧ ldI .i64 (Addr.add q375 1) H fun n376 =>
 (0 ≤ n376 ∧ n376 < (l5 : Int)) ∧ ptr x5 fun q377 =>
 Z374 (Addr.block (Addr.add q377 (n376.toNat * 1))) ∧ ldSl (Addr.add q377 (n376.toNat * 1)) H fun p378 l379 c380 =>
 ptr x7 fun q381 =>
 ldI .i64 (Addr.add q381 1) H fun n382 =>
 (0 ≤ n382 ∧ n382 < (l5 : Int)) ∧ ptr x5 fun q383 =>
 ldSl (Addr.add q383 (n382.toNat * 1)) H fun p384 l385 c386 =>
 Does Pr 86 #[(.slice p384 l385 c386)] H (fun v387 H388 =>
 ∃ (p389 : OA) (l390 c391 : Nat), v387 = (.slice p389 l390 c391) ∧ (∀ z, Z374 z → H z ≠ none → H388 z = H z) ∧ Does Pr 84 #[(.slice p378 l379 c380), (.slice p389 l390 c391)] H388 (fun v392 H393 =>
 ∃ (p394 : OA) (l395 c396 : Nat), v392 = (.slice p394 l395 c396) ∧ zqw_5 nx112 Q E x0 l0 c0 x1 l1 c1 x5 l5 c5 x6 p394 l395 c396 H393) (fun _ _ => False)) (fun _ _ => False))
 (sel (n328 == 7)
 (∃ Z397 : Nat → Prop,
 ptr x7 fun q398 =>
 Z397 (Addr.block (Addr.add q398 1)) ∧ ldI .i64 (Addr.add q398 1) H fun n399 =>
 (0 ≤ n399 ∧ n399 < (l5 : Int)) ∧ ptr x5 fun q400 =>
 Z397 (Addr.block (Addr.add q400 (n399.toNat * 1))) ∧ ldSl (Addr.add q400 (n399.toNat * 1)) H fun p401 l402 c403 =>
 Does Pr 87 #[(.int .i64 (IntKind.wrap .i64 ((l1 : Int) + 1)))] H (fun v404 H405 =>
 ∃ (p406 : OA) (l407 c408 : Nat), v404 = (.slice p406 l407 c408) ∧ (∀ z, Z397 z → H z ≠ none → H405 z = H z) ∧ Does Pr 85 #[(.slice p406 l407 c408), (.slice p401 l402 c403)] H405 (fun v409 H410 =>
 ∃ (p411 : OA) (l412 c413 : Nat), v409 = (.slice p411 l412 c413) ∧ zqw_5 nx112 Q E x0 l0 c0 x1 l1 c1 x5 l5 c5 x6 p411 l412 c413 H410) (fun _ _ => False)) (fun _ _ => False))
 (ptr x7 fun q414 =>
 ∃ n415 n416 n417 n418 n419 n420 n421 : Int, Heap.rd H q414 0 [(.int .i64 n415), (.int .i64 n416), (.int .i64 n417), (.int .u64 n418), (.int .u64 n419), (.int .u64 n420), (.int .u64 n421)] ∧ Does Pr 88 #[(.agg #[(.int .i64 n415), (.int .i64 n416), (.int .i64 n417), (.int .u64 n418), (.int .u64 n419), (.int .u64 n420), (.int .u64 n421)]), (.slice x1 l1 c1)] H (fun v422 H423 =>
 ∃ (p424 : OA) (l425 c426 : Nat), v422 = (.slice p424 l425 c426) ∧ zqw_5 nx112 Q E x0 l0 c0 x1 l1 c1 x5 l5 c5 x6 p424 l425 c426 H423) E)))))

def zqw_7_M (nx112 : OA → Nat → Nat → Int → HP) (τ : Tau) (H : Heap) : Prop := mSl (τ 0) fun x0 l0 c0 => mSl (τ 1) fun x1 l1 c1 => mSl (τ 5) fun x5 l5 c5 => mI .i64 (τ 6) fun x6 => mP (τ 7) fun x7 => zqw_7 nx112 Q E x0 l0 c0 x1 l1 c1 x5 l5 c5 x6 x7 H

theorem zqw_8ok (nx112 : OA → Nat → Nat → Int → HP) : Ok Pr (zqw_7_M Q E nx112) (sA zqw_p13) (zqw_q7 Q E nx112) E := fun τ H h =>
  wSl 0 h (fun x0 l0 c0 h => wSl 1 h (fun x1 l1 c1 h => wSl 5 h (fun x5 l5 c5 h => wI 6 h (fun x6 h => wP 7 h (fun x7 h => (conv (by kernel_rfl) h))))))

theorem zqw_9ok (nx112 : OA → Nat → Nat → Int → HP) : Ok Pr (zqw_7_M Q E nx112) zqw_p13 (zqw_q6 Q E nx112) E := fun τ H h =>
  (conv (by kernel_rfl) (vc_seq (K := (zqw_5_M Q E nx112)) (zqw_8ok Q E nx112 τ H h) (zqw_6ok Q E nx112)))

noncomputable def zqw_q8 (nx112 : OA → Nat → Nat → Int → HP) : XT := (xthen (zqw_7_M Q E nx112) (zqw_q6 Q E nx112))

def zqw_10 (nx112 : OA → Nat → Nat → Int → HP) (Q : QT) (E : ET) (x0 : OA) (l0 c0 : Nat) (x1 : OA) (l1 c1 : Nat) (x5 : OA) (l5 c5 : Nat) (x6 : Int) (x7 : OA) (H : Heap) : Prop :=
 zqw_7 nx112 Q E x0 l0 c0 x1 l1 c1 x5 l5 c5 x6 x7 H

def zqw_10_M (nx112 : OA → Nat → Nat → Int → HP) (τ : Tau) (H : Heap) : Prop := mSl (τ 0) fun x0 l0 c0 => mSl (τ 1) fun x1 l1 c1 => mSl (τ 5) fun x5 l5 c5 => mI .i64 (τ 6) fun x6 => mP (τ 7) fun x7 => zqw_10 nx112 Q E x0 l0 c0 x1 l1 c1 x5 l5 c5 x6 x7 H

theorem zqw_11ok (nx112 : OA → Nat → Nat → Int → HP) : Ok Pr (zqw_10_M Q E nx112) (sA (sB zqw_p11)) (zqw_q8 Q E nx112) E := fun τ H h =>
  wSl 0 h (fun x0 l0 c0 h => wSl 1 h (fun x1 l1 c1 h => wSl 5 h (fun x5 l5 c5 h => wI 6 h (fun x6 h => wP 7 h (fun x7 h => (conv (by kernel_rfl) h))))))

theorem zqw_12ok (nx112 : OA → Nat → Nat → Int → HP) : Ok Pr (zqw_10_M Q E nx112) (sB zqw_p11) (zqw_q6 Q E nx112) E := fun τ H h =>
  (conv (by kernel_rfl) (vc_seq (K := (zqw_7_M Q E nx112)) (zqw_11ok Q E nx112 τ H h) (zqw_9ok Q E nx112)))

noncomputable def zqw_q9 (nx112 : OA → Nat → Nat → Int → HP) : XT := (xthen (zqw_10_M Q E nx112) (zqw_q6 Q E nx112))

def zqw_13 (nx112 : OA → Nat → Nat → Int → HP) (Q : QT) (E : ET) (x0 : OA) (l0 c0 : Nat) (x1 : OA) (l1 c1 : Nat) (x5 : OA) (l5 c5 : Nat) (x6 : Int) (H : Heap) : Prop :=
 (0 ≤ x6 ∧ x6 < (l0 : Int)) ∧ ptr x0 fun q427 =>
 ∃ n428 n429 n430 n431 n432 n433 n434 : Int, Heap.rd H (Addr.add q427 (x6.toNat * 7)) 0 [(.int .i64 n428), (.int .i64 n429), (.int .i64 n430), (.int .u64 n431), (.int .u64 n432), (.int .u64 n433), (.int .u64 n434)] ∧ nw (.cells #[(.int .i64 0), (.int .i64 0), (.int .i64 0), (.int .u64 0), (.int .u64 0), (.int .u64 0), (.int .u64 0)] 48 (0, 0)) H fun i435 H436 =>
 wr ⟨i435, 0, none⟩ [(.int .i64 n428), (.int .i64 n429), (.int .i64 n430), (.int .u64 n431), (.int .u64 n432), (.int .u64 n433), (.int .u64 n434)] H436 fun H437 =>
 zqw_10 nx112 Q E x0 l0 c0 x1 l1 c1 x5 l5 c5 x6 (some ⟨i435, 0, none⟩) H437

def zqw_13_M (nx112 : OA → Nat → Nat → Int → HP) (τ : Tau) (H : Heap) : Prop := mSl (τ 0) fun x0 l0 c0 => mSl (τ 1) fun x1 l1 c1 => mSl (τ 5) fun x5 l5 c5 => mI .i64 (τ 6) fun x6 => zqw_13 nx112 Q E x0 l0 c0 x1 l1 c1 x5 l5 c5 x6 H

theorem zqw_14ok (nx112 : OA → Nat → Nat → Int → HP) : Ok Pr (zqw_13_M Q E nx112) (sA zqw_p11) (zqw_q9 Q E nx112) E := fun τ H h =>
  wSl 0 h (fun x0 l0 c0 h => wSl 1 h (fun x1 l1 c1 h => wSl 5 h (fun x5 l5 c5 h => wI 6 h (fun x6 h => (conv (by kernel_rfl) h)))))

theorem zqw_15ok (nx112 : OA → Nat → Nat → Int → HP) : Ok Pr (zqw_13_M Q E nx112) zqw_p11 (zqw_q6 Q E nx112) E := fun τ H h =>
  (conv (by kernel_rfl) (vc_seq (K := (zqw_10_M Q E nx112)) (zqw_14ok Q E nx112 τ H h) (zqw_12ok Q E nx112)))

theorem zqw_16ok (nx112 : OA → Nat → Nat → Int → HP) : Ok Pr (zqw_13_M Q E nx112) (sA (sB zqw_p7)) (xthen (zqw_3_M Q E nx112) (zqw_q4 Q E nx112)) E := fun τ H h =>
  (conv (by kernel_rfl) (zqw_15ok Q E nx112 τ H h))

theorem zqw_17ok (nx112 : OA → Nat → Nat → Int → HP) : Ok Pr (zqw_13_M Q E nx112) (sB zqw_p7) (zqw_q4 Q E nx112) E := fun τ H h =>
  (conv (by kernel_rfl) (vc_seq (K := (zqw_3_M Q E nx112)) (zqw_16ok Q E nx112 τ H h) (zqw_4ok Q E nx112)))

noncomputable def zqw_q10 (nx112 : OA → Nat → Nat → Int → HP) : XT := (xthen (zqw_13_M Q E nx112) (zqw_q4 Q E nx112))

def zqw_18 (nx112 : OA → Nat → Nat → Int → HP) (Q : QT) (E : ET) (x0 : OA) (l0 c0 : Nat) (x1 : OA) (l1 c1 : Nat) (x5 : OA) (l5 c5 : Nat) (x6 : Int) (H : Heap) : Prop :=
 sel (decide (x6 < (l0 : Int)))
 (zqw_13 nx112 Q E x0 l0 c0 x1 l1 c1 x5 l5 c5 x6 H)
 (zqw_1 Q E x5 l5 c5 H)

def zqw_18_M (nx112 : OA → Nat → Nat → Int → HP) (τ : Tau) (H : Heap) : Prop := mSl (τ 0) fun x0 l0 c0 => mSl (τ 1) fun x1 l1 c1 => mSl (τ 5) fun x5 l5 c5 => mI .i64 (τ 6) fun x6 => zqw_18 nx112 Q E x0 l0 c0 x1 l1 c1 x5 l5 c5 x6 H

theorem zqw_19ok (nx112 : OA → Nat → Nat → Int → HP) : Ok Pr (zqw_18_M Q E nx112) (sA zqw_p7) (zqw_q10 Q E nx112) E := fun τ H h =>
  wSl 0 h (fun x0 l0 c0 h => wSl 1 h (fun x1 l1 c1 h => wSl 5 h (fun x5 l5 c5 h => wI 6 h (fun x6 h => (conv (by kernel_rfl) h)))))

theorem zqw_20ok (nx112 : OA → Nat → Nat → Int → HP) : Ok Pr (zqw_18_M Q E nx112) zqw_p7 (zqw_q4 Q E nx112) E := fun τ H h =>
  (conv (by kernel_rfl) (vc_seq (K := (zqw_13_M Q E nx112)) (zqw_19ok Q E nx112 τ H h) (zqw_17ok Q E nx112)))

def zqw_21 (Q : QT) (E : ET) (x0 : OA) (l0 c0 : Nat) (x1 : OA) (l1 c1 : Nat) (x5 : OA) (l5 c5 : Nat) (x6 : Int) (H : Heap) : Prop :=
 ∃ (I : OA → Nat → Nat → Int → HP) (μ : OA → Nat → Nat → Int → Heap → Nat), I x5 l5 c5 x6 H ∧ ∀ (x5 : OA) (l5 c5 : Nat) (x6 : Int) (H : Heap), I x5 l5 c5 x6 H →
 zqw_18 (fun x5' l5' c5' x6' H1 => I x5' l5' c5' x6' H1 ∧ μ x5' l5' c5' x6' H1 < μ x5 l5 c5 x6 H) Q E x0 l0 c0 x1 l1 c1 x5 l5 c5 x6 H

def zqw_21_M  (τ : Tau) (H : Heap) : Prop := mSl (τ 0) fun x0 l0 c0 => mSl (τ 1) fun x1 l1 c1 => mSl (τ 5) fun x5 l5 c5 => mI .i64 (τ 6) fun x6 => zqw_21 Q E x0 l0 c0 x1 l1 c1 x5 l5 c5 x6 H

theorem zqw_22ok  : Ok Pr (zqw_21_M Q E) (sI (sB zqw_p4)) (xblock 0 (zqw_q2 Q E)) E := fun τ H h =>
  wSl 0 h (fun x0 l0 c0 h => wSl 1 h (fun x1 l1 c1 h => wSl 5 h (fun x5 l5 c5 h => wI 6 h (fun x6 h => match h with | ⟨I, μ, h0, hr⟩ => (conv (by kernel_rfl) (vc_loopG (c := sI (sI (sB zqw_p4))) (τ := (Tau.upd (Tau.upd (Tau.upd (Tau.upd τ 0 (.slice x0 l0 c0)) 1 (.slice x1 l1 c1)) 5 (.slice x5 l5 c5)) 6 (.int .i64 x6))) [0, 1] (fun τ H => mSl (τ 5) fun x5' l5' c5' => mI .i64 (τ 6) fun x6' => I x5' l5' c5' x6' H) (fun τ H => μ (gL1 (τ 5)) (gL2 (τ 5)) (gL3 (τ 5)) (gI (τ 6)) H) (by kernel_rfl) h0 (fun τ1 H1 hf hI => uF 0 (.slice x0 l0 c0) (hf 0 (by simp)) (uF 1 (.slice x1 l1 c1) (hf 1 (by simp)) (uSl 5 hI (fun x5r l5r c5r h => uI 6 h (fun x6r h => lgx (zqw_20ok Q E (fun x5' l5' c5' x6' H2 => I x5' l5' c5' x6' H2 ∧ μ x5' l5' c5' x6' H2 < μ x5r l5r c5r x6r H1) (Tau.upd (Tau.upd (Tau.upd (Tau.upd τ1 0 (.slice x0 l0 c0)) 1 (.slice x1 l1 c1)) 5 (.slice x5r l5r c5r)) 6 (.int .i64 x6r)) H1 (conv (by kernel_rfl) (hr x5r l5r c5r x6r H1 h))) (fun τ2 H2 hk => kSl 5 hk (fun x5' l5' c5' h => kI 6 h (fun x6' h => conv (by kernel_rfl) h))))))))))))))

theorem zqw_23ok  : Ok Pr (zqw_21_M Q E) (sB zqw_p4) (zqw_q2 Q E) E := fun τ H h =>
  (conv (by kernel_rfl) (zqw_22ok Q E τ H h))

noncomputable def zqw_q11  : XT := (xthen (zqw_21_M Q E) (zqw_q2 Q E))

def zqw_24 (Q : QT) (E : ET) (x0 : OA) (l0 c0 : Nat) (x1 : OA) (l1 c1 : Nat) (x5 : OA) (l5 c5 : Nat) (H : Heap) : Prop :=
 zqw_21 Q E x0 l0 c0 x1 l1 c1 x5 l5 c5 0 H

def zqw_24_M  (τ : Tau) (H : Heap) : Prop := mSl (τ 0) fun x0 l0 c0 => mSl (τ 1) fun x1 l1 c1 => mSl (τ 5) fun x5 l5 c5 => zqw_24 Q E x0 l0 c0 x1 l1 c1 x5 l5 c5 H

theorem zqw_25ok  : Ok Pr (zqw_24_M Q E) (sA zqw_p4) (zqw_q11 Q E) E := fun τ H h =>
  wSl 0 h (fun x0 l0 c0 h => wSl 1 h (fun x1 l1 c1 h => wSl 5 h (fun x5 l5 c5 h => (conv (by kernel_rfl) h))))

theorem zqw_26ok  : Ok Pr (zqw_24_M Q E) zqw_p4 (zqw_q2 Q E) E := fun τ H h =>
  (conv (by kernel_rfl) (vc_seq (K := (zqw_21_M Q E)) (zqw_25ok Q E τ H h) (zqw_23ok Q E)))

theorem zqw_27ok  : Ok Pr (zqw_24_M Q E) (sB (sB zqw_p0)) (zqw_q1 Q E) E := fun τ H h =>
  (conv (by kernel_rfl) (vc_seq (K := (zqw_1_M Q E)) (zqw_26ok Q E τ H h) (zqw_2ok Q E)))

noncomputable def zqw_q12  : XT := (xthen (zqw_24_M Q E) (zqw_q1 Q E))

def zqw_28 (Q : QT) (E : ET) (x0 : OA) (l0 c0 : Nat) (x1 : OA) (l1 c1 : Nat) (H : Heap) : Prop :=
 zqw_24 Q E x0 l0 c0 x1 l1 c1 none 0 0 H

def zqw_28_M  (τ : Tau) (H : Heap) : Prop := mSl (τ 0) fun x0 l0 c0 => mSl (τ 1) fun x1 l1 c1 => zqw_28 Q E x0 l0 c0 x1 l1 c1 H

theorem zqw_29ok  : Ok Pr (zqw_28_M Q E) (sA (sB zqw_p0)) (zqw_q12 Q E) E := fun τ H h =>
  wSl 0 h (fun x0 l0 c0 h => wSl 1 h (fun x1 l1 c1 h => (conv (by kernel_rfl) h)))

theorem zqw_30ok  : Ok Pr (zqw_28_M Q E) (sB zqw_p0) (zqw_q1 Q E) E := fun τ H h =>
  (conv (by kernel_rfl) (vc_seq (K := (zqw_24_M Q E)) (zqw_29ok Q E τ H h) (zqw_27ok Q E)))

def zqw (Q : QT) (E : ET) (a0 : OA) (a0l : Nat) (a0c : Nat) (a1 : OA) (a1l : Nat) (a1c : Nat) (H : Heap) : Prop :=
 zqw_28 Q E a0 a0l a0c a1 a1l a1c H

theorem zqw_fn (a0 : OA) (a0l : Nat) (a0c : Nat) (a1 : OA) (a1l : Nat) (a1c : Nat) (Q : QT) (E : ET) (H : Heap) (h : zqw Q E a0 a0l a0c a1 a1l a1c H)   : Does Pr 55 #[(.slice a0 a0l a0c), (.slice a1 a1l a1c)] H Q E :=
  Fn_of_vc (fn := Try.f55) (c := zqw_p0) (args := [(.slice a0 a0l a0c), (.slice a1 a1l a1c)]) mixed (by kernel_rfl) (by kernel_rfl) (by kernel_rfl) (by kernel_rfl) (by kernel_rfl) ((conv (B := vc Pr zqw_p0 (argT [(.slice a0 a0l a0c), (.slice a1 a1l a1c)]) (zqw_q1 Q E) E H) (by kernel_rfl) (vc_seq (K := (zqw_28_M Q E)) (conv (B := vc Pr (sA zqw_p0) (argT [(.slice a0 a0l a0c), (.slice a1 a1l a1c)]) (xthen (zqw_28_M Q E) (zqw_q1 Q E)) E H) (by kernel_rfl) h) (zqw_30ok Q E))))

/-! jobmux/jobmuxref09.then -/
noncomputable def zqx_q1 (Q : QT) (E : ET) : XT := (retQ Pr (Try.f84).results.toList Q)

noncomputable def zqx_p2 : Code := sB (sB (bodyOf Try.f84))

def zqx_1 (Q : QT) (E : ET) (x5 : OA) (l5 c5 : Nat) (H : Heap) : Prop :=
 Q (.slice x5 l5 c5) H

def zqx_1_M  (τ : Tau) (H : Heap) : Prop := mSl (τ 5) fun x5 l5 c5 => zqx_1 Q E x5 l5 c5 H

theorem zqx_2ok  : Ok Pr (zqx_1_M Q E) (sB zqx_p2) (zqx_q1 Q E) E := fun τ H h =>
  wSl 5 h (fun x5 l5 c5 h => (conv (by kernel_rfl) h))

noncomputable def zqx_q2  : XT := (xthen (zqx_1_M Q E) (zqx_q1 Q E))

noncomputable def zqx_p6 : Code := sI (sB (sA zqx_p2))

noncomputable def zqx_q4 (nx32 : Int → HP) : XT := (xthen (fun τ H => mI .i64 (τ 6) fun x6' => nx32 x6' H) (xblock 0 (zqx_q2 Q E)))

noncomputable def zqx_p8 : Code := sB (sI zqx_p6)

def zqx_3 (nx32 : Int → HP) (Q : QT) (E : ET) (x0 : OA) (l0 c0 : Nat) (x1 : OA) (l1 c1 : Nat) (x5 : OA) (l5 c5 : Nat) (x6 : Int) (H : Heap) : Prop :=
 nx32 (IntKind.wrap .i64 (x6 + 1)) H

def zqx_3_M (nx32 : Int → HP) (τ : Tau) (H : Heap) : Prop := mSl (τ 0) fun x0 l0 c0 => mSl (τ 1) fun x1 l1 c1 => mSl (τ 5) fun x5 l5 c5 => mI .i64 (τ 6) fun x6 => zqx_3 nx32 Q E x0 l0 c0 x1 l1 c1 x5 l5 c5 x6 H

theorem zqx_4ok (nx32 : Int → HP) : Ok Pr (zqx_3_M Q E nx32) (sB zqx_p8) (zqx_q4 Q E nx32) E := fun τ H h =>
  wSl 0 h (fun x0 l0 c0 h => wSl 1 h (fun x1 l1 c1 h => wSl 5 h (fun x5 l5 c5 h => wI 6 h (fun x6 h => (conv (by kernel_rfl) h)))))

noncomputable def zqx_q6 (nx32 : Int → HP) : XT := (xblock 1 (xthen (zqx_3_M Q E nx32) (zqx_q4 Q E nx32)))

noncomputable def zqx_p13 : Code := sI (sB (sI (sA zqx_p8)))

noncomputable def zqx_q8 (nx32 : Int → HP) (nx59 : Int → HP) : XT := (xthen (fun τ H => mI .i64 (τ 7) fun x7' => nx59 x7' H) (xblock 2 (zqx_q6 Q E nx32)))

noncomputable def zqx_p15 : Code := sB (sI zqx_p13)

def zqx_5 (nx32 : Int → HP) (nx59 : Int → HP) (Q : QT) (E : ET) (x0 : OA) (l0 c0 : Nat) (x1 : OA) (l1 c1 : Nat) (x5 : OA) (l5 c5 : Nat) (x6 x7 : Int) (H : Heap) : Prop :=
 nx59 (IntKind.wrap .i64 (x7 + 1)) H

def zqx_5_M (nx32 : Int → HP) (nx59 : Int → HP) (τ : Tau) (H : Heap) : Prop := mSl (τ 0) fun x0 l0 c0 => mSl (τ 1) fun x1 l1 c1 => mSl (τ 5) fun x5 l5 c5 => mI .i64 (τ 6) fun x6 => mI .i64 (τ 7) fun x7 => zqx_5 nx32 nx59 Q E x0 l0 c0 x1 l1 c1 x5 l5 c5 x6 x7 H

theorem zqx_6ok (nx32 : Int → HP) (nx59 : Int → HP) : Ok Pr (zqx_5_M Q E nx32 nx59) (sB zqx_p15) (zqx_q8 Q E nx32 nx59) E := fun τ H h =>
  wSl 0 h (fun x0 l0 c0 h => wSl 1 h (fun x1 l1 c1 h => wSl 5 h (fun x5 l5 c5 h => wI 6 h (fun x6 h => wI 7 h (fun x7 h => (conv (by kernel_rfl) h))))))

noncomputable def zqx_q9 (nx32 : Int → HP) (nx59 : Int → HP) : XT := (xthen (zqx_5_M Q E nx32 nx59) (zqx_q8 Q E nx32 nx59))

noncomputable def zqx_p19 : Code := sB (sI (sA zqx_p15))

noncomputable def zqx_q12 (nx32 : Int → HP) (nx59 : Int → HP) (nx86 : Int → HP) : XT := (xthen (fun τ H => mI .i64 (τ 8) fun x8' => nx86 x8' H) (xblock 4 (xblock 3 (zqx_q9 Q E nx32 nx59))))

noncomputable def zqx_p22 : Code := sB (sI (sI zqx_p19))

def zqx_7 (nx32 : Int → HP) (nx59 : Int → HP) (nx86 : Int → HP) (Q : QT) (E : ET) (x0 : OA) (l0 c0 : Nat) (x1 : OA) (l1 c1 : Nat) (x5 : OA) (l5 c5 : Nat) (x6 x7 x8 : Int) (H : Heap) : Prop :=
 nx86 (IntKind.wrap .i64 (x8 + 1)) H

def zqx_7_M (nx32 : Int → HP) (nx59 : Int → HP) (nx86 : Int → HP) (τ : Tau) (H : Heap) : Prop := mSl (τ 0) fun x0 l0 c0 => mSl (τ 1) fun x1 l1 c1 => mSl (τ 5) fun x5 l5 c5 => mI .i64 (τ 6) fun x6 => mI .i64 (τ 7) fun x7 => mI .i64 (τ 8) fun x8 => zqx_7 nx32 nx59 nx86 Q E x0 l0 c0 x1 l1 c1 x5 l5 c5 x6 x7 x8 H

theorem zqx_8ok (nx32 : Int → HP) (nx59 : Int → HP) (nx86 : Int → HP) : Ok Pr (zqx_7_M Q E nx32 nx59 nx86) (sB zqx_p22) (zqx_q12 Q E nx32 nx59 nx86) E := fun τ H h =>
  wSl 0 h (fun x0 l0 c0 h => wSl 1 h (fun x1 l1 c1 h => wSl 5 h (fun x5 l5 c5 h => wI 6 h (fun x6 h => wI 7 h (fun x7 h => wI 8 h (fun x8 h => (conv (by kernel_rfl) h)))))))

noncomputable def zqx_q13 (nx32 : Int → HP) (nx59 : Int → HP) (nx86 : Int → HP) : XT := (xthen (zqx_7_M Q E nx32 nx59 nx86) (zqx_q12 Q E nx32 nx59 nx86))

def zqx_9 (nx32 : Int → HP) (nx59 : Int → HP) (nx86 : Int → HP) (Q : QT) (E : ET) (x0 : OA) (l0 c0 : Nat) (x1 : OA) (l1 c1 : Nat) (x5 : OA) (l5 c5 : Nat) (x6 x7 x8 : Int) (H : Heap) : Prop :=
 (0 ≤ x6 ∧ x6 < (l5 : Int)) ∧ ptr x5 fun q113 =>
 ldSl (Addr.add q113 (x6.toNat * 1)) H fun p114 l115 c116 =>
 (0 ≤ x6 ∧ x6 < (l5 : Int)) ∧ ptr x5 fun q117 =>
 ldSl (Addr.add q117 (x6.toNat * 1)) H fun p118 l119 c120 =>
 (0 ≤ x8 ∧ x8 < (l119 : Int)) ∧ ptr p118 fun q121 =>
 ldB (Addr.add q121 (x8.toNat * 1)) H fun b122 =>
 sel b122
 ((0 ≤ x8 ∧ x8 < (l115 : Int)) ∧ ptr p114 fun q123 =>
 wr (Addr.add q123 (x8.toNat * 1)) [(.bool true)] H fun H124 =>
 zqx_7 nx32 nx59 nx86 Q E x0 l0 c0 x1 l1 c1 x5 l5 c5 x6 x7 x8 H124)
 ((0 ≤ x7 ∧ x7 < (l1 : Int)) ∧ ptr x1 fun q125 =>
 ldSl (Addr.add q125 (x7.toNat * 1)) H fun p126 l127 c128 =>
 (0 ≤ x8 ∧ x8 < (l127 : Int)) ∧ ptr p126 fun q129 =>
 ldB (Addr.add q129 (x8.toNat * 1)) H fun b130 =>
 (0 ≤ x8 ∧ x8 < (l115 : Int)) ∧ ptr p114 fun q131 =>
 wr (Addr.add q131 (x8.toNat * 1)) [(.bool b130)] H fun H132 =>
 zqx_7 nx32 nx59 nx86 Q E x0 l0 c0 x1 l1 c1 x5 l5 c5 x6 x7 x8 H132)

def zqx_9_M (nx32 : Int → HP) (nx59 : Int → HP) (nx86 : Int → HP) (τ : Tau) (H : Heap) : Prop := mSl (τ 0) fun x0 l0 c0 => mSl (τ 1) fun x1 l1 c1 => mSl (τ 5) fun x5 l5 c5 => mI .i64 (τ 6) fun x6 => mI .i64 (τ 7) fun x7 => mI .i64 (τ 8) fun x8 => zqx_9 nx32 nx59 nx86 Q E x0 l0 c0 x1 l1 c1 x5 l5 c5 x6 x7 x8 H

theorem zqx_10ok (nx32 : Int → HP) (nx59 : Int → HP) (nx86 : Int → HP) : Ok Pr (zqx_9_M Q E nx32 nx59 nx86) (sA zqx_p22) (zqx_q13 Q E nx32 nx59 nx86) E := fun τ H h =>
  wSl 0 h (fun x0 l0 c0 h => wSl 1 h (fun x1 l1 c1 h => wSl 5 h (fun x5 l5 c5 h => wI 6 h (fun x6 h => wI 7 h (fun x7 h => wI 8 h (fun x8 h => (conv (by kernel_rfl) h)))))))

theorem zqx_11ok (nx32 : Int → HP) (nx59 : Int → HP) (nx86 : Int → HP) : Ok Pr (zqx_9_M Q E nx32 nx59 nx86) zqx_p22 (zqx_q12 Q E nx32 nx59 nx86) E := fun τ H h =>
  (conv (by kernel_rfl) (vc_seq (K := (zqx_7_M Q E nx32 nx59 nx86)) (zqx_10ok Q E nx32 nx59 nx86 τ H h) (zqx_8ok Q E nx32 nx59 nx86)))

noncomputable def zqx_q14 (nx32 : Int → HP) (nx59 : Int → HP) (nx86 : Int → HP) : XT := (xthen (zqx_9_M Q E nx32 nx59 nx86) (zqx_q12 Q E nx32 nx59 nx86))

noncomputable def zqx_p25 : Code := sA (sI (sI zqx_p19))

def zqx_12 (nx32 : Int → HP) (nx59 : Int → HP) (nx86 : Int → HP) (Q : QT) (E : ET) (x0 : OA) (l0 c0 : Nat) (x1 : OA) (l1 c1 : Nat) (x5 : OA) (l5 c5 : Nat) (x6 x7 x8 : Int) (x36 : Bool) (H : Heap) : Prop :=
 sel x36
 (zqx_9 nx32 nx59 nx86 Q E x0 l0 c0 x1 l1 c1 x5 l5 c5 x6 x7 x8 H)
 (zqx_5 nx32 nx59 Q E x0 l0 c0 x1 l1 c1 x5 l5 c5 x6 x7 H)

def zqx_12_M (nx32 : Int → HP) (nx59 : Int → HP) (nx86 : Int → HP) (τ : Tau) (H : Heap) : Prop := mSl (τ 0) fun x0 l0 c0 => mSl (τ 1) fun x1 l1 c1 => mSl (τ 5) fun x5 l5 c5 => mI .i64 (τ 6) fun x6 => mI .i64 (τ 7) fun x7 => mI .i64 (τ 8) fun x8 => mB (τ 36) fun x36 => zqx_12 nx32 nx59 nx86 Q E x0 l0 c0 x1 l1 c1 x5 l5 c5 x6 x7 x8 x36 H

theorem zqx_13ok (nx32 : Int → HP) (nx59 : Int → HP) (nx86 : Int → HP) : Ok Pr (zqx_12_M Q E nx32 nx59 nx86) (sB zqx_p25) (zqx_q14 Q E nx32 nx59 nx86) E := fun τ H h =>
  wSl 0 h (fun x0 l0 c0 h => wSl 1 h (fun x1 l1 c1 h => wSl 5 h (fun x5 l5 c5 h => wI 6 h (fun x6 h => wI 7 h (fun x7 h => wI 8 h (fun x8 h => wB 36 h (fun x36 h => (conv (by kernel_rfl) h))))))))

noncomputable def zqx_q15 (nx32 : Int → HP) (nx59 : Int → HP) (nx86 : Int → HP) : XT := (xthen (zqx_12_M Q E nx32 nx59 nx86) (zqx_q14 Q E nx32 nx59 nx86))

def zqx_14 (nx32 : Int → HP) (nx59 : Int → HP) (nx86 : Int → HP) (Q : QT) (E : ET) (x0 : OA) (l0 c0 : Nat) (x1 : OA) (l1 c1 : Nat) (x5 : OA) (l5 c5 : Nat) (x6 x7 x8 : Int) (H : Heap) : Prop :=
 sel (decide (x8 < (l0 : Int)))
 ((0 ≤ x6 ∧ x6 < (l0 : Int)) ∧ ptr x0 fun q139 =>
 ldSl (Addr.add q139 (x6.toNat * 1)) H fun p140 l141 c142 =>
 (0 ≤ x7 ∧ x7 < (l141 : Int)) ∧ ptr p140 fun q143 =>
 ldB (Addr.add q143 (x7.toNat * 1)) H fun b144 =>
 zqx_12 nx32 nx59 nx86 Q E x0 l0 c0 x1 l1 c1 x5 l5 c5 x6 x7 x8 b144 H)
 (zqx_12 nx32 nx59 nx86 Q E x0 l0 c0 x1 l1 c1 x5 l5 c5 x6 x7 x8 false H)

def zqx_14_M (nx32 : Int → HP) (nx59 : Int → HP) (nx86 : Int → HP) (τ : Tau) (H : Heap) : Prop := mSl (τ 0) fun x0 l0 c0 => mSl (τ 1) fun x1 l1 c1 => mSl (τ 5) fun x5 l5 c5 => mI .i64 (τ 6) fun x6 => mI .i64 (τ 7) fun x7 => mI .i64 (τ 8) fun x8 => zqx_14 nx32 nx59 nx86 Q E x0 l0 c0 x1 l1 c1 x5 l5 c5 x6 x7 x8 H

theorem zqx_15ok (nx32 : Int → HP) (nx59 : Int → HP) (nx86 : Int → HP) : Ok Pr (zqx_14_M Q E nx32 nx59 nx86) (sA zqx_p25) (zqx_q15 Q E nx32 nx59 nx86) E := fun τ H h =>
  wSl 0 h (fun x0 l0 c0 h => wSl 1 h (fun x1 l1 c1 h => wSl 5 h (fun x5 l5 c5 h => wI 6 h (fun x6 h => wI 7 h (fun x7 h => wI 8 h (fun x8 h => (conv (by kernel_rfl) h)))))))

theorem zqx_16ok (nx32 : Int → HP) (nx59 : Int → HP) (nx86 : Int → HP) : Ok Pr (zqx_14_M Q E nx32 nx59 nx86) zqx_p25 (zqx_q14 Q E nx32 nx59 nx86) E := fun τ H h =>
  (conv (by kernel_rfl) (vc_seq (K := (zqx_12_M Q E nx32 nx59 nx86)) (zqx_15ok Q E nx32 nx59 nx86 τ H h) (zqx_13ok Q E nx32 nx59 nx86)))

theorem zqx_17ok (nx32 : Int → HP) (nx59 : Int → HP) (nx86 : Int → HP) : Ok Pr (zqx_14_M Q E nx32 nx59 nx86) (sI (sI zqx_p19)) (zqx_q12 Q E nx32 nx59 nx86) E := fun τ H h =>
  (conv (by kernel_rfl) (vc_seq (K := (zqx_9_M Q E nx32 nx59 nx86)) (zqx_16ok Q E nx32 nx59 nx86 τ H h) (zqx_11ok Q E nx32 nx59 nx86)))

def zqx_18 (nx32 : Int → HP) (nx59 : Int → HP) (Q : QT) (E : ET) (x0 : OA) (l0 c0 : Nat) (x1 : OA) (l1 c1 : Nat) (x5 : OA) (l5 c5 : Nat) (x6 x7 x8 : Int) (H : Heap) : Prop :=
 ∃ (I : Int → HP) (μ : Int → Heap → Nat), I x8 H ∧ ∀ (x8 : Int) (H : Heap), I x8 H →
 zqx_14 nx32 nx59 (fun x8' H1 => I x8' H1 ∧ μ x8' H1 < μ x8 H) Q E x0 l0 c0 x1 l1 c1 x5 l5 c5 x6 x7 x8 H

def zqx_18_M (nx32 : Int → HP) (nx59 : Int → HP) (τ : Tau) (H : Heap) : Prop := mSl (τ 0) fun x0 l0 c0 => mSl (τ 1) fun x1 l1 c1 => mSl (τ 5) fun x5 l5 c5 => mI .i64 (τ 6) fun x6 => mI .i64 (τ 7) fun x7 => mI .i64 (τ 8) fun x8 => zqx_18 nx32 nx59 Q E x0 l0 c0 x1 l1 c1 x5 l5 c5 x6 x7 x8 H

theorem zqx_19ok (nx32 : Int → HP) (nx59 : Int → HP) : Ok Pr (zqx_18_M Q E nx32 nx59) (sI zqx_p19) (xblock 4 (xblock 3 (zqx_q9 Q E nx32 nx59))) E := fun τ H h =>
  wSl 0 h (fun x0 l0 c0 h => wSl 1 h (fun x1 l1 c1 h => wSl 5 h (fun x5 l5 c5 h => wI 6 h (fun x6 h => wI 7 h (fun x7 h => wI 8 h (fun x8 h => match h with | ⟨I, μ, h0, hr⟩ => (conv (by kernel_rfl) (vc_loopG (c := sI (sI zqx_p19)) (τ := (Tau.upd (Tau.upd (Tau.upd (Tau.upd (Tau.upd (Tau.upd τ 0 (.slice x0 l0 c0)) 1 (.slice x1 l1 c1)) 5 (.slice x5 l5 c5)) 6 (.int .i64 x6)) 7 (.int .i64 x7)) 8 (.int .i64 x8))) [0, 1, 5, 6, 7] (fun τ H => mI .i64 (τ 8) fun x8' => I x8' H) (fun τ H => μ (gI (τ 8)) H) (by kernel_rfl) h0 (fun τ1 H1 hf hI => uF 0 (.slice x0 l0 c0) (hf 0 (by simp)) (uF 1 (.slice x1 l1 c1) (hf 1 (by simp)) (uF 5 (.slice x5 l5 c5) (hf 5 (by simp)) (uF 6 (.int .i64 x6) (hf 6 (by simp)) (uF 7 (.int .i64 x7) (hf 7 (by simp)) (uI 8 hI (fun x8r h => lgx (zqx_17ok Q E nx32 nx59 (fun x8' H2 => I x8' H2 ∧ μ x8' H2 < μ x8r H1) (Tau.upd (Tau.upd (Tau.upd (Tau.upd (Tau.upd (Tau.upd τ1 0 (.slice x0 l0 c0)) 1 (.slice x1 l1 c1)) 5 (.slice x5 l5 c5)) 6 (.int .i64 x6)) 7 (.int .i64 x7)) 8 (.int .i64 x8r)) H1 (conv (by kernel_rfl) (hr x8r H1 h))) (fun τ2 H2 hk => kI 8 hk (fun x8' h => conv (by kernel_rfl) h)))))))))))))))))

theorem zqx_20ok (nx32 : Int → HP) (nx59 : Int → HP) : Ok Pr (zqx_18_M Q E nx32 nx59) zqx_p19 (xblock 3 (zqx_q9 Q E nx32 nx59)) E := fun τ H h =>
  (conv (by kernel_rfl) (zqx_19ok Q E nx32 nx59 τ H h))

noncomputable def zqx_q16 (nx32 : Int → HP) (nx59 : Int → HP) : XT := (xthen (zqx_18_M Q E nx32 nx59) (xblock 3 (zqx_q9 Q E nx32 nx59)))

def zqx_21 (nx32 : Int → HP) (nx59 : Int → HP) (Q : QT) (E : ET) (x0 : OA) (l0 c0 : Nat) (x1 : OA) (l1 c1 : Nat) (x5 : OA) (l5 c5 : Nat) (x6 x7 : Int) (H : Heap) : Prop :=
 zqx_18 nx32 nx59 Q E x0 l0 c0 x1 l1 c1 x5 l5 c5 x6 x7 0 H

def zqx_21_M (nx32 : Int → HP) (nx59 : Int → HP) (τ : Tau) (H : Heap) : Prop := mSl (τ 0) fun x0 l0 c0 => mSl (τ 1) fun x1 l1 c1 => mSl (τ 5) fun x5 l5 c5 => mI .i64 (τ 6) fun x6 => mI .i64 (τ 7) fun x7 => zqx_21 nx32 nx59 Q E x0 l0 c0 x1 l1 c1 x5 l5 c5 x6 x7 H

theorem zqx_22ok (nx32 : Int → HP) (nx59 : Int → HP) : Ok Pr (zqx_21_M Q E nx32 nx59) (sA (sI (sA zqx_p15))) (zqx_q16 Q E nx32 nx59) E := fun τ H h =>
  wSl 0 h (fun x0 l0 c0 h => wSl 1 h (fun x1 l1 c1 h => wSl 5 h (fun x5 l5 c5 h => wI 6 h (fun x6 h => wI 7 h (fun x7 h => (conv (by kernel_rfl) h))))))

theorem zqx_23ok (nx32 : Int → HP) (nx59 : Int → HP) : Ok Pr (zqx_21_M Q E nx32 nx59) (sI (sA zqx_p15)) (xblock 3 (zqx_q9 Q E nx32 nx59)) E := fun τ H h =>
  (conv (by kernel_rfl) (vc_seq (K := (zqx_18_M Q E nx32 nx59)) (zqx_22ok Q E nx32 nx59 τ H h) (zqx_20ok Q E nx32 nx59)))

theorem zqx_24ok (nx32 : Int → HP) (nx59 : Int → HP) : Ok Pr (zqx_21_M Q E nx32 nx59) (sA zqx_p15) (zqx_q9 Q E nx32 nx59) E := fun τ H h =>
  (conv (by kernel_rfl) (zqx_23ok Q E nx32 nx59 τ H h))

theorem zqx_25ok (nx32 : Int → HP) (nx59 : Int → HP) : Ok Pr (zqx_21_M Q E nx32 nx59) zqx_p15 (zqx_q8 Q E nx32 nx59) E := fun τ H h =>
  (conv (by kernel_rfl) (vc_seq (K := (zqx_5_M Q E nx32 nx59)) (zqx_24ok Q E nx32 nx59 τ H h) (zqx_6ok Q E nx32 nx59)))

noncomputable def zqx_q17 (nx32 : Int → HP) (nx59 : Int → HP) : XT := (xthen (zqx_21_M Q E nx32 nx59) (zqx_q8 Q E nx32 nx59))

def zqx_26 (nx32 : Int → HP) (nx59 : Int → HP) (Q : QT) (E : ET) (x0 : OA) (l0 c0 : Nat) (x1 : OA) (l1 c1 : Nat) (x5 : OA) (l5 c5 : Nat) (x6 x7 : Int) (H : Heap) : Prop :=
 sel (decide (x7 < (l0 : Int)))
 (zqx_21 nx32 nx59 Q E x0 l0 c0 x1 l1 c1 x5 l5 c5 x6 x7 H)
 (zqx_3 nx32 Q E x0 l0 c0 x1 l1 c1 x5 l5 c5 x6 H)

def zqx_26_M (nx32 : Int → HP) (nx59 : Int → HP) (τ : Tau) (H : Heap) : Prop := mSl (τ 0) fun x0 l0 c0 => mSl (τ 1) fun x1 l1 c1 => mSl (τ 5) fun x5 l5 c5 => mI .i64 (τ 6) fun x6 => mI .i64 (τ 7) fun x7 => zqx_26 nx32 nx59 Q E x0 l0 c0 x1 l1 c1 x5 l5 c5 x6 x7 H

theorem zqx_27ok (nx32 : Int → HP) (nx59 : Int → HP) : Ok Pr (zqx_26_M Q E nx32 nx59) (sA (sI zqx_p13)) (zqx_q17 Q E nx32 nx59) E := fun τ H h =>
  wSl 0 h (fun x0 l0 c0 h => wSl 1 h (fun x1 l1 c1 h => wSl 5 h (fun x5 l5 c5 h => wI 6 h (fun x6 h => wI 7 h (fun x7 h => (conv (by kernel_rfl) h))))))

theorem zqx_28ok (nx32 : Int → HP) (nx59 : Int → HP) : Ok Pr (zqx_26_M Q E nx32 nx59) (sI zqx_p13) (zqx_q8 Q E nx32 nx59) E := fun τ H h =>
  (conv (by kernel_rfl) (vc_seq (K := (zqx_21_M Q E nx32 nx59)) (zqx_27ok Q E nx32 nx59 τ H h) (zqx_25ok Q E nx32 nx59)))

def zqx_29 (nx32 : Int → HP) (Q : QT) (E : ET) (x0 : OA) (l0 c0 : Nat) (x1 : OA) (l1 c1 : Nat) (x5 : OA) (l5 c5 : Nat) (x6 x7 : Int) (H : Heap) : Prop :=
 ∃ (I : Int → HP) (μ : Int → Heap → Nat), I x7 H ∧ ∀ (x7 : Int) (H : Heap), I x7 H →
 zqx_26 nx32 (fun x7' H1 => I x7' H1 ∧ μ x7' H1 < μ x7 H) Q E x0 l0 c0 x1 l1 c1 x5 l5 c5 x6 x7 H

def zqx_29_M (nx32 : Int → HP) (τ : Tau) (H : Heap) : Prop := mSl (τ 0) fun x0 l0 c0 => mSl (τ 1) fun x1 l1 c1 => mSl (τ 5) fun x5 l5 c5 => mI .i64 (τ 6) fun x6 => mI .i64 (τ 7) fun x7 => zqx_29 nx32 Q E x0 l0 c0 x1 l1 c1 x5 l5 c5 x6 x7 H

theorem zqx_30ok (nx32 : Int → HP) : Ok Pr (zqx_29_M Q E nx32) zqx_p13 (xblock 2 (zqx_q6 Q E nx32)) E := fun τ H h =>
  wSl 0 h (fun x0 l0 c0 h => wSl 1 h (fun x1 l1 c1 h => wSl 5 h (fun x5 l5 c5 h => wI 6 h (fun x6 h => wI 7 h (fun x7 h => match h with | ⟨I, μ, h0, hr⟩ => (conv (by kernel_rfl) (vc_loopG (c := sI zqx_p13) (τ := (Tau.upd (Tau.upd (Tau.upd (Tau.upd (Tau.upd τ 0 (.slice x0 l0 c0)) 1 (.slice x1 l1 c1)) 5 (.slice x5 l5 c5)) 6 (.int .i64 x6)) 7 (.int .i64 x7))) [0, 1, 5, 6] (fun τ H => mI .i64 (τ 7) fun x7' => I x7' H) (fun τ H => μ (gI (τ 7)) H) (by kernel_rfl) h0 (fun τ1 H1 hf hI => uF 0 (.slice x0 l0 c0) (hf 0 (by simp)) (uF 1 (.slice x1 l1 c1) (hf 1 (by simp)) (uF 5 (.slice x5 l5 c5) (hf 5 (by simp)) (uF 6 (.int .i64 x6) (hf 6 (by simp)) (uI 7 hI (fun x7r h => lgx (zqx_28ok Q E nx32 (fun x7' H2 => I x7' H2 ∧ μ x7' H2 < μ x7r H1) (Tau.upd (Tau.upd (Tau.upd (Tau.upd (Tau.upd τ1 0 (.slice x0 l0 c0)) 1 (.slice x1 l1 c1)) 5 (.slice x5 l5 c5)) 6 (.int .i64 x6)) 7 (.int .i64 x7r)) H1 (conv (by kernel_rfl) (hr x7r H1 h))) (fun τ2 H2 hk => kI 7 hk (fun x7' h => conv (by kernel_rfl) h)))))))))))))))

theorem zqx_31ok (nx32 : Int → HP) : Ok Pr (zqx_29_M Q E nx32) (sB (sI (sA zqx_p8))) (zqx_q6 Q E nx32) E := fun τ H h =>
  (conv (by kernel_rfl) (zqx_30ok Q E nx32 τ H h))

noncomputable def zqx_q18 (nx32 : Int → HP) : XT := (xthen (zqx_29_M Q E nx32) (zqx_q6 Q E nx32))

def zqx_32 (nx32 : Int → HP) (Q : QT) (E : ET) (x0 : OA) (l0 c0 : Nat) (x1 : OA) (l1 c1 : Nat) (x5 : OA) (l5 c5 : Nat) (x6 : Int) (H : Heap) : Prop :=
 zqx_29 nx32 Q E x0 l0 c0 x1 l1 c1 x5 l5 c5 x6 0 H

def zqx_32_M (nx32 : Int → HP) (τ : Tau) (H : Heap) : Prop := mSl (τ 0) fun x0 l0 c0 => mSl (τ 1) fun x1 l1 c1 => mSl (τ 5) fun x5 l5 c5 => mI .i64 (τ 6) fun x6 => zqx_32 nx32 Q E x0 l0 c0 x1 l1 c1 x5 l5 c5 x6 H

theorem zqx_33ok (nx32 : Int → HP) : Ok Pr (zqx_32_M Q E nx32) (sA (sI (sA zqx_p8))) (zqx_q18 Q E nx32) E := fun τ H h =>
  wSl 0 h (fun x0 l0 c0 h => wSl 1 h (fun x1 l1 c1 h => wSl 5 h (fun x5 l5 c5 h => wI 6 h (fun x6 h => (conv (by kernel_rfl) h)))))

theorem zqx_34ok (nx32 : Int → HP) : Ok Pr (zqx_32_M Q E nx32) (sI (sA zqx_p8)) (zqx_q6 Q E nx32) E := fun τ H h =>
  (conv (by kernel_rfl) (vc_seq (K := (zqx_29_M Q E nx32)) (zqx_33ok Q E nx32 τ H h) (zqx_31ok Q E nx32)))

theorem zqx_35ok (nx32 : Int → HP) : Ok Pr (zqx_32_M Q E nx32) (sA zqx_p8) (xthen (zqx_3_M Q E nx32) (zqx_q4 Q E nx32)) E := fun τ H h =>
  (conv (by kernel_rfl) (zqx_34ok Q E nx32 τ H h))

theorem zqx_36ok (nx32 : Int → HP) : Ok Pr (zqx_32_M Q E nx32) zqx_p8 (zqx_q4 Q E nx32) E := fun τ H h =>
  (conv (by kernel_rfl) (vc_seq (K := (zqx_3_M Q E nx32)) (zqx_35ok Q E nx32 τ H h) (zqx_4ok Q E nx32)))

noncomputable def zqx_q19 (nx32 : Int → HP) : XT := (xthen (zqx_32_M Q E nx32) (zqx_q4 Q E nx32))

def zqx_37 (nx32 : Int → HP) (Q : QT) (E : ET) (x0 : OA) (l0 c0 : Nat) (x1 : OA) (l1 c1 : Nat) (x5 : OA) (l5 c5 : Nat) (x6 : Int) (H : Heap) : Prop :=
 sel (decide (x6 < (l0 : Int)))
 (zqx_32 nx32 Q E x0 l0 c0 x1 l1 c1 x5 l5 c5 x6 H)
 (zqx_1 Q E x5 l5 c5 H)

def zqx_37_M (nx32 : Int → HP) (τ : Tau) (H : Heap) : Prop := mSl (τ 0) fun x0 l0 c0 => mSl (τ 1) fun x1 l1 c1 => mSl (τ 5) fun x5 l5 c5 => mI .i64 (τ 6) fun x6 => zqx_37 nx32 Q E x0 l0 c0 x1 l1 c1 x5 l5 c5 x6 H

theorem zqx_38ok (nx32 : Int → HP) : Ok Pr (zqx_37_M Q E nx32) (sA (sI zqx_p6)) (zqx_q19 Q E nx32) E := fun τ H h =>
  wSl 0 h (fun x0 l0 c0 h => wSl 1 h (fun x1 l1 c1 h => wSl 5 h (fun x5 l5 c5 h => wI 6 h (fun x6 h => (conv (by kernel_rfl) h)))))

theorem zqx_39ok (nx32 : Int → HP) : Ok Pr (zqx_37_M Q E nx32) (sI zqx_p6) (zqx_q4 Q E nx32) E := fun τ H h =>
  (conv (by kernel_rfl) (vc_seq (K := (zqx_32_M Q E nx32)) (zqx_38ok Q E nx32 τ H h) (zqx_36ok Q E nx32)))

def zqx_40 (Q : QT) (E : ET) (x0 : OA) (l0 c0 : Nat) (x1 : OA) (l1 c1 : Nat) (x5 : OA) (l5 c5 : Nat) (x6 : Int) (H : Heap) : Prop :=
 ∃ (I : Int → HP) (μ : Int → Heap → Nat), I x6 H ∧ ∀ (x6 : Int) (H : Heap), I x6 H →
 zqx_37 (fun x6' H1 => I x6' H1 ∧ μ x6' H1 < μ x6 H) Q E x0 l0 c0 x1 l1 c1 x5 l5 c5 x6 H

def zqx_40_M  (τ : Tau) (H : Heap) : Prop := mSl (τ 0) fun x0 l0 c0 => mSl (τ 1) fun x1 l1 c1 => mSl (τ 5) fun x5 l5 c5 => mI .i64 (τ 6) fun x6 => zqx_40 Q E x0 l0 c0 x1 l1 c1 x5 l5 c5 x6 H

theorem zqx_41ok  : Ok Pr (zqx_40_M Q E) zqx_p6 (xblock 0 (zqx_q2 Q E)) E := fun τ H h =>
  wSl 0 h (fun x0 l0 c0 h => wSl 1 h (fun x1 l1 c1 h => wSl 5 h (fun x5 l5 c5 h => wI 6 h (fun x6 h => match h with | ⟨I, μ, h0, hr⟩ => (conv (by kernel_rfl) (vc_loopG (c := sI zqx_p6) (τ := (Tau.upd (Tau.upd (Tau.upd (Tau.upd τ 0 (.slice x0 l0 c0)) 1 (.slice x1 l1 c1)) 5 (.slice x5 l5 c5)) 6 (.int .i64 x6))) [0, 1, 5] (fun τ H => mI .i64 (τ 6) fun x6' => I x6' H) (fun τ H => μ (gI (τ 6)) H) (by kernel_rfl) h0 (fun τ1 H1 hf hI => uF 0 (.slice x0 l0 c0) (hf 0 (by simp)) (uF 1 (.slice x1 l1 c1) (hf 1 (by simp)) (uF 5 (.slice x5 l5 c5) (hf 5 (by simp)) (uI 6 hI (fun x6r h => lgx (zqx_39ok Q E (fun x6' H2 => I x6' H2 ∧ μ x6' H2 < μ x6r H1) (Tau.upd (Tau.upd (Tau.upd (Tau.upd τ1 0 (.slice x0 l0 c0)) 1 (.slice x1 l1 c1)) 5 (.slice x5 l5 c5)) 6 (.int .i64 x6r)) H1 (conv (by kernel_rfl) (hr x6r H1 h))) (fun τ2 H2 hk => kI 6 hk (fun x6' h => conv (by kernel_rfl) h)))))))))))))

theorem zqx_42ok  : Ok Pr (zqx_40_M Q E) (sB (sA zqx_p2)) (zqx_q2 Q E) E := fun τ H h =>
  (conv (by kernel_rfl) (zqx_41ok Q E τ H h))

noncomputable def zqx_q20  : XT := (xthen (zqx_40_M Q E) (zqx_q2 Q E))

def zqx_43 (Q : QT) (E : ET) (x0 : OA) (l0 c0 : Nat) (x1 : OA) (l1 c1 : Nat) (x5 : OA) (l5 c5 : Nat) (H : Heap) : Prop :=
 zqx_40 Q E x0 l0 c0 x1 l1 c1 x5 l5 c5 0 H

def zqx_43_M  (τ : Tau) (H : Heap) : Prop := mSl (τ 0) fun x0 l0 c0 => mSl (τ 1) fun x1 l1 c1 => mSl (τ 5) fun x5 l5 c5 => zqx_43 Q E x0 l0 c0 x1 l1 c1 x5 l5 c5 H

theorem zqx_44ok  : Ok Pr (zqx_43_M Q E) (sA (sA zqx_p2)) (zqx_q20 Q E) E := fun τ H h =>
  wSl 0 h (fun x0 l0 c0 h => wSl 1 h (fun x1 l1 c1 h => wSl 5 h (fun x5 l5 c5 h => (conv (by kernel_rfl) h))))

theorem zqx_45ok  : Ok Pr (zqx_43_M Q E) (sA zqx_p2) (zqx_q2 Q E) E := fun τ H h =>
  (conv (by kernel_rfl) (vc_seq (K := (zqx_40_M Q E)) (zqx_44ok Q E τ H h) (zqx_42ok Q E)))

theorem zqx_46ok  : Ok Pr (zqx_43_M Q E) zqx_p2 (zqx_q1 Q E) E := fun τ H h =>
  (conv (by kernel_rfl) (vc_seq (K := (zqx_1_M Q E)) (zqx_45ok Q E τ H h) (zqx_2ok Q E)))

noncomputable def zqx_q21  : XT := (xthen (zqx_43_M Q E) (zqx_q1 Q E))

def zqx_47 (Q : QT) (E : ET) (x0 : OA) (l0 c0 : Nat) (x1 : OA) (l1 c1 : Nat) (H : Heap) : Prop :=
 Does Pr 99 #[(.int .i64 (l0 : Int))] H (fun v145 H146 =>
 ∃ (p147 : OA) (l148 c149 : Nat), v145 = (.slice p147 l148 c149) ∧ zqx_43 Q E x0 l0 c0 x1 l1 c1 p147 l148 c149 H146) E

def zqx_47_M  (τ : Tau) (H : Heap) : Prop := mSl (τ 0) fun x0 l0 c0 => mSl (τ 1) fun x1 l1 c1 => zqx_47 Q E x0 l0 c0 x1 l1 c1 H

theorem zqx_48ok  : Ok Pr (zqx_47_M Q E) (sA (sB (bodyOf Try.f84))) (zqx_q21 Q E) E := fun τ H h =>
  wSl 0 h (fun x0 l0 c0 h => wSl 1 h (fun x1 l1 c1 h => (conv (by kernel_rfl) h)))

theorem zqx_49ok  : Ok Pr (zqx_47_M Q E) (sB (bodyOf Try.f84)) (zqx_q1 Q E) E := fun τ H h =>
  (conv (by kernel_rfl) (vc_seq (K := (zqx_43_M Q E)) (zqx_48ok Q E τ H h) (zqx_46ok Q E)))

def zqx (Q : QT) (E : ET) (a0 : OA) (a0l : Nat) (a0c : Nat) (a1 : OA) (a1l : Nat) (a1c : Nat) (H : Heap) : Prop :=
 zqx_47 Q E a0 a0l a0c a1 a1l a1c H

theorem zqx_fn (a0 : OA) (a0l : Nat) (a0c : Nat) (a1 : OA) (a1l : Nat) (a1c : Nat) (Q : QT) (E : ET) (H : Heap) (h : zqx Q E a0 a0l a0c a1 a1l a1c H)   : Does Pr 84 #[(.slice a0 a0l a0c), (.slice a1 a1l a1c)] H Q E :=
  Fn_of_vc (fn := Try.f84) (c := (bodyOf Try.f84)) (args := [(.slice a0 a0l a0c), (.slice a1 a1l a1c)]) mixed (by kernel_rfl) (by kernel_rfl) (by kernel_rfl) (by kernel_rfl) (by kernel_rfl) ((conv (B := vc Pr (bodyOf Try.f84) (argT [(.slice a0 a0l a0c), (.slice a1 a1l a1c)]) (zqx_q1 Q E) E H) (by kernel_rfl) (vc_seq (K := (zqx_47_M Q E)) (conv (B := vc Pr (sA (bodyOf Try.f84)) (argT [(.slice a0 a0l a0c), (.slice a1 a1l a1c)]) (xthen (zqx_47_M Q E) (zqx_q1 Q E)) E H) (by kernel_rfl) h) (zqx_49ok Q E))))

/-! jobmux/jobmuxref09.both -/
noncomputable def zqy_q1 (Q : QT) (E : ET) : XT := (retQ Pr (Try.f85).results.toList Q)

noncomputable def zqy_p2 : Code := sB (sB (bodyOf Try.f85))

def zqy_1 (Q : QT) (E : ET) (x5 : OA) (l5 c5 : Nat) (H : Heap) : Prop :=
 Q (.slice x5 l5 c5) H

def zqy_1_M  (τ : Tau) (H : Heap) : Prop := mSl (τ 5) fun x5 l5 c5 => zqy_1 Q E x5 l5 c5 H

theorem zqy_2ok  : Ok Pr (zqy_1_M Q E) (sB zqy_p2) (zqy_q1 Q E) E := fun τ H h =>
  wSl 5 h (fun x5 l5 c5 h => (conv (by kernel_rfl) h))

noncomputable def zqy_q2  : XT := (xthen (zqy_1_M Q E) (zqy_q1 Q E))

noncomputable def zqy_p6 : Code := sI (sB (sA zqy_p2))

noncomputable def zqy_q4 (nx26 : Int → HP) : XT := (xthen (fun τ H => mI .i64 (τ 6) fun x6' => nx26 x6' H) (xblock 0 (zqy_q2 Q E)))

noncomputable def zqy_p8 : Code := sB (sI zqy_p6)

def zqy_3 (nx26 : Int → HP) (Q : QT) (E : ET) (x0 : OA) (l0 c0 : Nat) (x1 : OA) (l1 c1 : Nat) (x5 : OA) (l5 c5 : Nat) (x6 : Int) (H : Heap) : Prop :=
 nx26 (IntKind.wrap .i64 (x6 + 1)) H

def zqy_3_M (nx26 : Int → HP) (τ : Tau) (H : Heap) : Prop := mSl (τ 0) fun x0 l0 c0 => mSl (τ 1) fun x1 l1 c1 => mSl (τ 5) fun x5 l5 c5 => mI .i64 (τ 6) fun x6 => zqy_3 nx26 Q E x0 l0 c0 x1 l1 c1 x5 l5 c5 x6 H

theorem zqy_4ok (nx26 : Int → HP) : Ok Pr (zqy_3_M Q E nx26) (sB zqy_p8) (zqy_q4 Q E nx26) E := fun τ H h =>
  wSl 0 h (fun x0 l0 c0 h => wSl 1 h (fun x1 l1 c1 h => wSl 5 h (fun x5 l5 c5 h => wI 6 h (fun x6 h => (conv (by kernel_rfl) h)))))

noncomputable def zqy_q6 (nx26 : Int → HP) : XT := (xblock 1 (xthen (zqy_3_M Q E nx26) (zqy_q4 Q E nx26)))

noncomputable def zqy_p13 : Code := sI (sB (sI (sA zqy_p8)))

noncomputable def zqy_q8 (nx26 : Int → HP) (nx47 : Int → HP) : XT := (xthen (fun τ H => mI .i64 (τ 7) fun x7' => nx47 x7' H) (xblock 2 (zqy_q6 Q E nx26)))

noncomputable def zqy_p15 : Code := sB (sI zqy_p13)

def zqy_5 (nx26 : Int → HP) (nx47 : Int → HP) (Q : QT) (E : ET) (x0 : OA) (l0 c0 : Nat) (x1 : OA) (l1 c1 : Nat) (x5 : OA) (l5 c5 : Nat) (x6 x7 : Int) (H : Heap) : Prop :=
 nx47 (IntKind.wrap .i64 (x7 + 1)) H

def zqy_5_M (nx26 : Int → HP) (nx47 : Int → HP) (τ : Tau) (H : Heap) : Prop := mSl (τ 0) fun x0 l0 c0 => mSl (τ 1) fun x1 l1 c1 => mSl (τ 5) fun x5 l5 c5 => mI .i64 (τ 6) fun x6 => mI .i64 (τ 7) fun x7 => zqy_5 nx26 nx47 Q E x0 l0 c0 x1 l1 c1 x5 l5 c5 x6 x7 H

theorem zqy_6ok (nx26 : Int → HP) (nx47 : Int → HP) : Ok Pr (zqy_5_M Q E nx26 nx47) (sB zqy_p15) (zqy_q8 Q E nx26 nx47) E := fun τ H h =>
  wSl 0 h (fun x0 l0 c0 h => wSl 1 h (fun x1 l1 c1 h => wSl 5 h (fun x5 l5 c5 h => wI 6 h (fun x6 h => wI 7 h (fun x7 h => (conv (by kernel_rfl) h))))))

noncomputable def zqy_q9 (nx26 : Int → HP) (nx47 : Int → HP) : XT := (xthen (zqy_5_M Q E nx26 nx47) (zqy_q8 Q E nx26 nx47))

def zqy_7 (nx26 : Int → HP) (nx47 : Int → HP) (Q : QT) (E : ET) (x0 : OA) (l0 c0 : Nat) (x1 : OA) (l1 c1 : Nat) (x5 : OA) (l5 c5 : Nat) (x6 x7 : Int) (H : Heap) : Prop :=
 (0 ≤ x6 ∧ x6 < (l5 : Int)) ∧ ptr x5 fun q68 =>
 ldSl (Addr.add q68 (x6.toNat * 1)) H fun p69 l70 c71 =>
 (0 ≤ x6 ∧ x6 < (l0 : Int)) ∧ ptr x0 fun q72 =>
 ldSl (Addr.add q72 (x6.toNat * 1)) H fun p73 l74 c75 =>
 (0 ≤ x7 ∧ x7 < (l74 : Int)) ∧ ptr p73 fun q76 =>
 ldB (Addr.add q76 (x7.toNat * 1)) H fun b77 =>
 sel b77
 ((0 ≤ x7 ∧ x7 < (l70 : Int)) ∧ ptr p69 fun q78 =>
 wr (Addr.add q78 (x7.toNat * 1)) [(.bool true)] H fun H79 =>
 zqy_5 nx26 nx47 Q E x0 l0 c0 x1 l1 c1 x5 l5 c5 x6 x7 H79)
 ((0 ≤ x6 ∧ x6 < (l1 : Int)) ∧ ptr x1 fun q80 =>
 ldSl (Addr.add q80 (x6.toNat * 1)) H fun p81 l82 c83 =>
 (0 ≤ x7 ∧ x7 < (l82 : Int)) ∧ ptr p81 fun q84 =>
 ldB (Addr.add q84 (x7.toNat * 1)) H fun b85 =>
 (0 ≤ x7 ∧ x7 < (l70 : Int)) ∧ ptr p69 fun q86 =>
 wr (Addr.add q86 (x7.toNat * 1)) [(.bool b85)] H fun H87 =>
 zqy_5 nx26 nx47 Q E x0 l0 c0 x1 l1 c1 x5 l5 c5 x6 x7 H87)

def zqy_7_M (nx26 : Int → HP) (nx47 : Int → HP) (τ : Tau) (H : Heap) : Prop := mSl (τ 0) fun x0 l0 c0 => mSl (τ 1) fun x1 l1 c1 => mSl (τ 5) fun x5 l5 c5 => mI .i64 (τ 6) fun x6 => mI .i64 (τ 7) fun x7 => zqy_7 nx26 nx47 Q E x0 l0 c0 x1 l1 c1 x5 l5 c5 x6 x7 H

theorem zqy_8ok (nx26 : Int → HP) (nx47 : Int → HP) : Ok Pr (zqy_7_M Q E nx26 nx47) (sA zqy_p15) (zqy_q9 Q E nx26 nx47) E := fun τ H h =>
  wSl 0 h (fun x0 l0 c0 h => wSl 1 h (fun x1 l1 c1 h => wSl 5 h (fun x5 l5 c5 h => wI 6 h (fun x6 h => wI 7 h (fun x7 h => (conv (by kernel_rfl) h))))))

theorem zqy_9ok (nx26 : Int → HP) (nx47 : Int → HP) : Ok Pr (zqy_7_M Q E nx26 nx47) zqy_p15 (zqy_q8 Q E nx26 nx47) E := fun τ H h =>
  (conv (by kernel_rfl) (vc_seq (K := (zqy_5_M Q E nx26 nx47)) (zqy_8ok Q E nx26 nx47 τ H h) (zqy_6ok Q E nx26 nx47)))

noncomputable def zqy_q10 (nx26 : Int → HP) (nx47 : Int → HP) : XT := (xthen (zqy_7_M Q E nx26 nx47) (zqy_q8 Q E nx26 nx47))

def zqy_10 (nx26 : Int → HP) (nx47 : Int → HP) (Q : QT) (E : ET) (x0 : OA) (l0 c0 : Nat) (x1 : OA) (l1 c1 : Nat) (x5 : OA) (l5 c5 : Nat) (x6 x7 : Int) (H : Heap) : Prop :=
 sel (decide (x7 < (l0 : Int)))
 (zqy_7 nx26 nx47 Q E x0 l0 c0 x1 l1 c1 x5 l5 c5 x6 x7 H)
 (zqy_3 nx26 Q E x0 l0 c0 x1 l1 c1 x5 l5 c5 x6 H)

def zqy_10_M (nx26 : Int → HP) (nx47 : Int → HP) (τ : Tau) (H : Heap) : Prop := mSl (τ 0) fun x0 l0 c0 => mSl (τ 1) fun x1 l1 c1 => mSl (τ 5) fun x5 l5 c5 => mI .i64 (τ 6) fun x6 => mI .i64 (τ 7) fun x7 => zqy_10 nx26 nx47 Q E x0 l0 c0 x1 l1 c1 x5 l5 c5 x6 x7 H

theorem zqy_11ok (nx26 : Int → HP) (nx47 : Int → HP) : Ok Pr (zqy_10_M Q E nx26 nx47) (sA (sI zqy_p13)) (zqy_q10 Q E nx26 nx47) E := fun τ H h =>
  wSl 0 h (fun x0 l0 c0 h => wSl 1 h (fun x1 l1 c1 h => wSl 5 h (fun x5 l5 c5 h => wI 6 h (fun x6 h => wI 7 h (fun x7 h => (conv (by kernel_rfl) h))))))

theorem zqy_12ok (nx26 : Int → HP) (nx47 : Int → HP) : Ok Pr (zqy_10_M Q E nx26 nx47) (sI zqy_p13) (zqy_q8 Q E nx26 nx47) E := fun τ H h =>
  (conv (by kernel_rfl) (vc_seq (K := (zqy_7_M Q E nx26 nx47)) (zqy_11ok Q E nx26 nx47 τ H h) (zqy_9ok Q E nx26 nx47)))

def zqy_13 (nx26 : Int → HP) (Q : QT) (E : ET) (x0 : OA) (l0 c0 : Nat) (x1 : OA) (l1 c1 : Nat) (x5 : OA) (l5 c5 : Nat) (x6 x7 : Int) (H : Heap) : Prop :=
 ∃ (I : Int → HP) (μ : Int → Heap → Nat), I x7 H ∧ ∀ (x7 : Int) (H : Heap), I x7 H →
 zqy_10 nx26 (fun x7' H1 => I x7' H1 ∧ μ x7' H1 < μ x7 H) Q E x0 l0 c0 x1 l1 c1 x5 l5 c5 x6 x7 H

def zqy_13_M (nx26 : Int → HP) (τ : Tau) (H : Heap) : Prop := mSl (τ 0) fun x0 l0 c0 => mSl (τ 1) fun x1 l1 c1 => mSl (τ 5) fun x5 l5 c5 => mI .i64 (τ 6) fun x6 => mI .i64 (τ 7) fun x7 => zqy_13 nx26 Q E x0 l0 c0 x1 l1 c1 x5 l5 c5 x6 x7 H

theorem zqy_14ok (nx26 : Int → HP) : Ok Pr (zqy_13_M Q E nx26) zqy_p13 (xblock 2 (zqy_q6 Q E nx26)) E := fun τ H h =>
  wSl 0 h (fun x0 l0 c0 h => wSl 1 h (fun x1 l1 c1 h => wSl 5 h (fun x5 l5 c5 h => wI 6 h (fun x6 h => wI 7 h (fun x7 h => match h with | ⟨I, μ, h0, hr⟩ => (conv (by kernel_rfl) (vc_loopG (c := sI zqy_p13) (τ := (Tau.upd (Tau.upd (Tau.upd (Tau.upd (Tau.upd τ 0 (.slice x0 l0 c0)) 1 (.slice x1 l1 c1)) 5 (.slice x5 l5 c5)) 6 (.int .i64 x6)) 7 (.int .i64 x7))) [0, 1, 5, 6] (fun τ H => mI .i64 (τ 7) fun x7' => I x7' H) (fun τ H => μ (gI (τ 7)) H) (by kernel_rfl) h0 (fun τ1 H1 hf hI => uF 0 (.slice x0 l0 c0) (hf 0 (by simp)) (uF 1 (.slice x1 l1 c1) (hf 1 (by simp)) (uF 5 (.slice x5 l5 c5) (hf 5 (by simp)) (uF 6 (.int .i64 x6) (hf 6 (by simp)) (uI 7 hI (fun x7r h => lgx (zqy_12ok Q E nx26 (fun x7' H2 => I x7' H2 ∧ μ x7' H2 < μ x7r H1) (Tau.upd (Tau.upd (Tau.upd (Tau.upd (Tau.upd τ1 0 (.slice x0 l0 c0)) 1 (.slice x1 l1 c1)) 5 (.slice x5 l5 c5)) 6 (.int .i64 x6)) 7 (.int .i64 x7r)) H1 (conv (by kernel_rfl) (hr x7r H1 h))) (fun τ2 H2 hk => kI 7 hk (fun x7' h => conv (by kernel_rfl) h)))))))))))))))

theorem zqy_15ok (nx26 : Int → HP) : Ok Pr (zqy_13_M Q E nx26) (sB (sI (sA zqy_p8))) (zqy_q6 Q E nx26) E := fun τ H h =>
  (conv (by kernel_rfl) (zqy_14ok Q E nx26 τ H h))

noncomputable def zqy_q11 (nx26 : Int → HP) : XT := (xthen (zqy_13_M Q E nx26) (zqy_q6 Q E nx26))

def zqy_16 (nx26 : Int → HP) (Q : QT) (E : ET) (x0 : OA) (l0 c0 : Nat) (x1 : OA) (l1 c1 : Nat) (x5 : OA) (l5 c5 : Nat) (x6 : Int) (H : Heap) : Prop :=
 zqy_13 nx26 Q E x0 l0 c0 x1 l1 c1 x5 l5 c5 x6 0 H

def zqy_16_M (nx26 : Int → HP) (τ : Tau) (H : Heap) : Prop := mSl (τ 0) fun x0 l0 c0 => mSl (τ 1) fun x1 l1 c1 => mSl (τ 5) fun x5 l5 c5 => mI .i64 (τ 6) fun x6 => zqy_16 nx26 Q E x0 l0 c0 x1 l1 c1 x5 l5 c5 x6 H

theorem zqy_17ok (nx26 : Int → HP) : Ok Pr (zqy_16_M Q E nx26) (sA (sI (sA zqy_p8))) (zqy_q11 Q E nx26) E := fun τ H h =>
  wSl 0 h (fun x0 l0 c0 h => wSl 1 h (fun x1 l1 c1 h => wSl 5 h (fun x5 l5 c5 h => wI 6 h (fun x6 h => (conv (by kernel_rfl) h)))))

theorem zqy_18ok (nx26 : Int → HP) : Ok Pr (zqy_16_M Q E nx26) (sI (sA zqy_p8)) (zqy_q6 Q E nx26) E := fun τ H h =>
  (conv (by kernel_rfl) (vc_seq (K := (zqy_13_M Q E nx26)) (zqy_17ok Q E nx26 τ H h) (zqy_15ok Q E nx26)))

theorem zqy_19ok (nx26 : Int → HP) : Ok Pr (zqy_16_M Q E nx26) (sA zqy_p8) (xthen (zqy_3_M Q E nx26) (zqy_q4 Q E nx26)) E := fun τ H h =>
  (conv (by kernel_rfl) (zqy_18ok Q E nx26 τ H h))

theorem zqy_20ok (nx26 : Int → HP) : Ok Pr (zqy_16_M Q E nx26) zqy_p8 (zqy_q4 Q E nx26) E := fun τ H h =>
  (conv (by kernel_rfl) (vc_seq (K := (zqy_3_M Q E nx26)) (zqy_19ok Q E nx26 τ H h) (zqy_4ok Q E nx26)))

noncomputable def zqy_q12 (nx26 : Int → HP) : XT := (xthen (zqy_16_M Q E nx26) (zqy_q4 Q E nx26))

def zqy_21 (nx26 : Int → HP) (Q : QT) (E : ET) (x0 : OA) (l0 c0 : Nat) (x1 : OA) (l1 c1 : Nat) (x5 : OA) (l5 c5 : Nat) (x6 : Int) (H : Heap) : Prop :=
 sel (decide (x6 < (l0 : Int)))
 (zqy_16 nx26 Q E x0 l0 c0 x1 l1 c1 x5 l5 c5 x6 H)
 (zqy_1 Q E x5 l5 c5 H)

def zqy_21_M (nx26 : Int → HP) (τ : Tau) (H : Heap) : Prop := mSl (τ 0) fun x0 l0 c0 => mSl (τ 1) fun x1 l1 c1 => mSl (τ 5) fun x5 l5 c5 => mI .i64 (τ 6) fun x6 => zqy_21 nx26 Q E x0 l0 c0 x1 l1 c1 x5 l5 c5 x6 H

theorem zqy_22ok (nx26 : Int → HP) : Ok Pr (zqy_21_M Q E nx26) (sA (sI zqy_p6)) (zqy_q12 Q E nx26) E := fun τ H h =>
  wSl 0 h (fun x0 l0 c0 h => wSl 1 h (fun x1 l1 c1 h => wSl 5 h (fun x5 l5 c5 h => wI 6 h (fun x6 h => (conv (by kernel_rfl) h)))))

theorem zqy_23ok (nx26 : Int → HP) : Ok Pr (zqy_21_M Q E nx26) (sI zqy_p6) (zqy_q4 Q E nx26) E := fun τ H h =>
  (conv (by kernel_rfl) (vc_seq (K := (zqy_16_M Q E nx26)) (zqy_22ok Q E nx26 τ H h) (zqy_20ok Q E nx26)))

def zqy_24 (Q : QT) (E : ET) (x0 : OA) (l0 c0 : Nat) (x1 : OA) (l1 c1 : Nat) (x5 : OA) (l5 c5 : Nat) (x6 : Int) (H : Heap) : Prop :=
 ∃ (I : Int → HP) (μ : Int → Heap → Nat), I x6 H ∧ ∀ (x6 : Int) (H : Heap), I x6 H →
 zqy_21 (fun x6' H1 => I x6' H1 ∧ μ x6' H1 < μ x6 H) Q E x0 l0 c0 x1 l1 c1 x5 l5 c5 x6 H

def zqy_24_M  (τ : Tau) (H : Heap) : Prop := mSl (τ 0) fun x0 l0 c0 => mSl (τ 1) fun x1 l1 c1 => mSl (τ 5) fun x5 l5 c5 => mI .i64 (τ 6) fun x6 => zqy_24 Q E x0 l0 c0 x1 l1 c1 x5 l5 c5 x6 H

theorem zqy_25ok  : Ok Pr (zqy_24_M Q E) zqy_p6 (xblock 0 (zqy_q2 Q E)) E := fun τ H h =>
  wSl 0 h (fun x0 l0 c0 h => wSl 1 h (fun x1 l1 c1 h => wSl 5 h (fun x5 l5 c5 h => wI 6 h (fun x6 h => match h with | ⟨I, μ, h0, hr⟩ => (conv (by kernel_rfl) (vc_loopG (c := sI zqy_p6) (τ := (Tau.upd (Tau.upd (Tau.upd (Tau.upd τ 0 (.slice x0 l0 c0)) 1 (.slice x1 l1 c1)) 5 (.slice x5 l5 c5)) 6 (.int .i64 x6))) [0, 1, 5] (fun τ H => mI .i64 (τ 6) fun x6' => I x6' H) (fun τ H => μ (gI (τ 6)) H) (by kernel_rfl) h0 (fun τ1 H1 hf hI => uF 0 (.slice x0 l0 c0) (hf 0 (by simp)) (uF 1 (.slice x1 l1 c1) (hf 1 (by simp)) (uF 5 (.slice x5 l5 c5) (hf 5 (by simp)) (uI 6 hI (fun x6r h => lgx (zqy_23ok Q E (fun x6' H2 => I x6' H2 ∧ μ x6' H2 < μ x6r H1) (Tau.upd (Tau.upd (Tau.upd (Tau.upd τ1 0 (.slice x0 l0 c0)) 1 (.slice x1 l1 c1)) 5 (.slice x5 l5 c5)) 6 (.int .i64 x6r)) H1 (conv (by kernel_rfl) (hr x6r H1 h))) (fun τ2 H2 hk => kI 6 hk (fun x6' h => conv (by kernel_rfl) h)))))))))))))

theorem zqy_26ok  : Ok Pr (zqy_24_M Q E) (sB (sA zqy_p2)) (zqy_q2 Q E) E := fun τ H h =>
  (conv (by kernel_rfl) (zqy_25ok Q E τ H h))

noncomputable def zqy_q13  : XT := (xthen (zqy_24_M Q E) (zqy_q2 Q E))

def zqy_27 (Q : QT) (E : ET) (x0 : OA) (l0 c0 : Nat) (x1 : OA) (l1 c1 : Nat) (x5 : OA) (l5 c5 : Nat) (H : Heap) : Prop :=
 zqy_24 Q E x0 l0 c0 x1 l1 c1 x5 l5 c5 0 H

def zqy_27_M  (τ : Tau) (H : Heap) : Prop := mSl (τ 0) fun x0 l0 c0 => mSl (τ 1) fun x1 l1 c1 => mSl (τ 5) fun x5 l5 c5 => zqy_27 Q E x0 l0 c0 x1 l1 c1 x5 l5 c5 H

theorem zqy_28ok  : Ok Pr (zqy_27_M Q E) (sA (sA zqy_p2)) (zqy_q13 Q E) E := fun τ H h =>
  wSl 0 h (fun x0 l0 c0 h => wSl 1 h (fun x1 l1 c1 h => wSl 5 h (fun x5 l5 c5 h => (conv (by kernel_rfl) h))))

theorem zqy_29ok  : Ok Pr (zqy_27_M Q E) (sA zqy_p2) (zqy_q2 Q E) E := fun τ H h =>
  (conv (by kernel_rfl) (vc_seq (K := (zqy_24_M Q E)) (zqy_28ok Q E τ H h) (zqy_26ok Q E)))

theorem zqy_30ok  : Ok Pr (zqy_27_M Q E) zqy_p2 (zqy_q1 Q E) E := fun τ H h =>
  (conv (by kernel_rfl) (vc_seq (K := (zqy_1_M Q E)) (zqy_29ok Q E τ H h) (zqy_2ok Q E)))

noncomputable def zqy_q14  : XT := (xthen (zqy_27_M Q E) (zqy_q1 Q E))

def zqy_31 (Q : QT) (E : ET) (x0 : OA) (l0 c0 : Nat) (x1 : OA) (l1 c1 : Nat) (H : Heap) : Prop :=
 Does Pr 99 #[(.int .i64 (l0 : Int))] H (fun v88 H89 =>
 ∃ (p90 : OA) (l91 c92 : Nat), v88 = (.slice p90 l91 c92) ∧ zqy_27 Q E x0 l0 c0 x1 l1 c1 p90 l91 c92 H89) E

def zqy_31_M  (τ : Tau) (H : Heap) : Prop := mSl (τ 0) fun x0 l0 c0 => mSl (τ 1) fun x1 l1 c1 => zqy_31 Q E x0 l0 c0 x1 l1 c1 H

theorem zqy_32ok  : Ok Pr (zqy_31_M Q E) (sA (sB (bodyOf Try.f85))) (zqy_q14 Q E) E := fun τ H h =>
  wSl 0 h (fun x0 l0 c0 h => wSl 1 h (fun x1 l1 c1 h => (conv (by kernel_rfl) h)))

theorem zqy_33ok  : Ok Pr (zqy_31_M Q E) (sB (bodyOf Try.f85)) (zqy_q1 Q E) E := fun τ H h =>
  (conv (by kernel_rfl) (vc_seq (K := (zqy_27_M Q E)) (zqy_32ok Q E τ H h) (zqy_30ok Q E)))

def zqy (Q : QT) (E : ET) (a0 : OA) (a0l : Nat) (a0c : Nat) (a1 : OA) (a1l : Nat) (a1c : Nat) (H : Heap) : Prop :=
 zqy_31 Q E a0 a0l a0c a1 a1l a1c H

theorem zqy_fn (a0 : OA) (a0l : Nat) (a0c : Nat) (a1 : OA) (a1l : Nat) (a1c : Nat) (Q : QT) (E : ET) (H : Heap) (h : zqy Q E a0 a0l a0c a1 a1l a1c H)   : Does Pr 85 #[(.slice a0 a0l a0c), (.slice a1 a1l a1c)] H Q E :=
  Fn_of_vc (fn := Try.f85) (c := (bodyOf Try.f85)) (args := [(.slice a0 a0l a0c), (.slice a1 a1l a1c)]) mixed (by kernel_rfl) (by kernel_rfl) (by kernel_rfl) (by kernel_rfl) (by kernel_rfl) ((conv (B := vc Pr (bodyOf Try.f85) (argT [(.slice a0 a0l a0c), (.slice a1 a1l a1c)]) (zqy_q1 Q E) E H) (by kernel_rfl) (vc_seq (K := (zqy_31_M Q E)) (conv (B := vc Pr (sA (bodyOf Try.f85)) (argT [(.slice a0 a0l a0c), (.slice a1 a1l a1c)]) (xthen (zqy_31_M Q E) (zqy_q1 Q E)) E H) (by kernel_rfl) h) (zqy_33ok Q E))))

/-! jobmux/jobmuxref09.star -/
noncomputable def zqz_q1 (Q : QT) (E : ET) : XT := (retQ Pr (Try.f86).results.toList Q)

noncomputable def zqz_p0 : Code := bodyOf Try.f86

def zqz_1 (Q : QT) (E : ET) (x3 : OA) (l3 c3 : Nat) (H : Heap) : Prop :=
 Q (.slice x3 l3 c3) H

def zqz_1_M  (τ : Tau) (H : Heap) : Prop := mSl (τ 3) fun x3 l3 c3 => zqz_1 Q E x3 l3 c3 H

theorem zqz_2ok  : Ok Pr (zqz_1_M Q E) (sB (sB (sB zqz_p0))) (zqz_q1 Q E) E := fun τ H h =>
  wSl 3 h (fun x3 l3 c3 h => (conv (by kernel_rfl) h))

noncomputable def zqz_q2  : XT := (xthen (zqz_1_M Q E) (zqz_q1 Q E))

noncomputable def zqz_p4 : Code := sA (sB (sB zqz_p0))

noncomputable def zqz_q4 (nx37 : Int → HP) : XT := (xthen (fun τ H => mI .i64 (τ 4) fun x4' => nx37 x4' H) (xblock 0 (zqz_q2 Q E)))

noncomputable def zqz_p7 : Code := sI (sI (sB zqz_p4))

def zqz_3 (nx37 : Int → HP) (Q : QT) (E : ET) (x0 : OA) (l0 c0 : Nat) (x3 : OA) (l3 c3 : Nat) (x4 : Int) (H : Heap) : Prop :=
 nx37 (IntKind.wrap .i64 (x4 + 1)) H

def zqz_3_M (nx37 : Int → HP) (τ : Tau) (H : Heap) : Prop := mSl (τ 0) fun x0 l0 c0 => mSl (τ 3) fun x3 l3 c3 => mI .i64 (τ 4) fun x4 => zqz_3 nx37 Q E x0 l0 c0 x3 l3 c3 x4 H

theorem zqz_4ok (nx37 : Int → HP) : Ok Pr (zqz_3_M Q E nx37) (sB (sB zqz_p7)) (zqz_q4 Q E nx37) E := fun τ H h =>
  wSl 0 h (fun x0 l0 c0 h => wSl 3 h (fun x3 l3 c3 h => wI 4 h (fun x4 h => (conv (by kernel_rfl) h))))

noncomputable def zqz_q6 (nx37 : Int → HP) : XT := (xblock 1 (xthen (zqz_3_M Q E nx37) (zqz_q4 Q E nx37)))

noncomputable def zqz_p11 : Code := sI (sA (sB zqz_p7))

noncomputable def zqz_q8 (nx37 : Int → HP) (nx64 : Int → HP) : XT := (xthen (fun τ H => mI .i64 (τ 5) fun x5' => nx64 x5' H) (xblock 2 (zqz_q6 Q E nx37)))

noncomputable def zqz_p14 : Code := sI (sI (sB zqz_p11))

def zqz_5 (nx37 : Int → HP) (nx64 : Int → HP) (Q : QT) (E : ET) (x0 : OA) (l0 c0 : Nat) (x3 : OA) (l3 c3 : Nat) (x4 x5 : Int) (H : Heap) : Prop :=
 nx64 (IntKind.wrap .i64 (x5 + 1)) H

def zqz_5_M (nx37 : Int → HP) (nx64 : Int → HP) (τ : Tau) (H : Heap) : Prop := mSl (τ 0) fun x0 l0 c0 => mSl (τ 3) fun x3 l3 c3 => mI .i64 (τ 4) fun x4 => mI .i64 (τ 5) fun x5 => zqz_5 nx37 nx64 Q E x0 l0 c0 x3 l3 c3 x4 x5 H

theorem zqz_6ok (nx37 : Int → HP) (nx64 : Int → HP) : Ok Pr (zqz_5_M Q E nx37 nx64) (sB (sB zqz_p14)) (zqz_q8 Q E nx37 nx64) E := fun τ H h =>
  wSl 0 h (fun x0 l0 c0 h => wSl 3 h (fun x3 l3 c3 h => wI 4 h (fun x4 h => wI 5 h (fun x5 h => (conv (by kernel_rfl) h)))))

noncomputable def zqz_q9 (nx37 : Int → HP) (nx64 : Int → HP) : XT := (xthen (zqz_5_M Q E nx37 nx64) (zqz_q8 Q E nx37 nx64))

noncomputable def zqz_p18 : Code := sI (sA (sB zqz_p14))

noncomputable def zqz_q12 (nx37 : Int → HP) (nx64 : Int → HP) (nx91 : Int → HP) : XT := (xthen (fun τ H => mI .i64 (τ 6) fun x6' => nx91 x6' H) (xblock 4 (xblock 3 (zqz_q9 Q E nx37 nx64))))

noncomputable def zqz_p22 : Code := sB (sI (sI (sB zqz_p18)))

def zqz_7 (nx37 : Int → HP) (nx64 : Int → HP) (nx91 : Int → HP) (Q : QT) (E : ET) (x0 : OA) (l0 c0 : Nat) (x3 : OA) (l3 c3 : Nat) (x4 x5 x6 : Int) (H : Heap) : Prop :=
 nx91 (IntKind.wrap .i64 (x6 + 1)) H

def zqz_7_M (nx37 : Int → HP) (nx64 : Int → HP) (nx91 : Int → HP) (τ : Tau) (H : Heap) : Prop := mSl (τ 0) fun x0 l0 c0 => mSl (τ 3) fun x3 l3 c3 => mI .i64 (τ 4) fun x4 => mI .i64 (τ 5) fun x5 => mI .i64 (τ 6) fun x6 => zqz_7 nx37 nx64 nx91 Q E x0 l0 c0 x3 l3 c3 x4 x5 x6 H

theorem zqz_8ok (nx37 : Int → HP) (nx64 : Int → HP) (nx91 : Int → HP) : Ok Pr (zqz_7_M Q E nx37 nx64 nx91) (sB zqz_p22) (zqz_q12 Q E nx37 nx64 nx91) E := fun τ H h =>
  wSl 0 h (fun x0 l0 c0 h => wSl 3 h (fun x3 l3 c3 h => wI 4 h (fun x4 h => wI 5 h (fun x5 h => wI 6 h (fun x6 h => (conv (by kernel_rfl) h))))))

noncomputable def zqz_q13 (nx37 : Int → HP) (nx64 : Int → HP) (nx91 : Int → HP) : XT := (xthen (zqz_7_M Q E nx37 nx64 nx91) (zqz_q12 Q E nx37 nx64 nx91))

def zqz_9 (nx37 : Int → HP) (nx64 : Int → HP) (nx91 : Int → HP) (Q : QT) (E : ET) (x0 : OA) (l0 c0 : Nat) (x3 : OA) (l3 c3 : Nat) (x4 x5 x6 : Int) (H : Heap) : Prop :=
 (0 ≤ x5 ∧ x5 < (l3 : Int)) ∧ ptr x3 fun q118 =>
 ldSl (Addr.add q118 (x5.toNat * 1)) H fun p119 l120 c121 =>
 (0 ≤ x5 ∧ x5 < (l3 : Int)) ∧ ptr x3 fun q122 =>
 ldSl (Addr.add q122 (x5.toNat * 1)) H fun p123 l124 c125 =>
 (0 ≤ x6 ∧ x6 < (l124 : Int)) ∧ ptr p123 fun q126 =>
 ldB (Addr.add q126 (x6.toNat * 1)) H fun b127 =>
 sel b127
 ((0 ≤ x6 ∧ x6 < (l120 : Int)) ∧ ptr p119 fun q128 =>
 wr (Addr.add q128 (x6.toNat * 1)) [(.bool true)] H fun H129 =>
 zqz_7 nx37 nx64 nx91 Q E x0 l0 c0 x3 l3 c3 x4 x5 x6 H129)
 ((0 ≤ x4 ∧ x4 < (l3 : Int)) ∧ ptr x3 fun q130 =>
 ldSl (Addr.add q130 (x4.toNat * 1)) H fun p131 l132 c133 =>
 (0 ≤ x6 ∧ x6 < (l132 : Int)) ∧ ptr p131 fun q134 =>
 ldB (Addr.add q134 (x6.toNat * 1)) H fun b135 =>
 (0 ≤ x6 ∧ x6 < (l120 : Int)) ∧ ptr p119 fun q136 =>
 wr (Addr.add q136 (x6.toNat * 1)) [(.bool b135)] H fun H137 =>
 zqz_7 nx37 nx64 nx91 Q E x0 l0 c0 x3 l3 c3 x4 x5 x6 H137)

def zqz_9_M (nx37 : Int → HP) (nx64 : Int → HP) (nx91 : Int → HP) (τ : Tau) (H : Heap) : Prop := mSl (τ 0) fun x0 l0 c0 => mSl (τ 3) fun x3 l3 c3 => mI .i64 (τ 4) fun x4 => mI .i64 (τ 5) fun x5 => mI .i64 (τ 6) fun x6 => zqz_9 nx37 nx64 nx91 Q E x0 l0 c0 x3 l3 c3 x4 x5 x6 H

theorem zqz_10ok (nx37 : Int → HP) (nx64 : Int → HP) (nx91 : Int → HP) : Ok Pr (zqz_9_M Q E nx37 nx64 nx91) (sA zqz_p22) (zqz_q13 Q E nx37 nx64 nx91) E := fun τ H h =>
  wSl 0 h (fun x0 l0 c0 h => wSl 3 h (fun x3 l3 c3 h => wI 4 h (fun x4 h => wI 5 h (fun x5 h => wI 6 h (fun x6 h => (conv (by kernel_rfl) h))))))

theorem zqz_11ok (nx37 : Int → HP) (nx64 : Int → HP) (nx91 : Int → HP) : Ok Pr (zqz_9_M Q E nx37 nx64 nx91) zqz_p22 (zqz_q12 Q E nx37 nx64 nx91) E := fun τ H h =>
  (conv (by kernel_rfl) (vc_seq (K := (zqz_7_M Q E nx37 nx64 nx91)) (zqz_10ok Q E nx37 nx64 nx91 τ H h) (zqz_8ok Q E nx37 nx64 nx91)))

noncomputable def zqz_q14 (nx37 : Int → HP) (nx64 : Int → HP) (nx91 : Int → HP) : XT := (xthen (zqz_9_M Q E nx37 nx64 nx91) (zqz_q12 Q E nx37 nx64 nx91))

noncomputable def zqz_p25 : Code := sA (sI (sI (sB zqz_p18)))

def zqz_12 (nx37 : Int → HP) (nx64 : Int → HP) (nx91 : Int → HP) (Q : QT) (E : ET) (x0 : OA) (l0 c0 : Nat) (x3 : OA) (l3 c3 : Nat) (x4 x5 x6 : Int) (x36 : Bool) (H : Heap) : Prop :=
 sel x36
 (zqz_9 nx37 nx64 nx91 Q E x0 l0 c0 x3 l3 c3 x4 x5 x6 H)
 (zqz_5 nx37 nx64 Q E x0 l0 c0 x3 l3 c3 x4 x5 H)

def zqz_12_M (nx37 : Int → HP) (nx64 : Int → HP) (nx91 : Int → HP) (τ : Tau) (H : Heap) : Prop := mSl (τ 0) fun x0 l0 c0 => mSl (τ 3) fun x3 l3 c3 => mI .i64 (τ 4) fun x4 => mI .i64 (τ 5) fun x5 => mI .i64 (τ 6) fun x6 => mB (τ 36) fun x36 => zqz_12 nx37 nx64 nx91 Q E x0 l0 c0 x3 l3 c3 x4 x5 x6 x36 H

theorem zqz_13ok (nx37 : Int → HP) (nx64 : Int → HP) (nx91 : Int → HP) : Ok Pr (zqz_12_M Q E nx37 nx64 nx91) (sB zqz_p25) (zqz_q14 Q E nx37 nx64 nx91) E := fun τ H h =>
  wSl 0 h (fun x0 l0 c0 h => wSl 3 h (fun x3 l3 c3 h => wI 4 h (fun x4 h => wI 5 h (fun x5 h => wI 6 h (fun x6 h => wB 36 h (fun x36 h => (conv (by kernel_rfl) h)))))))

noncomputable def zqz_q15 (nx37 : Int → HP) (nx64 : Int → HP) (nx91 : Int → HP) : XT := (xthen (zqz_12_M Q E nx37 nx64 nx91) (zqz_q14 Q E nx37 nx64 nx91))

def zqz_14 (nx37 : Int → HP) (nx64 : Int → HP) (nx91 : Int → HP) (Q : QT) (E : ET) (x0 : OA) (l0 c0 : Nat) (x3 : OA) (l3 c3 : Nat) (x4 x5 x6 : Int) (H : Heap) : Prop :=
 sel (decide (x6 < (l0 : Int)))
 ((0 ≤ x5 ∧ x5 < (l3 : Int)) ∧ ptr x3 fun q144 =>
 ldSl (Addr.add q144 (x5.toNat * 1)) H fun p145 l146 c147 =>
 (0 ≤ x4 ∧ x4 < (l146 : Int)) ∧ ptr p145 fun q148 =>
 ldB (Addr.add q148 (x4.toNat * 1)) H fun b149 =>
 zqz_12 nx37 nx64 nx91 Q E x0 l0 c0 x3 l3 c3 x4 x5 x6 b149 H)
 (zqz_12 nx37 nx64 nx91 Q E x0 l0 c0 x3 l3 c3 x4 x5 x6 false H)

def zqz_14_M (nx37 : Int → HP) (nx64 : Int → HP) (nx91 : Int → HP) (τ : Tau) (H : Heap) : Prop := mSl (τ 0) fun x0 l0 c0 => mSl (τ 3) fun x3 l3 c3 => mI .i64 (τ 4) fun x4 => mI .i64 (τ 5) fun x5 => mI .i64 (τ 6) fun x6 => zqz_14 nx37 nx64 nx91 Q E x0 l0 c0 x3 l3 c3 x4 x5 x6 H

theorem zqz_15ok (nx37 : Int → HP) (nx64 : Int → HP) (nx91 : Int → HP) : Ok Pr (zqz_14_M Q E nx37 nx64 nx91) (sA zqz_p25) (zqz_q15 Q E nx37 nx64 nx91) E := fun τ H h =>
  wSl 0 h (fun x0 l0 c0 h => wSl 3 h (fun x3 l3 c3 h => wI 4 h (fun x4 h => wI 5 h (fun x5 h => wI 6 h (fun x6 h => (conv (by kernel_rfl) h))))))

theorem zqz_16ok (nx37 : Int → HP) (nx64 : Int → HP) (nx91 : Int → HP) : Ok Pr (zqz_14_M Q E nx37 nx64 nx91) zqz_p25 (zqz_q14 Q E nx37 nx64 nx91) E := fun τ H h =>
  (conv (by kernel_rfl) (vc_seq (K := (zqz_12_M Q E nx37 nx64 nx91)) (zqz_15ok Q E nx37 nx64 nx91 τ H h) (zqz_13ok Q E nx37 nx64 nx91)))

theorem zqz_17ok (nx37 : Int → HP) (nx64 : Int → HP) (nx91 : Int → HP) : Ok Pr (zqz_14_M Q E nx37 nx64 nx91) (sI (sI (sB zqz_p18))) (zqz_q12 Q E nx37 nx64 nx91) E := fun τ H h =>
  (conv (by kernel_rfl) (vc_seq (K := (zqz_9_M Q E nx37 nx64 nx91)) (zqz_16ok Q E nx37 nx64 nx91 τ H h) (zqz_11ok Q E nx37 nx64 nx91)))

def zqz_18 (nx37 : Int → HP) (nx64 : Int → HP) (Q : QT) (E : ET) (x0 : OA) (l0 c0 : Nat) (x3 : OA) (l3 c3 : Nat) (x4 x5 x6 : Int) (H : Heap) : Prop :=
 ∃ (I : Int → HP) (μ : Int → Heap → Nat), I x6 H ∧ ∀ (x6 : Int) (H : Heap), I x6 H →
 zqz_14 nx37 nx64 (fun x6' H1 => I x6' H1 ∧ μ x6' H1 < μ x6 H) Q E x0 l0 c0 x3 l3 c3 x4 x5 x6 H

def zqz_18_M (nx37 : Int → HP) (nx64 : Int → HP) (τ : Tau) (H : Heap) : Prop := mSl (τ 0) fun x0 l0 c0 => mSl (τ 3) fun x3 l3 c3 => mI .i64 (τ 4) fun x4 => mI .i64 (τ 5) fun x5 => mI .i64 (τ 6) fun x6 => zqz_18 nx37 nx64 Q E x0 l0 c0 x3 l3 c3 x4 x5 x6 H

theorem zqz_19ok (nx37 : Int → HP) (nx64 : Int → HP) : Ok Pr (zqz_18_M Q E nx37 nx64) (sI (sB zqz_p18)) (xblock 4 (xblock 3 (zqz_q9 Q E nx37 nx64))) E := fun τ H h =>
  wSl 0 h (fun x0 l0 c0 h => wSl 3 h (fun x3 l3 c3 h => wI 4 h (fun x4 h => wI 5 h (fun x5 h => wI 6 h (fun x6 h => match h with | ⟨I, μ, h0, hr⟩ => (conv (by kernel_rfl) (vc_loopG (c := sI (sI (sB zqz_p18))) (τ := (Tau.upd (Tau.upd (Tau.upd (Tau.upd (Tau.upd τ 0 (.slice x0 l0 c0)) 3 (.slice x3 l3 c3)) 4 (.int .i64 x4)) 5 (.int .i64 x5)) 6 (.int .i64 x6))) [0, 3, 4, 5] (fun τ H => mI .i64 (τ 6) fun x6' => I x6' H) (fun τ H => μ (gI (τ 6)) H) (by kernel_rfl) h0 (fun τ1 H1 hf hI => uF 0 (.slice x0 l0 c0) (hf 0 (by simp)) (uF 3 (.slice x3 l3 c3) (hf 3 (by simp)) (uF 4 (.int .i64 x4) (hf 4 (by simp)) (uF 5 (.int .i64 x5) (hf 5 (by simp)) (uI 6 hI (fun x6r h => lgx (zqz_17ok Q E nx37 nx64 (fun x6' H2 => I x6' H2 ∧ μ x6' H2 < μ x6r H1) (Tau.upd (Tau.upd (Tau.upd (Tau.upd (Tau.upd τ1 0 (.slice x0 l0 c0)) 3 (.slice x3 l3 c3)) 4 (.int .i64 x4)) 5 (.int .i64 x5)) 6 (.int .i64 x6r)) H1 (conv (by kernel_rfl) (hr x6r H1 h))) (fun τ2 H2 hk => kI 6 hk (fun x6' h => conv (by kernel_rfl) h)))))))))))))))

theorem zqz_20ok (nx37 : Int → HP) (nx64 : Int → HP) : Ok Pr (zqz_18_M Q E nx37 nx64) (sB zqz_p18) (xblock 3 (zqz_q9 Q E nx37 nx64)) E := fun τ H h =>
  (conv (by kernel_rfl) (zqz_19ok Q E nx37 nx64 τ H h))

noncomputable def zqz_q16 (nx37 : Int → HP) (nx64 : Int → HP) : XT := (xthen (zqz_18_M Q E nx37 nx64) (xblock 3 (zqz_q9 Q E nx37 nx64)))

def zqz_21 (nx37 : Int → HP) (nx64 : Int → HP) (Q : QT) (E : ET) (x0 : OA) (l0 c0 : Nat) (x3 : OA) (l3 c3 : Nat) (x4 x5 : Int) (H : Heap) : Prop :=
 zqz_18 nx37 nx64 Q E x0 l0 c0 x3 l3 c3 x4 x5 0 H

def zqz_21_M (nx37 : Int → HP) (nx64 : Int → HP) (τ : Tau) (H : Heap) : Prop := mSl (τ 0) fun x0 l0 c0 => mSl (τ 3) fun x3 l3 c3 => mI .i64 (τ 4) fun x4 => mI .i64 (τ 5) fun x5 => zqz_21 nx37 nx64 Q E x0 l0 c0 x3 l3 c3 x4 x5 H

theorem zqz_22ok (nx37 : Int → HP) (nx64 : Int → HP) : Ok Pr (zqz_21_M Q E nx37 nx64) (sA zqz_p18) (zqz_q16 Q E nx37 nx64) E := fun τ H h =>
  wSl 0 h (fun x0 l0 c0 h => wSl 3 h (fun x3 l3 c3 h => wI 4 h (fun x4 h => wI 5 h (fun x5 h => (conv (by kernel_rfl) h)))))

theorem zqz_23ok (nx37 : Int → HP) (nx64 : Int → HP) : Ok Pr (zqz_21_M Q E nx37 nx64) zqz_p18 (xblock 3 (zqz_q9 Q E nx37 nx64)) E := fun τ H h =>
  (conv (by kernel_rfl) (vc_seq (K := (zqz_18_M Q E nx37 nx64)) (zqz_22ok Q E nx37 nx64 τ H h) (zqz_20ok Q E nx37 nx64)))

theorem zqz_24ok (nx37 : Int → HP) (nx64 : Int → HP) : Ok Pr (zqz_21_M Q E nx37 nx64) (sA (sB zqz_p14)) (zqz_q9 Q E nx37 nx64) E := fun τ H h =>
  (conv (by kernel_rfl) (zqz_23ok Q E nx37 nx64 τ H h))

theorem zqz_25ok (nx37 : Int → HP) (nx64 : Int → HP) : Ok Pr (zqz_21_M Q E nx37 nx64) (sB zqz_p14) (zqz_q8 Q E nx37 nx64) E := fun τ H h =>
  (conv (by kernel_rfl) (vc_seq (K := (zqz_5_M Q E nx37 nx64)) (zqz_24ok Q E nx37 nx64 τ H h) (zqz_6ok Q E nx37 nx64)))

noncomputable def zqz_q17 (nx37 : Int → HP) (nx64 : Int → HP) : XT := (xthen (zqz_21_M Q E nx37 nx64) (zqz_q8 Q E nx37 nx64))

def zqz_26 (nx37 : Int → HP) (nx64 : Int → HP) (Q : QT) (E : ET) (x0 : OA) (l0 c0 : Nat) (x3 : OA) (l3 c3 : Nat) (x4 x5 : Int) (H : Heap) : Prop :=
 sel (decide (x5 < (l0 : Int)))
 (zqz_21 nx37 nx64 Q E x0 l0 c0 x3 l3 c3 x4 x5 H)
 (zqz_3 nx37 Q E x0 l0 c0 x3 l3 c3 x4 H)

def zqz_26_M (nx37 : Int → HP) (nx64 : Int → HP) (τ : Tau) (H : Heap) : Prop := mSl (τ 0) fun x0 l0 c0 => mSl (τ 3) fun x3 l3 c3 => mI .i64 (τ 4) fun x4 => mI .i64 (τ 5) fun x5 => zqz_26 nx37 nx64 Q E x0 l0 c0 x3 l3 c3 x4 x5 H

theorem zqz_27ok (nx37 : Int → HP) (nx64 : Int → HP) : Ok Pr (zqz_26_M Q E nx37 nx64) (sA zqz_p14) (zqz_q17 Q E nx37 nx64) E := fun τ H h =>
  wSl 0 h (fun x0 l0 c0 h => wSl 3 h (fun x3 l3 c3 h => wI 4 h (fun x4 h => wI 5 h (fun x5 h => (conv (by kernel_rfl) h)))))

theorem zqz_28ok (nx37 : Int → HP) (nx64 : Int → HP) : Ok Pr (zqz_26_M Q E nx37 nx64) zqz_p14 (zqz_q8 Q E nx37 nx64) E := fun τ H h =>
  (conv (by kernel_rfl) (vc_seq (K := (zqz_21_M Q E nx37 nx64)) (zqz_27ok Q E nx37 nx64 τ H h) (zqz_25ok Q E nx37 nx64)))

def zqz_29 (nx37 : Int → HP) (Q : QT) (E : ET) (x0 : OA) (l0 c0 : Nat) (x3 : OA) (l3 c3 : Nat) (x4 x5 : Int) (H : Heap) : Prop :=
 ∃ (I : Int → HP) (μ : Int → Heap → Nat), I x5 H ∧ ∀ (x5 : Int) (H : Heap), I x5 H →
 zqz_26 nx37 (fun x5' H1 => I x5' H1 ∧ μ x5' H1 < μ x5 H) Q E x0 l0 c0 x3 l3 c3 x4 x5 H

def zqz_29_M (nx37 : Int → HP) (τ : Tau) (H : Heap) : Prop := mSl (τ 0) fun x0 l0 c0 => mSl (τ 3) fun x3 l3 c3 => mI .i64 (τ 4) fun x4 => mI .i64 (τ 5) fun x5 => zqz_29 nx37 Q E x0 l0 c0 x3 l3 c3 x4 x5 H

theorem zqz_30ok (nx37 : Int → HP) : Ok Pr (zqz_29_M Q E nx37) (sI (sB zqz_p11)) (xblock 2 (zqz_q6 Q E nx37)) E := fun τ H h =>
  wSl 0 h (fun x0 l0 c0 h => wSl 3 h (fun x3 l3 c3 h => wI 4 h (fun x4 h => wI 5 h (fun x5 h => match h with | ⟨I, μ, h0, hr⟩ => (conv (by kernel_rfl) (vc_loopG (c := sI (sI (sB zqz_p11))) (τ := (Tau.upd (Tau.upd (Tau.upd (Tau.upd τ 0 (.slice x0 l0 c0)) 3 (.slice x3 l3 c3)) 4 (.int .i64 x4)) 5 (.int .i64 x5))) [0, 3, 4] (fun τ H => mI .i64 (τ 5) fun x5' => I x5' H) (fun τ H => μ (gI (τ 5)) H) (by kernel_rfl) h0 (fun τ1 H1 hf hI => uF 0 (.slice x0 l0 c0) (hf 0 (by simp)) (uF 3 (.slice x3 l3 c3) (hf 3 (by simp)) (uF 4 (.int .i64 x4) (hf 4 (by simp)) (uI 5 hI (fun x5r h => lgx (zqz_28ok Q E nx37 (fun x5' H2 => I x5' H2 ∧ μ x5' H2 < μ x5r H1) (Tau.upd (Tau.upd (Tau.upd (Tau.upd τ1 0 (.slice x0 l0 c0)) 3 (.slice x3 l3 c3)) 4 (.int .i64 x4)) 5 (.int .i64 x5r)) H1 (conv (by kernel_rfl) (hr x5r H1 h))) (fun τ2 H2 hk => kI 5 hk (fun x5' h => conv (by kernel_rfl) h)))))))))))))

theorem zqz_31ok (nx37 : Int → HP) : Ok Pr (zqz_29_M Q E nx37) (sB zqz_p11) (zqz_q6 Q E nx37) E := fun τ H h =>
  (conv (by kernel_rfl) (zqz_30ok Q E nx37 τ H h))

noncomputable def zqz_q18 (nx37 : Int → HP) : XT := (xthen (zqz_29_M Q E nx37) (zqz_q6 Q E nx37))

def zqz_32 (nx37 : Int → HP) (Q : QT) (E : ET) (x0 : OA) (l0 c0 : Nat) (x3 : OA) (l3 c3 : Nat) (x4 : Int) (H : Heap) : Prop :=
 zqz_29 nx37 Q E x0 l0 c0 x3 l3 c3 x4 0 H

def zqz_32_M (nx37 : Int → HP) (τ : Tau) (H : Heap) : Prop := mSl (τ 0) fun x0 l0 c0 => mSl (τ 3) fun x3 l3 c3 => mI .i64 (τ 4) fun x4 => zqz_32 nx37 Q E x0 l0 c0 x3 l3 c3 x4 H

theorem zqz_33ok (nx37 : Int → HP) : Ok Pr (zqz_32_M Q E nx37) (sA zqz_p11) (zqz_q18 Q E nx37) E := fun τ H h =>
  wSl 0 h (fun x0 l0 c0 h => wSl 3 h (fun x3 l3 c3 h => wI 4 h (fun x4 h => (conv (by kernel_rfl) h))))

theorem zqz_34ok (nx37 : Int → HP) : Ok Pr (zqz_32_M Q E nx37) zqz_p11 (zqz_q6 Q E nx37) E := fun τ H h =>
  (conv (by kernel_rfl) (vc_seq (K := (zqz_29_M Q E nx37)) (zqz_33ok Q E nx37 τ H h) (zqz_31ok Q E nx37)))

theorem zqz_35ok (nx37 : Int → HP) : Ok Pr (zqz_32_M Q E nx37) (sA (sB zqz_p7)) (xthen (zqz_3_M Q E nx37) (zqz_q4 Q E nx37)) E := fun τ H h =>
  (conv (by kernel_rfl) (zqz_34ok Q E nx37 τ H h))

theorem zqz_36ok (nx37 : Int → HP) : Ok Pr (zqz_32_M Q E nx37) (sB zqz_p7) (zqz_q4 Q E nx37) E := fun τ H h =>
  (conv (by kernel_rfl) (vc_seq (K := (zqz_3_M Q E nx37)) (zqz_35ok Q E nx37 τ H h) (zqz_4ok Q E nx37)))

noncomputable def zqz_q19 (nx37 : Int → HP) : XT := (xthen (zqz_32_M Q E nx37) (zqz_q4 Q E nx37))

def zqz_37 (nx37 : Int → HP) (Q : QT) (E : ET) (x0 : OA) (l0 c0 : Nat) (x3 : OA) (l3 c3 : Nat) (x4 : Int) (H : Heap) : Prop :=
 sel (decide (x4 < (l0 : Int)))
 (zqz_32 nx37 Q E x0 l0 c0 x3 l3 c3 x4 H)
 (zqz_1 Q E x3 l3 c3 H)

def zqz_37_M (nx37 : Int → HP) (τ : Tau) (H : Heap) : Prop := mSl (τ 0) fun x0 l0 c0 => mSl (τ 3) fun x3 l3 c3 => mI .i64 (τ 4) fun x4 => zqz_37 nx37 Q E x0 l0 c0 x3 l3 c3 x4 H

theorem zqz_38ok (nx37 : Int → HP) : Ok Pr (zqz_37_M Q E nx37) (sA zqz_p7) (zqz_q19 Q E nx37) E := fun τ H h =>
  wSl 0 h (fun x0 l0 c0 h => wSl 3 h (fun x3 l3 c3 h => wI 4 h (fun x4 h => (conv (by kernel_rfl) h))))

theorem zqz_39ok (nx37 : Int → HP) : Ok Pr (zqz_37_M Q E nx37) zqz_p7 (zqz_q4 Q E nx37) E := fun τ H h =>
  (conv (by kernel_rfl) (vc_seq (K := (zqz_32_M Q E nx37)) (zqz_38ok Q E nx37 τ H h) (zqz_36ok Q E nx37)))

def zqz_40 (Q : QT) (E : ET) (x0 : OA) (l0 c0 : Nat) (x3 : OA) (l3 c3 : Nat) (x4 : Int) (H : Heap) : Prop :=
 ∃ (I : Int → HP) (μ : Int → Heap → Nat), I x4 H ∧ ∀ (x4 : Int) (H : Heap), I x4 H →
 zqz_37 (fun x4' H1 => I x4' H1 ∧ μ x4' H1 < μ x4 H) Q E x0 l0 c0 x3 l3 c3 x4 H

def zqz_40_M  (τ : Tau) (H : Heap) : Prop := mSl (τ 0) fun x0 l0 c0 => mSl (τ 3) fun x3 l3 c3 => mI .i64 (τ 4) fun x4 => zqz_40 Q E x0 l0 c0 x3 l3 c3 x4 H

theorem zqz_41ok  : Ok Pr (zqz_40_M Q E) (sI (sB zqz_p4)) (xblock 0 (zqz_q2 Q E)) E := fun τ H h =>
  wSl 0 h (fun x0 l0 c0 h => wSl 3 h (fun x3 l3 c3 h => wI 4 h (fun x4 h => match h with | ⟨I, μ, h0, hr⟩ => (conv (by kernel_rfl) (vc_loopG (c := sI (sI (sB zqz_p4))) (τ := (Tau.upd (Tau.upd (Tau.upd τ 0 (.slice x0 l0 c0)) 3 (.slice x3 l3 c3)) 4 (.int .i64 x4))) [0, 3] (fun τ H => mI .i64 (τ 4) fun x4' => I x4' H) (fun τ H => μ (gI (τ 4)) H) (by kernel_rfl) h0 (fun τ1 H1 hf hI => uF 0 (.slice x0 l0 c0) (hf 0 (by simp)) (uF 3 (.slice x3 l3 c3) (hf 3 (by simp)) (uI 4 hI (fun x4r h => lgx (zqz_39ok Q E (fun x4' H2 => I x4' H2 ∧ μ x4' H2 < μ x4r H1) (Tau.upd (Tau.upd (Tau.upd τ1 0 (.slice x0 l0 c0)) 3 (.slice x3 l3 c3)) 4 (.int .i64 x4r)) H1 (conv (by kernel_rfl) (hr x4r H1 h))) (fun τ2 H2 hk => kI 4 hk (fun x4' h => conv (by kernel_rfl) h)))))))))))

theorem zqz_42ok  : Ok Pr (zqz_40_M Q E) (sB zqz_p4) (zqz_q2 Q E) E := fun τ H h =>
  (conv (by kernel_rfl) (zqz_41ok Q E τ H h))

noncomputable def zqz_q20  : XT := (xthen (zqz_40_M Q E) (zqz_q2 Q E))

def zqz_43 (Q : QT) (E : ET) (x0 : OA) (l0 c0 : Nat) (x3 : OA) (l3 c3 : Nat) (H : Heap) : Prop :=
 zqz_40 Q E x0 l0 c0 x3 l3 c3 0 H

def zqz_43_M  (τ : Tau) (H : Heap) : Prop := mSl (τ 0) fun x0 l0 c0 => mSl (τ 3) fun x3 l3 c3 => zqz_43 Q E x0 l0 c0 x3 l3 c3 H

theorem zqz_44ok  : Ok Pr (zqz_43_M Q E) (sA zqz_p4) (zqz_q20 Q E) E := fun τ H h =>
  wSl 0 h (fun x0 l0 c0 h => wSl 3 h (fun x3 l3 c3 h => (conv (by kernel_rfl) h)))

theorem zqz_45ok  : Ok Pr (zqz_43_M Q E) zqz_p4 (zqz_q2 Q E) E := fun τ H h =>
  (conv (by kernel_rfl) (vc_seq (K := (zqz_40_M Q E)) (zqz_44ok Q E τ H h) (zqz_42ok Q E)))

theorem zqz_46ok  : Ok Pr (zqz_43_M Q E) (sB (sB zqz_p0)) (zqz_q1 Q E) E := fun τ H h =>
  (conv (by kernel_rfl) (vc_seq (K := (zqz_1_M Q E)) (zqz_45ok Q E τ H h) (zqz_2ok Q E)))

def zqz_47 (Q : QT) (E : ET) (x0 : OA) (l0 c0 : Nat) (H : Heap) : Prop :=
 Does Pr 87 #[(.int .i64 (l0 : Int))] H (fun v150 H151 =>
 ∃ (p152 : OA) (l153 c154 : Nat), v150 = (.slice p152 l153 c154) ∧ Does Pr 85 #[(.slice p152 l153 c154), (.slice x0 l0 c0)] H151 (fun v155 H156 =>
 ∃ (p157 : OA) (l158 c159 : Nat), v155 = (.slice p157 l158 c159) ∧ zqz_43 Q E x0 l0 c0 p157 l158 c159 H156) E) E

def zqz_47_M  (τ : Tau) (H : Heap) : Prop := mSl (τ 0) fun x0 l0 c0 => zqz_47 Q E x0 l0 c0 H

theorem zqz_48ok  : Ok Pr (zqz_47_M Q E) (sA (sB zqz_p0)) (xthen (zqz_43_M Q E) (zqz_q1 Q E)) E := fun τ H h =>
  wSl 0 h (fun x0 l0 c0 h => (conv (by kernel_rfl) h))

theorem zqz_49ok  : Ok Pr (zqz_47_M Q E) (sB zqz_p0) (zqz_q1 Q E) E := fun τ H h =>
  (conv (by kernel_rfl) (vc_seq (K := (zqz_43_M Q E)) (zqz_48ok Q E τ H h) (zqz_46ok Q E)))

def zqz (Q : QT) (E : ET) (a0 : OA) (a0l : Nat) (a0c : Nat) (H : Heap) : Prop :=
 zqz_47 Q E a0 a0l a0c H

theorem zqz_fn (a0 : OA) (a0l : Nat) (a0c : Nat) (Q : QT) (E : ET) (H : Heap) (h : zqz Q E a0 a0l a0c H)   : Does Pr 86 #[(.slice a0 a0l a0c)] H Q E :=
  Fn_of_vc (fn := Try.f86) (c := zqz_p0) (args := [(.slice a0 a0l a0c)]) mixed (by kernel_rfl) (by kernel_rfl) (by kernel_rfl) (by kernel_rfl) (by kernel_rfl) ((conv (B := vc Pr zqz_p0 (argT [(.slice a0 a0l a0c)]) (zqz_q1 Q E) E H) (by kernel_rfl) (vc_seq (K := (zqz_47_M Q E)) (conv (B := vc Pr (sA zqz_p0) (argT [(.slice a0 a0l a0c)]) (xthen (zqz_47_M Q E) (zqz_q1 Q E)) E H) (by kernel_rfl) h) (zqz_49ok Q E))))

/-! jobmux/jobmuxref09.stay -/
noncomputable def zqa1_q1 (Q : QT) (E : ET) : XT := (retQ Pr (Try.f87).results.toList Q)

noncomputable def zqa1_p2 : Code := sB (sB (bodyOf Try.f87))

def zqa1_1 (Q : QT) (E : ET) (x3 : OA) (l3 c3 : Nat) (H : Heap) : Prop :=
 Q (.slice x3 l3 c3) H

def zqa1_1_M  (τ : Tau) (H : Heap) : Prop := mSl (τ 3) fun x3 l3 c3 => zqa1_1 Q E x3 l3 c3 H

theorem zqa1_2ok  : Ok Pr (zqa1_1_M Q E) (sB zqa1_p2) (zqa1_q1 Q E) E := fun τ H h =>
  wSl 3 h (fun x3 l3 c3 h => (conv (by kernel_rfl) h))

noncomputable def zqa1_q2  : XT := (xthen (zqa1_1_M Q E) (zqa1_q1 Q E))

noncomputable def zqa1_p6 : Code := sI (sB (sA zqa1_p2))

noncomputable def zqa1_q4 (nx12 : Int → HP) : XT := (xthen (fun τ H => mI .i64 (τ 4) fun x4' => nx12 x4' H) (xblock 0 (zqa1_q2 Q E)))

def zqa1_3 (nx12 : Int → HP) (Q : QT) (E : ET) (x0 : Int) (x3 : OA) (l3 c3 : Nat) (x4 : Int) (H : Heap) : Prop :=
 (0 ≤ x4 ∧ x4 < (l3 : Int)) ∧ ptr x3 fun q13 =>
 ldSl (Addr.add q13 (x4.toNat * 1)) H fun p14 l15 c16 =>
 (0 ≤ x4 ∧ x4 < (l15 : Int)) ∧ ptr p14 fun q17 =>
 wr (Addr.add q17 (x4.toNat * 1)) [(.bool true)] H fun H18 =>
 nx12 (IntKind.wrap .i64 (x4 + 1)) H18

def zqa1_3_M (nx12 : Int → HP) (τ : Tau) (H : Heap) : Prop := mI .i64 (τ 0) fun x0 => mSl (τ 3) fun x3 l3 c3 => mI .i64 (τ 4) fun x4 => zqa1_3 nx12 Q E x0 x3 l3 c3 x4 H

theorem zqa1_4ok (nx12 : Int → HP) : Ok Pr (zqa1_3_M Q E nx12) (sB (sI zqa1_p6)) (zqa1_q4 Q E nx12) E := fun τ H h =>
  wI 0 h (fun x0 h => wSl 3 h (fun x3 l3 c3 h => wI 4 h (fun x4 h => (conv (by kernel_rfl) h))))

noncomputable def zqa1_q5 (nx12 : Int → HP) : XT := (xthen (zqa1_3_M Q E nx12) (zqa1_q4 Q E nx12))

def zqa1_5 (nx12 : Int → HP) (Q : QT) (E : ET) (x0 : Int) (x3 : OA) (l3 c3 : Nat) (x4 : Int) (H : Heap) : Prop :=
 sel (decide (x4 < x0))
 (zqa1_3 nx12 Q E x0 x3 l3 c3 x4 H)
 (zqa1_1 Q E x3 l3 c3 H)

def zqa1_5_M (nx12 : Int → HP) (τ : Tau) (H : Heap) : Prop := mI .i64 (τ 0) fun x0 => mSl (τ 3) fun x3 l3 c3 => mI .i64 (τ 4) fun x4 => zqa1_5 nx12 Q E x0 x3 l3 c3 x4 H

theorem zqa1_6ok (nx12 : Int → HP) : Ok Pr (zqa1_5_M Q E nx12) (sA (sI zqa1_p6)) (zqa1_q5 Q E nx12) E := fun τ H h =>
  wI 0 h (fun x0 h => wSl 3 h (fun x3 l3 c3 h => wI 4 h (fun x4 h => (conv (by kernel_rfl) h))))

theorem zqa1_7ok (nx12 : Int → HP) : Ok Pr (zqa1_5_M Q E nx12) (sI zqa1_p6) (zqa1_q4 Q E nx12) E := fun τ H h =>
  (conv (by kernel_rfl) (vc_seq (K := (zqa1_3_M Q E nx12)) (zqa1_6ok Q E nx12 τ H h) (zqa1_4ok Q E nx12)))

def zqa1_8 (Q : QT) (E : ET) (x0 : Int) (x3 : OA) (l3 c3 : Nat) (x4 : Int) (H : Heap) : Prop :=
 ∃ (I : Int → HP) (μ : Int → Heap → Nat), I x4 H ∧ ∀ (x4 : Int) (H : Heap), I x4 H →
 zqa1_5 (fun x4' H1 => I x4' H1 ∧ μ x4' H1 < μ x4 H) Q E x0 x3 l3 c3 x4 H

def zqa1_8_M  (τ : Tau) (H : Heap) : Prop := mI .i64 (τ 0) fun x0 => mSl (τ 3) fun x3 l3 c3 => mI .i64 (τ 4) fun x4 => zqa1_8 Q E x0 x3 l3 c3 x4 H

theorem zqa1_9ok  : Ok Pr (zqa1_8_M Q E) zqa1_p6 (xblock 0 (zqa1_q2 Q E)) E := fun τ H h =>
  wI 0 h (fun x0 h => wSl 3 h (fun x3 l3 c3 h => wI 4 h (fun x4 h => match h with | ⟨I, μ, h0, hr⟩ => (conv (by kernel_rfl) (vc_loopG (c := sI zqa1_p6) (τ := (Tau.upd (Tau.upd (Tau.upd τ 0 (.int .i64 x0)) 3 (.slice x3 l3 c3)) 4 (.int .i64 x4))) [0, 3] (fun τ H => mI .i64 (τ 4) fun x4' => I x4' H) (fun τ H => μ (gI (τ 4)) H) (by kernel_rfl) h0 (fun τ1 H1 hf hI => uF 0 (.int .i64 x0) (hf 0 (by simp)) (uF 3 (.slice x3 l3 c3) (hf 3 (by simp)) (uI 4 hI (fun x4r h => lgx (zqa1_7ok Q E (fun x4' H2 => I x4' H2 ∧ μ x4' H2 < μ x4r H1) (Tau.upd (Tau.upd (Tau.upd τ1 0 (.int .i64 x0)) 3 (.slice x3 l3 c3)) 4 (.int .i64 x4r)) H1 (conv (by kernel_rfl) (hr x4r H1 h))) (fun τ2 H2 hk => kI 4 hk (fun x4' h => conv (by kernel_rfl) h)))))))))))

theorem zqa1_10ok  : Ok Pr (zqa1_8_M Q E) (sB (sA zqa1_p2)) (zqa1_q2 Q E) E := fun τ H h =>
  (conv (by kernel_rfl) (zqa1_9ok Q E τ H h))

noncomputable def zqa1_q6  : XT := (xthen (zqa1_8_M Q E) (zqa1_q2 Q E))

def zqa1_11 (Q : QT) (E : ET) (x0 : Int) (x3 : OA) (l3 c3 : Nat) (H : Heap) : Prop :=
 zqa1_8 Q E x0 x3 l3 c3 0 H

def zqa1_11_M  (τ : Tau) (H : Heap) : Prop := mI .i64 (τ 0) fun x0 => mSl (τ 3) fun x3 l3 c3 => zqa1_11 Q E x0 x3 l3 c3 H

theorem zqa1_12ok  : Ok Pr (zqa1_11_M Q E) (sA (sA zqa1_p2)) (zqa1_q6 Q E) E := fun τ H h =>
  wI 0 h (fun x0 h => wSl 3 h (fun x3 l3 c3 h => (conv (by kernel_rfl) h)))

theorem zqa1_13ok  : Ok Pr (zqa1_11_M Q E) (sA zqa1_p2) (zqa1_q2 Q E) E := fun τ H h =>
  (conv (by kernel_rfl) (vc_seq (K := (zqa1_8_M Q E)) (zqa1_12ok Q E τ H h) (zqa1_10ok Q E)))

theorem zqa1_14ok  : Ok Pr (zqa1_11_M Q E) zqa1_p2 (zqa1_q1 Q E) E := fun τ H h =>
  (conv (by kernel_rfl) (vc_seq (K := (zqa1_1_M Q E)) (zqa1_13ok Q E τ H h) (zqa1_2ok Q E)))

def zqa1_15 (Q : QT) (E : ET) (x0 : Int) (H : Heap) : Prop :=
 Does Pr 99 #[(.int .i64 x0)] H (fun v19 H20 =>
 ∃ (p21 : OA) (l22 c23 : Nat), v19 = (.slice p21 l22 c23) ∧ zqa1_11 Q E x0 p21 l22 c23 H20) E

def zqa1_15_M  (τ : Tau) (H : Heap) : Prop := mI .i64 (τ 0) fun x0 => zqa1_15 Q E x0 H

theorem zqa1_16ok  : Ok Pr (zqa1_15_M Q E) (sA (sB (bodyOf Try.f87))) (xthen (zqa1_11_M Q E) (zqa1_q1 Q E)) E := fun τ H h =>
  wI 0 h (fun x0 h => (conv (by kernel_rfl) h))

theorem zqa1_17ok  : Ok Pr (zqa1_15_M Q E) (sB (bodyOf Try.f87)) (zqa1_q1 Q E) E := fun τ H h =>
  (conv (by kernel_rfl) (vc_seq (K := (zqa1_11_M Q E)) (zqa1_16ok Q E τ H h) (zqa1_14ok Q E)))

def zqa1 (Q : QT) (E : ET) (a0 : Int) (H : Heap) : Prop :=
 zqa1_15 Q E a0 H

theorem zqa1_fn (a0 : Int) (Q : QT) (E : ET) (H : Heap) (h : zqa1 Q E a0 H)   : Does Pr 87 #[(.int .i64 a0)] H Q E :=
  Fn_of_vc (fn := Try.f87) (c := (bodyOf Try.f87)) (args := [(.int .i64 a0)]) mixed (by kernel_rfl) (by kernel_rfl) (by kernel_rfl) (by kernel_rfl) (by kernel_rfl) ((conv (B := vc Pr (bodyOf Try.f87) (argT [(.int .i64 a0)]) (zqa1_q1 Q E) E H) (by kernel_rfl) (vc_seq (K := (zqa1_15_M Q E)) (conv (B := vc Pr (sA (bodyOf Try.f87)) (argT [(.int .i64 a0)]) (xthen (zqa1_15_M Q E) (zqa1_q1 Q E)) E H) (by kernel_rfl) h) (zqa1_17ok Q E))))

/-! jobmux/jobmuxref09.leaf -/
noncomputable def zqb1_q1 (Q : QT) (E : ET) : XT := (retQ Pr (Try.f88).results.toList Q)

noncomputable def zqb1_p1 : Code := sB (bodyOf Try.f88)

def zqb1_1 (Q : QT) (E : ET) (x6 : OA) (l6 c6 : Nat) (H : Heap) : Prop :=
 Q (.slice x6 l6 c6) H

def zqb1_1_M  (τ : Tau) (H : Heap) : Prop := mSl (τ 6) fun x6 l6 c6 => zqb1_1 Q E x6 l6 c6 H

theorem zqb1_2ok  : Ok Pr (zqb1_1_M Q E) (sB (sB (sB zqb1_p1))) (zqb1_q1 Q E) E := fun τ H h =>
  wSl 6 h (fun x6 l6 c6 h => (conv (by kernel_rfl) h))

noncomputable def zqb1_q2  : XT := (xthen (zqb1_1_M Q E) (zqb1_q1 Q E))

noncomputable def zqb1_p5 : Code := sA (sB (sB zqb1_p1))

noncomputable def zqb1_q3  : XT := (xblock 0 (zqb1_q2 Q E))

noncomputable def zqb1_q4 (nx46 : Int → HP) : XT := (xthen (fun τ H => mI .i64 (τ 7) fun x7' => nx46 x7' H) (zqb1_q3 Q E))

noncomputable def zqb1_p8 : Code := sI (sI (sB zqb1_p5))

def zqb1_3 (nx46 : Int → HP) (Q : QT) (E : ET) (x1 : OA) (l1 c1 : Nat) (x2 : OA) (x5 : Int) (x6 : OA) (l6 c6 : Nat) (x7 : Int) (H : Heap) : Prop :=
 nx46 (IntKind.wrap .i64 (x7 + 1)) H

def zqb1_3_M (nx46 : Int → HP) (τ : Tau) (H : Heap) : Prop := mSl (τ 1) fun x1 l1 c1 => mP (τ 2) fun x2 => mI .i64 (τ 5) fun x5 => mSl (τ 6) fun x6 l6 c6 => mI .i64 (τ 7) fun x7 => zqb1_3 nx46 Q E x1 l1 c1 x2 x5 x6 l6 c6 x7 H

theorem zqb1_4ok (nx46 : Int → HP) : Ok Pr (zqb1_3_M Q E nx46) (sB (sB zqb1_p8)) (zqb1_q4 Q E nx46) E := fun τ H h =>
  wSl 1 h (fun x1 l1 c1 h => wP 2 h (fun x2 h => wI 5 h (fun x5 h => wSl 6 h (fun x6 l6 c6 h => wI 7 h (fun x7 h => (conv (by kernel_rfl) h))))))

noncomputable def zqb1_q5 (nx46 : Int → HP) : XT := (xthen (zqb1_3_M Q E nx46) (zqb1_q4 Q E nx46))

noncomputable def zqb1_p12 : Code := sI (sA (sB zqb1_p8))

noncomputable def zqb1_q7 (nx46 : Int → HP) : XT := (xblock 2 (xblock 1 (zqb1_q5 Q E nx46)))

noncomputable def zqb1_p15 : Code := sB (sI (sB zqb1_p12))

def zqb1_5 (nx46 : Int → HP) (Q : QT) (E : ET) (x1 : OA) (l1 c1 : Nat) (x2 : OA) (x5 : Int) (x6 : OA) (l6 c6 : Nat) (x7 : Int) (H : Heap) : Prop :=
 (0 ≤ x7 ∧ x7 < (l6 : Int)) ∧ ptr x6 fun q93 =>
 ldSl (Addr.add q93 (x7.toNat * 1)) H fun p94 l95 c96 =>
 (0 ≤ x7 ∧ x7 < (l95 : Int)) ∧ ptr p94 fun q97 =>
 wr (Addr.add q97 (x7.toNat * 1)) [(.bool true)] H fun H98 =>
 zqb1_3 nx46 Q E x1 l1 c1 x2 x5 x6 l6 c6 x7 H98

def zqb1_5_M (nx46 : Int → HP) (τ : Tau) (H : Heap) : Prop := mSl (τ 1) fun x1 l1 c1 => mP (τ 2) fun x2 => mI .i64 (τ 5) fun x5 => mSl (τ 6) fun x6 l6 c6 => mI .i64 (τ 7) fun x7 => zqb1_5 nx46 Q E x1 l1 c1 x2 x5 x6 l6 c6 x7 H

theorem zqb1_6ok (nx46 : Int → HP) : Ok Pr (zqb1_5_M Q E nx46) (sT zqb1_p15) (zqb1_q7 Q E nx46) E := fun τ H h =>
  wSl 1 h (fun x1 l1 c1 h => wP 2 h (fun x2 h => wI 5 h (fun x5 h => wSl 6 h (fun x6 l6 c6 h => wI 7 h (fun x7 h => (conv (by kernel_rfl) h))))))

noncomputable def zqb1_p18 : Code := sB (sE zqb1_p15)

def zqb1_7 (nx46 : Int → HP) (Q : QT) (E : ET) (x1 : OA) (l1 c1 : Nat) (x2 : OA) (x5 : Int) (x6 : OA) (l6 c6 : Nat) (x7 : Int) (H : Heap) : Prop :=
 (0 ≤ x7 ∧ x7 < (l6 : Int)) ∧ ptr x6 fun q99 =>
 ldSl (Addr.add q99 (x7.toNat * 1)) H fun p100 l101 c102 =>
 sel (x7 == 0)
 ((0 ≤ x7 ∧ x7 < (l101 : Int)) ∧ ptr p100 fun q103 =>
 wr (Addr.add q103 (x7.toNat * 1)) [(.bool true)] H fun H104 =>
 zqb1_3 nx46 Q E x1 l1 c1 x2 x5 x6 l6 c6 x7 H104)
 ((0 ≤ ((IntKind.wrap .i64 (x7 - 1)) : Int) ∧ ((IntKind.wrap .i64 (x7 - 1)) : Int) < (l1 : Int)) ∧ ptr x1 fun q105 =>
 ldI .u8 (Addr.add q105 (((IntKind.wrap .i64 (x7 - 1)) : Int).toNat * 1)) H fun n106 =>
 (0 ≤ x7 ∧ x7 < (l101 : Int)) ∧ ptr p100 fun q107 =>
 wr (Addr.add q107 (x7.toNat * 1)) [(.bool (n106 == 10))] H fun H108 =>
 zqb1_3 nx46 Q E x1 l1 c1 x2 x5 x6 l6 c6 x7 H108)

def zqb1_7_M (nx46 : Int → HP) (τ : Tau) (H : Heap) : Prop := mSl (τ 1) fun x1 l1 c1 => mP (τ 2) fun x2 => mI .i64 (τ 5) fun x5 => mSl (τ 6) fun x6 l6 c6 => mI .i64 (τ 7) fun x7 => zqb1_7 nx46 Q E x1 l1 c1 x2 x5 x6 l6 c6 x7 H

theorem zqb1_8ok (nx46 : Int → HP) : Ok Pr (zqb1_7_M Q E nx46) (sT zqb1_p18) (zqb1_q7 Q E nx46) E := fun τ H h =>
  wSl 1 h (fun x1 l1 c1 h => wP 2 h (fun x2 h => wI 5 h (fun x5 h => wSl 6 h (fun x6 l6 c6 h => wI 7 h (fun x7 h => (conv (by kernel_rfl) h))))))

noncomputable def zqb1_p21 : Code := sB (sE zqb1_p18)

def zqb1_9 (nx46 : Int → HP) (Q : QT) (E : ET) (x1 : OA) (l1 c1 : Nat) (x2 : OA) (x5 : Int) (x6 : OA) (l6 c6 : Nat) (x7 : Int) (H : Heap) : Prop :=
 (0 ≤ x7 ∧ x7 < (l6 : Int)) ∧ ptr x6 fun q109 =>
 ldSl (Addr.add q109 (x7.toNat * 1)) H fun p110 l111 c112 =>
 sel (decide (x7 < x5))
 ((0 ≤ x7 ∧ x7 < (l1 : Int)) ∧ ptr x1 fun q113 =>
 ldI .u8 (Addr.add q113 (x7.toNat * 1)) H fun n114 =>
 (0 ≤ x7 ∧ x7 < (l111 : Int)) ∧ ptr p110 fun q115 =>
 wr (Addr.add q115 (x7.toNat * 1)) [(.bool (n114 == 10))] H fun H116 =>
 zqb1_3 nx46 Q E x1 l1 c1 x2 x5 x6 l6 c6 x7 H116)
 ((0 ≤ x7 ∧ x7 < (l111 : Int)) ∧ ptr p110 fun q117 =>
 wr (Addr.add q117 (x7.toNat * 1)) [(.bool false)] H fun H118 =>
 zqb1_3 nx46 Q E x1 l1 c1 x2 x5 x6 l6 c6 x7 H118)

def zqb1_9_M (nx46 : Int → HP) (τ : Tau) (H : Heap) : Prop := mSl (τ 1) fun x1 l1 c1 => mP (τ 2) fun x2 => mI .i64 (τ 5) fun x5 => mSl (τ 6) fun x6 l6 c6 => mI .i64 (τ 7) fun x7 => zqb1_9 nx46 Q E x1 l1 c1 x2 x5 x6 l6 c6 x7 H

theorem zqb1_10ok (nx46 : Int → HP) : Ok Pr (zqb1_9_M Q E nx46) (sT zqb1_p21) (zqb1_q7 Q E nx46) E := fun τ H h =>
  wSl 1 h (fun x1 l1 c1 h => wP 2 h (fun x2 h => wI 5 h (fun x5 h => wSl 6 h (fun x6 l6 c6 h => wI 7 h (fun x7 h => (conv (by kernel_rfl) h))))))

noncomputable def zqb1_p24 : Code := sB (sE zqb1_p21)

noncomputable def zqb1_p25 : Code := sT zqb1_p24

def zqb1_11 (nx46 : Int → HP) (Q : QT) (E : ET) (x1 : OA) (l1 c1 : Nat) (x2 : OA) (x5 : Int) (x6 : OA) (l6 c6 : Nat) (x7 : Int) (x77 : Bool) (H : Heap) : Prop :=
 sel x77
 ((0 ≤ x7 ∧ x7 < (l6 : Int)) ∧ ptr x6 fun q129 =>
 ldSl (Addr.add q129 (x7.toNat * 1)) H fun p130 l131 c132 =>
 (0 ≤ ((IntKind.wrap .i64 (x7 + 1)) : Int) ∧ ((IntKind.wrap .i64 (x7 + 1)) : Int) < (l131 : Int)) ∧ ptr p130 fun q133 =>
 wr (Addr.add q133 (((IntKind.wrap .i64 (x7 + 1)) : Int).toNat * 1)) [(.bool true)] H fun H134 =>
 zqb1_3 nx46 Q E x1 l1 c1 x2 x5 x6 l6 c6 x7 H134)
 (zqb1_3 nx46 Q E x1 l1 c1 x2 x5 x6 l6 c6 x7 H)

def zqb1_11_M (nx46 : Int → HP) (τ : Tau) (H : Heap) : Prop := mSl (τ 1) fun x1 l1 c1 => mP (τ 2) fun x2 => mI .i64 (τ 5) fun x5 => mSl (τ 6) fun x6 l6 c6 => mI .i64 (τ 7) fun x7 => mB (τ 77) fun x77 => zqb1_11 nx46 Q E x1 l1 c1 x2 x5 x6 l6 c6 x7 x77 H

theorem zqb1_12ok (nx46 : Int → HP) : Ok Pr (zqb1_11_M Q E nx46) (sB zqb1_p25) (zqb1_q7 Q E nx46) E := fun τ H h =>
  wSl 1 h (fun x1 l1 c1 h => wP 2 h (fun x2 h => wI 5 h (fun x5 h => wSl 6 h (fun x6 l6 c6 h => wI 7 h (fun x7 h => wB 77 h (fun x77 h => (conv (by kernel_rfl) h)))))))

noncomputable def zqb1_q8 (nx46 : Int → HP) : XT := (xthen (zqb1_11_M Q E nx46) (zqb1_q7 Q E nx46))

def zqb1_13 (nx46 : Int → HP) (Q : QT) (E : ET) (x1 : OA) (l1 c1 : Nat) (x2 : OA) (x5 : Int) (x6 : OA) (l6 c6 : Nat) (x7 : Int) (H : Heap) : Prop :=
 sel (decide (x7 < x5))
 (ptr x2 fun q135 =>
 ∃ n136 n137 n138 n139 : Int, Heap.rd H (Addr.add q135 3) 0 [(.int .u64 n136), (.int .u64 n137), (.int .u64 n138), (.int .u64 n139)] ∧ (0 ≤ x7 ∧ x7 < (l1 : Int)) ∧ ptr x1 fun q140 =>
 ldI .u8 (Addr.add q140 (x7.toNat * 1)) H fun n141 =>
 Does Pr 73 #[(.agg #[(.int .u64 n136), (.int .u64 n137), (.int .u64 n138), (.int .u64 n139)]), (.int .u8 n141)] H (fun v142 H143 =>
 ∃ b144 : Bool, v142 = (.bool b144) ∧ zqb1_11 nx46 Q E x1 l1 c1 x2 x5 x6 l6 c6 x7 b144 H143) (fun _ _ => False))
 (zqb1_11 nx46 Q E x1 l1 c1 x2 x5 x6 l6 c6 x7 false H)

def zqb1_13_M (nx46 : Int → HP) (τ : Tau) (H : Heap) : Prop := mSl (τ 1) fun x1 l1 c1 => mP (τ 2) fun x2 => mI .i64 (τ 5) fun x5 => mSl (τ 6) fun x6 l6 c6 => mI .i64 (τ 7) fun x7 => zqb1_13 nx46 Q E x1 l1 c1 x2 x5 x6 l6 c6 x7 H

theorem zqb1_14ok (nx46 : Int → HP) : Ok Pr (zqb1_13_M Q E nx46) (sA zqb1_p25) (zqb1_q8 Q E nx46) E := fun τ H h =>
  wSl 1 h (fun x1 l1 c1 h => wP 2 h (fun x2 h => wI 5 h (fun x5 h => wSl 6 h (fun x6 l6 c6 h => wI 7 h (fun x7 h => (conv (by kernel_rfl) h))))))

theorem zqb1_15ok (nx46 : Int → HP) : Ok Pr (zqb1_13_M Q E nx46) zqb1_p25 (zqb1_q7 Q E nx46) E := fun τ H h =>
  (conv (by kernel_rfl) (vc_seq (K := (zqb1_11_M Q E nx46)) (zqb1_14ok Q E nx46 τ H h) (zqb1_12ok Q E nx46)))

def zqb1_16 (nx46 : Int → HP) (Q : QT) (E : ET) (x1 : OA) (l1 c1 : Nat) (x2 : OA) (x5 : Int) (x6 : OA) (l6 c6 : Nat) (x7 : Int) (H : Heap) : Prop :=
 zqb1_3 nx46 Q E x1 l1 c1 x2 x5 x6 l6 c6 x7 H

def zqb1_16_M (nx46 : Int → HP) (τ : Tau) (H : Heap) : Prop := mSl (τ 1) fun x1 l1 c1 => mP (τ 2) fun x2 => mI .i64 (τ 5) fun x5 => mSl (τ 6) fun x6 l6 c6 => mI .i64 (τ 7) fun x7 => zqb1_16 nx46 Q E x1 l1 c1 x2 x5 x6 l6 c6 x7 H

theorem zqb1_17ok (nx46 : Int → HP) : Ok Pr (zqb1_16_M Q E nx46) (sE zqb1_p24) (zqb1_q7 Q E nx46) E := fun τ H h =>
  wSl 1 h (fun x1 l1 c1 h => wP 2 h (fun x2 h => wI 5 h (fun x5 h => wSl 6 h (fun x6 l6 c6 h => wI 7 h (fun x7 h => (conv (by kernel_rfl) h))))))

def zqb1_18 (nx46 : Int → HP) (Q : QT) (E : ET) (x1 : OA) (l1 c1 : Nat) (x2 : OA) (x5 : Int) (x6 : OA) (l6 c6 : Nat) (x7 : Int) (x64 : Bool) (H : Heap) : Prop :=
 sel x64
 (zqb1_13 nx46 Q E x1 l1 c1 x2 x5 x6 l6 c6 x7 H)
 (zqb1_16 nx46 Q E x1 l1 c1 x2 x5 x6 l6 c6 x7 H)

def zqb1_18_M (nx46 : Int → HP) (τ : Tau) (H : Heap) : Prop := mSl (τ 1) fun x1 l1 c1 => mP (τ 2) fun x2 => mI .i64 (τ 5) fun x5 => mSl (τ 6) fun x6 l6 c6 => mI .i64 (τ 7) fun x7 => mB (τ 64) fun x64 => zqb1_18 nx46 Q E x1 l1 c1 x2 x5 x6 l6 c6 x7 x64 H

theorem zqb1_19ok (nx46 : Int → HP) : Ok Pr (zqb1_18_M Q E nx46) zqb1_p24 (zqb1_q7 Q E nx46) E := fun τ H h =>
  wSl 1 h (fun x1 l1 c1 h => wP 2 h (fun x2 h => wI 5 h (fun x5 h => wSl 6 h (fun x6 l6 c6 h => wI 7 h (fun x7 h => wB 64 h (fun x64 h => (conv (by kernel_rfl) (sel_mapT (b := x64) (τ := (Tau.upd (Tau.upd (Tau.upd (Tau.upd (Tau.upd (Tau.upd τ 1 (.slice x1 l1 c1)) 2 (.pointer x2)) 5 (.int .i64 x5)) 6 (.slice x6 l6 c6)) 7 (.int .i64 x7)) 64 (.bool x64))) (H := H) (zqb1_15ok Q E nx46) (zqb1_17ok Q E nx46) (conv (by kernel_rfl) h)))))))))

noncomputable def zqb1_q9 (nx46 : Int → HP) : XT := (xthen (zqb1_18_M Q E nx46) (zqb1_q7 Q E nx46))

def zqb1_20 (nx46 : Int → HP) (Q : QT) (E : ET) (x1 : OA) (l1 c1 : Nat) (x2 : OA) (x5 : Int) (x6 : OA) (l6 c6 : Nat) (x7 x19 : Int) (H : Heap) : Prop :=
 zqb1_18 nx46 Q E x1 l1 c1 x2 x5 x6 l6 c6 x7 (x19 == 2) H

def zqb1_20_M (nx46 : Int → HP) (τ : Tau) (H : Heap) : Prop := mSl (τ 1) fun x1 l1 c1 => mP (τ 2) fun x2 => mI .i64 (τ 5) fun x5 => mSl (τ 6) fun x6 l6 c6 => mI .i64 (τ 7) fun x7 => mI .i64 (τ 19) fun x19 => zqb1_20 nx46 Q E x1 l1 c1 x2 x5 x6 l6 c6 x7 x19 H

theorem zqb1_21ok (nx46 : Int → HP) : Ok Pr (zqb1_20_M Q E nx46) (sA (sE zqb1_p21)) (zqb1_q9 Q E nx46) E := fun τ H h =>
  wSl 1 h (fun x1 l1 c1 h => wP 2 h (fun x2 h => wI 5 h (fun x5 h => wSl 6 h (fun x6 l6 c6 h => wI 7 h (fun x7 h => wI 19 h (fun x19 h => (conv (by kernel_rfl) h)))))))

theorem zqb1_22ok (nx46 : Int → HP) : Ok Pr (zqb1_20_M Q E nx46) (sE zqb1_p21) (zqb1_q7 Q E nx46) E := fun τ H h =>
  (conv (by kernel_rfl) (vc_seq (K := (zqb1_18_M Q E nx46)) (zqb1_21ok Q E nx46 τ H h) (zqb1_19ok Q E nx46)))

def zqb1_23 (nx46 : Int → HP) (Q : QT) (E : ET) (x1 : OA) (l1 c1 : Nat) (x2 : OA) (x5 : Int) (x6 : OA) (l6 c6 : Nat) (x7 x19 : Int) (x46 : Bool) (H : Heap) : Prop :=
 sel x46
 (zqb1_9 nx46 Q E x1 l1 c1 x2 x5 x6 l6 c6 x7 H)
 (zqb1_20 nx46 Q E x1 l1 c1 x2 x5 x6 l6 c6 x7 x19 H)

def zqb1_23_M (nx46 : Int → HP) (τ : Tau) (H : Heap) : Prop := mSl (τ 1) fun x1 l1 c1 => mP (τ 2) fun x2 => mI .i64 (τ 5) fun x5 => mSl (τ 6) fun x6 l6 c6 => mI .i64 (τ 7) fun x7 => mI .i64 (τ 19) fun x19 => mB (τ 46) fun x46 => zqb1_23 nx46 Q E x1 l1 c1 x2 x5 x6 l6 c6 x7 x19 x46 H

theorem zqb1_24ok (nx46 : Int → HP) : Ok Pr (zqb1_23_M Q E nx46) zqb1_p21 (zqb1_q7 Q E nx46) E := fun τ H h =>
  wSl 1 h (fun x1 l1 c1 h => wP 2 h (fun x2 h => wI 5 h (fun x5 h => wSl 6 h (fun x6 l6 c6 h => wI 7 h (fun x7 h => wI 19 h (fun x19 h => wB 46 h (fun x46 h => (conv (by kernel_rfl) (sel_mapT (b := x46) (τ := (Tau.upd (Tau.upd (Tau.upd (Tau.upd (Tau.upd (Tau.upd (Tau.upd τ 1 (.slice x1 l1 c1)) 2 (.pointer x2)) 5 (.int .i64 x5)) 6 (.slice x6 l6 c6)) 7 (.int .i64 x7)) 19 (.int .i64 x19)) 46 (.bool x46))) (H := H) (zqb1_10ok Q E nx46) (zqb1_22ok Q E nx46) (conv (by kernel_rfl) h))))))))))

noncomputable def zqb1_q10 (nx46 : Int → HP) : XT := (xthen (zqb1_23_M Q E nx46) (zqb1_q7 Q E nx46))

def zqb1_25 (nx46 : Int → HP) (Q : QT) (E : ET) (x1 : OA) (l1 c1 : Nat) (x2 : OA) (x5 : Int) (x6 : OA) (l6 c6 : Nat) (x7 x19 : Int) (H : Heap) : Prop :=
 zqb1_23 nx46 Q E x1 l1 c1 x2 x5 x6 l6 c6 x7 x19 (x19 == 9) H

def zqb1_25_M (nx46 : Int → HP) (τ : Tau) (H : Heap) : Prop := mSl (τ 1) fun x1 l1 c1 => mP (τ 2) fun x2 => mI .i64 (τ 5) fun x5 => mSl (τ 6) fun x6 l6 c6 => mI .i64 (τ 7) fun x7 => mI .i64 (τ 19) fun x19 => zqb1_25 nx46 Q E x1 l1 c1 x2 x5 x6 l6 c6 x7 x19 H

theorem zqb1_26ok (nx46 : Int → HP) : Ok Pr (zqb1_25_M Q E nx46) (sA (sE zqb1_p18)) (zqb1_q10 Q E nx46) E := fun τ H h =>
  wSl 1 h (fun x1 l1 c1 h => wP 2 h (fun x2 h => wI 5 h (fun x5 h => wSl 6 h (fun x6 l6 c6 h => wI 7 h (fun x7 h => wI 19 h (fun x19 h => (conv (by kernel_rfl) h)))))))

theorem zqb1_27ok (nx46 : Int → HP) : Ok Pr (zqb1_25_M Q E nx46) (sE zqb1_p18) (zqb1_q7 Q E nx46) E := fun τ H h =>
  (conv (by kernel_rfl) (vc_seq (K := (zqb1_23_M Q E nx46)) (zqb1_26ok Q E nx46 τ H h) (zqb1_24ok Q E nx46)))

def zqb1_28 (nx46 : Int → HP) (Q : QT) (E : ET) (x1 : OA) (l1 c1 : Nat) (x2 : OA) (x5 : Int) (x6 : OA) (l6 c6 : Nat) (x7 x19 : Int) (x28 : Bool) (H : Heap) : Prop :=
 sel x28
 (zqb1_7 nx46 Q E x1 l1 c1 x2 x5 x6 l6 c6 x7 H)
 (zqb1_25 nx46 Q E x1 l1 c1 x2 x5 x6 l6 c6 x7 x19 H)

def zqb1_28_M (nx46 : Int → HP) (τ : Tau) (H : Heap) : Prop := mSl (τ 1) fun x1 l1 c1 => mP (τ 2) fun x2 => mI .i64 (τ 5) fun x5 => mSl (τ 6) fun x6 l6 c6 => mI .i64 (τ 7) fun x7 => mI .i64 (τ 19) fun x19 => mB (τ 28) fun x28 => zqb1_28 nx46 Q E x1 l1 c1 x2 x5 x6 l6 c6 x7 x19 x28 H

theorem zqb1_29ok (nx46 : Int → HP) : Ok Pr (zqb1_28_M Q E nx46) zqb1_p18 (zqb1_q7 Q E nx46) E := fun τ H h =>
  wSl 1 h (fun x1 l1 c1 h => wP 2 h (fun x2 h => wI 5 h (fun x5 h => wSl 6 h (fun x6 l6 c6 h => wI 7 h (fun x7 h => wI 19 h (fun x19 h => wB 28 h (fun x28 h => (conv (by kernel_rfl) (sel_mapT (b := x28) (τ := (Tau.upd (Tau.upd (Tau.upd (Tau.upd (Tau.upd (Tau.upd (Tau.upd τ 1 (.slice x1 l1 c1)) 2 (.pointer x2)) 5 (.int .i64 x5)) 6 (.slice x6 l6 c6)) 7 (.int .i64 x7)) 19 (.int .i64 x19)) 28 (.bool x28))) (H := H) (zqb1_8ok Q E nx46) (zqb1_27ok Q E nx46) (conv (by kernel_rfl) h))))))))))

noncomputable def zqb1_q11 (nx46 : Int → HP) : XT := (xthen (zqb1_28_M Q E nx46) (zqb1_q7 Q E nx46))

def zqb1_30 (nx46 : Int → HP) (Q : QT) (E : ET) (x1 : OA) (l1 c1 : Nat) (x2 : OA) (x5 : Int) (x6 : OA) (l6 c6 : Nat) (x7 x19 : Int) (H : Heap) : Prop :=
 zqb1_28 nx46 Q E x1 l1 c1 x2 x5 x6 l6 c6 x7 x19 (x19 == 8) H

def zqb1_30_M (nx46 : Int → HP) (τ : Tau) (H : Heap) : Prop := mSl (τ 1) fun x1 l1 c1 => mP (τ 2) fun x2 => mI .i64 (τ 5) fun x5 => mSl (τ 6) fun x6 l6 c6 => mI .i64 (τ 7) fun x7 => mI .i64 (τ 19) fun x19 => zqb1_30 nx46 Q E x1 l1 c1 x2 x5 x6 l6 c6 x7 x19 H

theorem zqb1_31ok (nx46 : Int → HP) : Ok Pr (zqb1_30_M Q E nx46) (sA (sE zqb1_p15)) (zqb1_q11 Q E nx46) E := fun τ H h =>
  wSl 1 h (fun x1 l1 c1 h => wP 2 h (fun x2 h => wI 5 h (fun x5 h => wSl 6 h (fun x6 l6 c6 h => wI 7 h (fun x7 h => wI 19 h (fun x19 h => (conv (by kernel_rfl) h)))))))

theorem zqb1_32ok (nx46 : Int → HP) : Ok Pr (zqb1_30_M Q E nx46) (sE zqb1_p15) (zqb1_q7 Q E nx46) E := fun τ H h =>
  (conv (by kernel_rfl) (vc_seq (K := (zqb1_28_M Q E nx46)) (zqb1_31ok Q E nx46 τ H h) (zqb1_29ok Q E nx46)))

def zqb1_33 (nx46 : Int → HP) (Q : QT) (E : ET) (x1 : OA) (l1 c1 : Nat) (x2 : OA) (x5 : Int) (x6 : OA) (l6 c6 : Nat) (x7 x19 : Int) (x20 : Bool) (H : Heap) : Prop :=
 sel x20
 (zqb1_5 nx46 Q E x1 l1 c1 x2 x5 x6 l6 c6 x7 H)
 (zqb1_30 nx46 Q E x1 l1 c1 x2 x5 x6 l6 c6 x7 x19 H)

def zqb1_33_M (nx46 : Int → HP) (τ : Tau) (H : Heap) : Prop := mSl (τ 1) fun x1 l1 c1 => mP (τ 2) fun x2 => mI .i64 (τ 5) fun x5 => mSl (τ 6) fun x6 l6 c6 => mI .i64 (τ 7) fun x7 => mI .i64 (τ 19) fun x19 => mB (τ 20) fun x20 => zqb1_33 nx46 Q E x1 l1 c1 x2 x5 x6 l6 c6 x7 x19 x20 H

theorem zqb1_34ok (nx46 : Int → HP) : Ok Pr (zqb1_33_M Q E nx46) zqb1_p15 (zqb1_q7 Q E nx46) E := fun τ H h =>
  wSl 1 h (fun x1 l1 c1 h => wP 2 h (fun x2 h => wI 5 h (fun x5 h => wSl 6 h (fun x6 l6 c6 h => wI 7 h (fun x7 h => wI 19 h (fun x19 h => wB 20 h (fun x20 h => (conv (by kernel_rfl) (sel_mapT (b := x20) (τ := (Tau.upd (Tau.upd (Tau.upd (Tau.upd (Tau.upd (Tau.upd (Tau.upd τ 1 (.slice x1 l1 c1)) 2 (.pointer x2)) 5 (.int .i64 x5)) 6 (.slice x6 l6 c6)) 7 (.int .i64 x7)) 19 (.int .i64 x19)) 20 (.bool x20))) (H := H) (zqb1_6ok Q E nx46) (zqb1_32ok Q E nx46) (conv (by kernel_rfl) h))))))))))

noncomputable def zqb1_q12 (nx46 : Int → HP) : XT := (xthen (zqb1_33_M Q E nx46) (zqb1_q7 Q E nx46))

def zqb1_35 (nx46 : Int → HP) (Q : QT) (E : ET) (x1 : OA) (l1 c1 : Nat) (x2 : OA) (x5 : Int) (x6 : OA) (l6 c6 : Nat) (x7 x19 : Int) (H : Heap) : Prop :=
 zqb1_33 nx46 Q E x1 l1 c1 x2 x5 x6 l6 c6 x7 x19 (x19 == 1) H

def zqb1_35_M (nx46 : Int → HP) (τ : Tau) (H : Heap) : Prop := mSl (τ 1) fun x1 l1 c1 => mP (τ 2) fun x2 => mI .i64 (τ 5) fun x5 => mSl (τ 6) fun x6 l6 c6 => mI .i64 (τ 7) fun x7 => mI .i64 (τ 19) fun x19 => zqb1_35 nx46 Q E x1 l1 c1 x2 x5 x6 l6 c6 x7 x19 H

theorem zqb1_36ok (nx46 : Int → HP) : Ok Pr (zqb1_35_M Q E nx46) (sA (sI (sB zqb1_p12))) (zqb1_q12 Q E nx46) E := fun τ H h =>
  wSl 1 h (fun x1 l1 c1 h => wP 2 h (fun x2 h => wI 5 h (fun x5 h => wSl 6 h (fun x6 l6 c6 h => wI 7 h (fun x7 h => wI 19 h (fun x19 h => (conv (by kernel_rfl) h)))))))

theorem zqb1_37ok (nx46 : Int → HP) : Ok Pr (zqb1_35_M Q E nx46) (sI (sB zqb1_p12)) (zqb1_q7 Q E nx46) E := fun τ H h =>
  (conv (by kernel_rfl) (vc_seq (K := (zqb1_33_M Q E nx46)) (zqb1_36ok Q E nx46 τ H h) (zqb1_34ok Q E nx46)))

theorem zqb1_38ok (nx46 : Int → HP) : Ok Pr (zqb1_35_M Q E nx46) (sB zqb1_p12) (xblock 1 (zqb1_q5 Q E nx46)) E := fun τ H h =>
  (conv (by kernel_rfl) (zqb1_37ok Q E nx46 τ H h))

noncomputable def zqb1_q13 (nx46 : Int → HP) : XT := (xthen (zqb1_35_M Q E nx46) (xblock 1 (zqb1_q5 Q E nx46)))

def zqb1_39 (nx46 : Int → HP) (Q : QT) (E : ET) (x1 : OA) (l1 c1 : Nat) (x2 : OA) (x5 : Int) (x6 : OA) (l6 c6 : Nat) (x7 : Int) (H : Heap) : Prop :=
 ptr x2 fun q145 =>
 ldI .i64 q145 H fun n146 =>
 zqb1_35 nx46 Q E x1 l1 c1 x2 x5 x6 l6 c6 x7 n146 H

def zqb1_39_M (nx46 : Int → HP) (τ : Tau) (H : Heap) : Prop := mSl (τ 1) fun x1 l1 c1 => mP (τ 2) fun x2 => mI .i64 (τ 5) fun x5 => mSl (τ 6) fun x6 l6 c6 => mI .i64 (τ 7) fun x7 => zqb1_39 nx46 Q E x1 l1 c1 x2 x5 x6 l6 c6 x7 H

theorem zqb1_40ok (nx46 : Int → HP) : Ok Pr (zqb1_39_M Q E nx46) (sA zqb1_p12) (zqb1_q13 Q E nx46) E := fun τ H h =>
  wSl 1 h (fun x1 l1 c1 h => wP 2 h (fun x2 h => wI 5 h (fun x5 h => wSl 6 h (fun x6 l6 c6 h => wI 7 h (fun x7 h => (conv (by kernel_rfl) h))))))

theorem zqb1_41ok (nx46 : Int → HP) : Ok Pr (zqb1_39_M Q E nx46) zqb1_p12 (xblock 1 (zqb1_q5 Q E nx46)) E := fun τ H h =>
  (conv (by kernel_rfl) (vc_seq (K := (zqb1_35_M Q E nx46)) (zqb1_40ok Q E nx46 τ H h) (zqb1_38ok Q E nx46)))

theorem zqb1_42ok (nx46 : Int → HP) : Ok Pr (zqb1_39_M Q E nx46) (sA (sB zqb1_p8)) (zqb1_q5 Q E nx46) E := fun τ H h =>
  (conv (by kernel_rfl) (zqb1_41ok Q E nx46 τ H h))

theorem zqb1_43ok (nx46 : Int → HP) : Ok Pr (zqb1_39_M Q E nx46) (sB zqb1_p8) (zqb1_q4 Q E nx46) E := fun τ H h =>
  (conv (by kernel_rfl) (vc_seq (K := (zqb1_3_M Q E nx46)) (zqb1_42ok Q E nx46 τ H h) (zqb1_4ok Q E nx46)))

noncomputable def zqb1_q14 (nx46 : Int → HP) : XT := (xthen (zqb1_39_M Q E nx46) (zqb1_q4 Q E nx46))

def zqb1_44 (nx46 : Int → HP) (Q : QT) (E : ET) (x1 : OA) (l1 c1 : Nat) (x2 : OA) (x5 : Int) (x6 : OA) (l6 c6 : Nat) (x7 : Int) (H : Heap) : Prop :=
 sel (decide (x7 ≤ x5))
 (zqb1_39 nx46 Q E x1 l1 c1 x2 x5 x6 l6 c6 x7 H)
 (zqb1_1 Q E x6 l6 c6 H)

def zqb1_44_M (nx46 : Int → HP) (τ : Tau) (H : Heap) : Prop := mSl (τ 1) fun x1 l1 c1 => mP (τ 2) fun x2 => mI .i64 (τ 5) fun x5 => mSl (τ 6) fun x6 l6 c6 => mI .i64 (τ 7) fun x7 => zqb1_44 nx46 Q E x1 l1 c1 x2 x5 x6 l6 c6 x7 H

theorem zqb1_45ok (nx46 : Int → HP) : Ok Pr (zqb1_44_M Q E nx46) (sA zqb1_p8) (zqb1_q14 Q E nx46) E := fun τ H h =>
  wSl 1 h (fun x1 l1 c1 h => wP 2 h (fun x2 h => wI 5 h (fun x5 h => wSl 6 h (fun x6 l6 c6 h => wI 7 h (fun x7 h => (conv (by kernel_rfl) h))))))

theorem zqb1_46ok (nx46 : Int → HP) : Ok Pr (zqb1_44_M Q E nx46) zqb1_p8 (zqb1_q4 Q E nx46) E := fun τ H h =>
  (conv (by kernel_rfl) (vc_seq (K := (zqb1_39_M Q E nx46)) (zqb1_45ok Q E nx46 τ H h) (zqb1_43ok Q E nx46)))

def zqb1_47 (Q : QT) (E : ET) (x1 : OA) (l1 c1 : Nat) (x2 : OA) (x5 : Int) (x6 : OA) (l6 c6 : Nat) (x7 : Int) (H : Heap) : Prop :=
 ∃ (I : Int → HP) (μ : Int → Heap → Nat), I x7 H ∧ ∀ (x7 : Int) (H : Heap), I x7 H →
 zqb1_44 (fun x7' H1 => I x7' H1 ∧ μ x7' H1 < μ x7 H) Q E x1 l1 c1 x2 x5 x6 l6 c6 x7 H

def zqb1_47_M  (τ : Tau) (H : Heap) : Prop := mSl (τ 1) fun x1 l1 c1 => mP (τ 2) fun x2 => mI .i64 (τ 5) fun x5 => mSl (τ 6) fun x6 l6 c6 => mI .i64 (τ 7) fun x7 => zqb1_47 Q E x1 l1 c1 x2 x5 x6 l6 c6 x7 H

theorem zqb1_48ok  : Ok Pr (zqb1_47_M Q E) (sI (sB zqb1_p5)) (zqb1_q3 Q E) E := fun τ H h =>
  wSl 1 h (fun x1 l1 c1 h => wP 2 h (fun x2 h => wI 5 h (fun x5 h => wSl 6 h (fun x6 l6 c6 h => wI 7 h (fun x7 h => match h with | ⟨I, μ, h0, hr⟩ => (conv (by kernel_rfl) (vc_loopG (c := sI (sI (sB zqb1_p5))) (τ := (Tau.upd (Tau.upd (Tau.upd (Tau.upd (Tau.upd τ 1 (.slice x1 l1 c1)) 2 (.pointer x2)) 5 (.int .i64 x5)) 6 (.slice x6 l6 c6)) 7 (.int .i64 x7))) [1, 2, 5, 6] (fun τ H => mI .i64 (τ 7) fun x7' => I x7' H) (fun τ H => μ (gI (τ 7)) H) (by kernel_rfl) h0 (fun τ1 H1 hf hI => uF 1 (.slice x1 l1 c1) (hf 1 (by simp)) (uF 2 (.pointer x2) (hf 2 (by simp)) (uF 5 (.int .i64 x5) (hf 5 (by simp)) (uF 6 (.slice x6 l6 c6) (hf 6 (by simp)) (uI 7 hI (fun x7r h => lgx (zqb1_46ok Q E (fun x7' H2 => I x7' H2 ∧ μ x7' H2 < μ x7r H1) (Tau.upd (Tau.upd (Tau.upd (Tau.upd (Tau.upd τ1 1 (.slice x1 l1 c1)) 2 (.pointer x2)) 5 (.int .i64 x5)) 6 (.slice x6 l6 c6)) 7 (.int .i64 x7r)) H1 (conv (by kernel_rfl) (hr x7r H1 h))) (fun τ2 H2 hk => kI 7 hk (fun x7' h => conv (by kernel_rfl) h)))))))))))))))

theorem zqb1_49ok  : Ok Pr (zqb1_47_M Q E) (sB zqb1_p5) (zqb1_q2 Q E) E := fun τ H h =>
  (conv (by kernel_rfl) (zqb1_48ok Q E τ H h))

noncomputable def zqb1_q15  : XT := (xthen (zqb1_47_M Q E) (zqb1_q2 Q E))

def zqb1_50 (Q : QT) (E : ET) (x1 : OA) (l1 c1 : Nat) (x2 : OA) (x5 : Int) (x6 : OA) (l6 c6 : Nat) (H : Heap) : Prop :=
 zqb1_47 Q E x1 l1 c1 x2 x5 x6 l6 c6 0 H

def zqb1_50_M  (τ : Tau) (H : Heap) : Prop := mSl (τ 1) fun x1 l1 c1 => mP (τ 2) fun x2 => mI .i64 (τ 5) fun x5 => mSl (τ 6) fun x6 l6 c6 => zqb1_50 Q E x1 l1 c1 x2 x5 x6 l6 c6 H

theorem zqb1_51ok  : Ok Pr (zqb1_50_M Q E) (sA zqb1_p5) (zqb1_q15 Q E) E := fun τ H h =>
  wSl 1 h (fun x1 l1 c1 h => wP 2 h (fun x2 h => wI 5 h (fun x5 h => wSl 6 h (fun x6 l6 c6 h => (conv (by kernel_rfl) h)))))

theorem zqb1_52ok  : Ok Pr (zqb1_50_M Q E) zqb1_p5 (zqb1_q2 Q E) E := fun τ H h =>
  (conv (by kernel_rfl) (vc_seq (K := (zqb1_47_M Q E)) (zqb1_51ok Q E τ H h) (zqb1_49ok Q E)))

theorem zqb1_53ok  : Ok Pr (zqb1_50_M Q E) (sB (sB zqb1_p1)) (zqb1_q1 Q E) E := fun τ H h =>
  (conv (by kernel_rfl) (vc_seq (K := (zqb1_1_M Q E)) (zqb1_52ok Q E τ H h) (zqb1_2ok Q E)))

noncomputable def zqb1_q16  : XT := (xthen (zqb1_50_M Q E) (zqb1_q1 Q E))

def zqb1_54 (Q : QT) (E : ET) (x1 : OA) (l1 c1 : Nat) (x2 : OA) (x5 : Int) (H : Heap) : Prop :=
 Does Pr 99 #[(.int .i64 (IntKind.wrap .i64 (x5 + 1)))] H (fun v147 H148 =>
 ∃ (p149 : OA) (l150 c151 : Nat), v147 = (.slice p149 l150 c151) ∧ zqb1_50 Q E x1 l1 c1 x2 x5 p149 l150 c151 H148) E

def zqb1_54_M  (τ : Tau) (H : Heap) : Prop := mSl (τ 1) fun x1 l1 c1 => mP (τ 2) fun x2 => mI .i64 (τ 5) fun x5 => zqb1_54 Q E x1 l1 c1 x2 x5 H

theorem zqb1_55ok  : Ok Pr (zqb1_54_M Q E) (sA (sB zqb1_p1)) (zqb1_q16 Q E) E := fun τ H h =>
  wSl 1 h (fun x1 l1 c1 h => wP 2 h (fun x2 h => wI 5 h (fun x5 h => (conv (by kernel_rfl) h))))

theorem zqb1_56ok  : Ok Pr (zqb1_54_M Q E) (sB zqb1_p1) (zqb1_q1 Q E) E := fun τ H h =>
  (conv (by kernel_rfl) (vc_seq (K := (zqb1_50_M Q E)) (zqb1_55ok Q E τ H h) (zqb1_53ok Q E)))

noncomputable def zqb1_q17  : XT := (xthen (zqb1_54_M Q E) (zqb1_q1 Q E))

def zqb1_57 (Q : QT) (E : ET) (x1 : OA) (l1 c1 : Nat) (x2 : OA) (H : Heap) : Prop :=
 zqb1_54 Q E x1 l1 c1 x2 (l1 : Int) H

def zqb1_57_M  (τ : Tau) (H : Heap) : Prop := mSl (τ 1) fun x1 l1 c1 => mP (τ 2) fun x2 => zqb1_57 Q E x1 l1 c1 x2 H

theorem zqb1_58ok  : Ok Pr (zqb1_57_M Q E) (sA zqb1_p1) (zqb1_q17 Q E) E := fun τ H h =>
  wSl 1 h (fun x1 l1 c1 h => wP 2 h (fun x2 h => (conv (by kernel_rfl) h)))

theorem zqb1_59ok  : Ok Pr (zqb1_57_M Q E) zqb1_p1 (zqb1_q1 Q E) E := fun τ H h =>
  (conv (by kernel_rfl) (vc_seq (K := (zqb1_54_M Q E)) (zqb1_58ok Q E τ H h) (zqb1_56ok Q E)))

def zqb1 (Q : QT) (E : ET) (a0_0 : Int) (a0_1 : Int) (a0_2 : Int) (a0_3 : Int) (a0_4 : Int) (a0_5 : Int) (a0_6 : Int) (a1 : OA) (a1l : Nat) (a1c : Nat) (H : Heap) : Prop :=
 nw (.cells #[(.int .i64 a0_0), (.int .i64 a0_1), (.int .i64 a0_2), (.int .u64 a0_3), (.int .u64 a0_4), (.int .u64 a0_5), (.int .u64 a0_6)] 48 (0, 0)) H fun i152 H153 =>
 zqb1_57 Q E a1 a1l a1c (some ⟨i152, 0, none⟩) H153

theorem zqb1_fn (a0_0 : Int) (a0_1 : Int) (a0_2 : Int) (a0_3 : Int) (a0_4 : Int) (a0_5 : Int) (a0_6 : Int) (a1 : OA) (a1l : Nat) (a1c : Nat) (Q : QT) (E : ET) (H : Heap) (h : zqb1 Q E a0_0 a0_1 a0_2 a0_3 a0_4 a0_5 a0_6 a1 a1l a1c H)   : Does Pr 88 #[(.agg #[(.int .i64 a0_0), (.int .i64 a0_1), (.int .i64 a0_2), (.int .u64 a0_3), (.int .u64 a0_4), (.int .u64 a0_5), (.int .u64 a0_6)]), (.slice a1 a1l a1c)] H Q E :=
  Fn_of_vc (fn := Try.f88) (c := (bodyOf Try.f88)) (args := [(.agg #[(.int .i64 a0_0), (.int .i64 a0_1), (.int .i64 a0_2), (.int .u64 a0_3), (.int .u64 a0_4), (.int .u64 a0_5), (.int .u64 a0_6)]), (.slice a1 a1l a1c)]) mixed (by kernel_rfl) (by kernel_rfl) (by kernel_rfl) (by kernel_rfl) (by kernel_rfl) ((conv (B := vc Pr (bodyOf Try.f88) (argT [(.agg #[(.int .i64 a0_0), (.int .i64 a0_1), (.int .i64 a0_2), (.int .u64 a0_3), (.int .u64 a0_4), (.int .u64 a0_5), (.int .u64 a0_6)]), (.slice a1 a1l a1c)]) (zqb1_q1 Q E) E H) (by kernel_rfl) (vc_seq (K := (zqb1_57_M Q E)) (conv (B := vc Pr (sA (bodyOf Try.f88)) (argT [(.agg #[(.int .i64 a0_0), (.int .i64 a0_1), (.int .i64 a0_2), (.int .u64 a0_3), (.int .u64 a0_4), (.int .u64 a0_5), (.int .u64 a0_6)]), (.slice a1 a1l a1c)]) (xthen (zqb1_57_M Q E) (zqb1_q1 Q E)) E H) (by kernel_rfl) h) (zqb1_59ok Q E))))

/-! jobmux/jobmuxref09.empty -/
noncomputable def zqc1_q1 (Q : QT) (E : ET) : XT := (retQ Pr (Try.f99).results.toList Q)

noncomputable def zqc1_p1 : Code := sB (bodyOf Try.f99)

def zqc1_1 (Q : QT) (E : ET) (x3 : OA) (l3 c3 : Nat) (H : Heap) : Prop :=
 Q (.slice x3 l3 c3) H

def zqc1_1_M  (τ : Tau) (H : Heap) : Prop := mSl (τ 3) fun x3 l3 c3 => zqc1_1 Q E x3 l3 c3 H

theorem zqc1_2ok  : Ok Pr (zqc1_1_M Q E) (sB (sB zqc1_p1)) (zqc1_q1 Q E) E := fun τ H h =>
  wSl 3 h (fun x3 l3 c3 h => (conv (by kernel_rfl) h))

noncomputable def zqc1_q2  : XT := (xthen (zqc1_1_M Q E) (zqc1_q1 Q E))

noncomputable def zqc1_p6 : Code := sI (sB (sA (sB zqc1_p1)))

noncomputable def zqc1_q4 (nx9 : OA → Nat → Nat → Int → HP) : XT := (xthen (fun τ H => mSl (τ 3) fun x3' l3' c3' => mI .i64 (τ 4) fun x4' => nx9 x3' l3' c3' x4' H) (xblock 0 (zqc1_q2 Q E)))

def zqc1_3 (nx9 : OA → Nat → Nat → Int → HP) (Q : QT) (E : ET) (x0 : Int) (x3 : OA) (l3 c3 : Nat) (x4 : Int) (H : Heap) : Prop :=
 (0 ≤ x0 ∧ x0 ≤ x0 ∧ x0 ≤ 281474976710656 ∧ ((1 : Nat) : Int) * x0 ≤ 281474976710656) ∧ nw (.cells (rep x0.toNat [(.bool false)]).toArray 4 (0, 0)) H fun i10 H11 =>
 nw (.cells #[(.slice (some ⟨i10, 0, none⟩) (x0 : Int).toNat x0.toNat)] 111 (0, 0)) H11 fun i12 H13 =>
 app Pr 79 x3 l3 c3 (.slice (some ⟨i12, 0, none⟩) 1 1) H13 fun p14 l15 c16 H17 =>
 nx9 p14 l15 c16 (IntKind.wrap .i64 (x4 + 1)) H17

def zqc1_3_M (nx9 : OA → Nat → Nat → Int → HP) (τ : Tau) (H : Heap) : Prop := mI .i64 (τ 0) fun x0 => mSl (τ 3) fun x3 l3 c3 => mI .i64 (τ 4) fun x4 => zqc1_3 nx9 Q E x0 x3 l3 c3 x4 H

theorem zqc1_4ok (nx9 : OA → Nat → Nat → Int → HP) : Ok Pr (zqc1_3_M Q E nx9) (sB (sI zqc1_p6)) (zqc1_q4 Q E nx9) E := fun τ H h =>
  wI 0 h (fun x0 h => wSl 3 h (fun x3 l3 c3 h => wI 4 h (fun x4 h => (conv (by kernel_rfl) h))))

noncomputable def zqc1_q5 (nx9 : OA → Nat → Nat → Int → HP) : XT := (xthen (zqc1_3_M Q E nx9) (zqc1_q4 Q E nx9))

def zqc1_5 (nx9 : OA → Nat → Nat → Int → HP) (Q : QT) (E : ET) (x0 : Int) (x3 : OA) (l3 c3 : Nat) (x4 : Int) (H : Heap) : Prop :=
 sel (decide (x4 < x0))
 (zqc1_3 nx9 Q E x0 x3 l3 c3 x4 H)
 (zqc1_1 Q E x3 l3 c3 H)

def zqc1_5_M (nx9 : OA → Nat → Nat → Int → HP) (τ : Tau) (H : Heap) : Prop := mI .i64 (τ 0) fun x0 => mSl (τ 3) fun x3 l3 c3 => mI .i64 (τ 4) fun x4 => zqc1_5 nx9 Q E x0 x3 l3 c3 x4 H

theorem zqc1_6ok (nx9 : OA → Nat → Nat → Int → HP) : Ok Pr (zqc1_5_M Q E nx9) (sA (sI zqc1_p6)) (zqc1_q5 Q E nx9) E := fun τ H h =>
  wI 0 h (fun x0 h => wSl 3 h (fun x3 l3 c3 h => wI 4 h (fun x4 h => (conv (by kernel_rfl) h))))

theorem zqc1_7ok (nx9 : OA → Nat → Nat → Int → HP) : Ok Pr (zqc1_5_M Q E nx9) (sI zqc1_p6) (zqc1_q4 Q E nx9) E := fun τ H h =>
  (conv (by kernel_rfl) (vc_seq (K := (zqc1_3_M Q E nx9)) (zqc1_6ok Q E nx9 τ H h) (zqc1_4ok Q E nx9)))

def zqc1_8 (Q : QT) (E : ET) (x0 : Int) (x3 : OA) (l3 c3 : Nat) (x4 : Int) (H : Heap) : Prop :=
 ∃ (I : OA → Nat → Nat → Int → HP) (μ : OA → Nat → Nat → Int → Heap → Nat), I x3 l3 c3 x4 H ∧ ∀ (x3 : OA) (l3 c3 : Nat) (x4 : Int) (H : Heap), I x3 l3 c3 x4 H →
 zqc1_5 (fun x3' l3' c3' x4' H1 => I x3' l3' c3' x4' H1 ∧ μ x3' l3' c3' x4' H1 < μ x3 l3 c3 x4 H) Q E x0 x3 l3 c3 x4 H

def zqc1_8_M  (τ : Tau) (H : Heap) : Prop := mI .i64 (τ 0) fun x0 => mSl (τ 3) fun x3 l3 c3 => mI .i64 (τ 4) fun x4 => zqc1_8 Q E x0 x3 l3 c3 x4 H

theorem zqc1_9ok  : Ok Pr (zqc1_8_M Q E) zqc1_p6 (xblock 0 (zqc1_q2 Q E)) E := fun τ H h =>
  wI 0 h (fun x0 h => wSl 3 h (fun x3 l3 c3 h => wI 4 h (fun x4 h => match h with | ⟨I, μ, h0, hr⟩ => (conv (by kernel_rfl) (vc_loopG (c := sI zqc1_p6) (τ := (Tau.upd (Tau.upd (Tau.upd τ 0 (.int .i64 x0)) 3 (.slice x3 l3 c3)) 4 (.int .i64 x4))) [0] (fun τ H => mSl (τ 3) fun x3' l3' c3' => mI .i64 (τ 4) fun x4' => I x3' l3' c3' x4' H) (fun τ H => μ (gL1 (τ 3)) (gL2 (τ 3)) (gL3 (τ 3)) (gI (τ 4)) H) (by kernel_rfl) h0 (fun τ1 H1 hf hI => uF 0 (.int .i64 x0) (hf 0 (by simp)) (uSl 3 hI (fun x3r l3r c3r h => uI 4 h (fun x4r h => lgx (zqc1_7ok Q E (fun x3' l3' c3' x4' H2 => I x3' l3' c3' x4' H2 ∧ μ x3' l3' c3' x4' H2 < μ x3r l3r c3r x4r H1) (Tau.upd (Tau.upd (Tau.upd τ1 0 (.int .i64 x0)) 3 (.slice x3r l3r c3r)) 4 (.int .i64 x4r)) H1 (conv (by kernel_rfl) (hr x3r l3r c3r x4r H1 h))) (fun τ2 H2 hk => kSl 3 hk (fun x3' l3' c3' h => kI 4 h (fun x4' h => conv (by kernel_rfl) h))))))))))))

theorem zqc1_10ok  : Ok Pr (zqc1_8_M Q E) (sB (sA (sB zqc1_p1))) (zqc1_q2 Q E) E := fun τ H h =>
  (conv (by kernel_rfl) (zqc1_9ok Q E τ H h))

noncomputable def zqc1_q6  : XT := (xthen (zqc1_8_M Q E) (zqc1_q2 Q E))

def zqc1_11 (Q : QT) (E : ET) (x0 : Int) (x3 : OA) (l3 c3 : Nat) (H : Heap) : Prop :=
 zqc1_8 Q E x0 x3 l3 c3 0 H

def zqc1_11_M  (τ : Tau) (H : Heap) : Prop := mI .i64 (τ 0) fun x0 => mSl (τ 3) fun x3 l3 c3 => zqc1_11 Q E x0 x3 l3 c3 H

theorem zqc1_12ok  : Ok Pr (zqc1_11_M Q E) (sA (sA (sB zqc1_p1))) (zqc1_q6 Q E) E := fun τ H h =>
  wI 0 h (fun x0 h => wSl 3 h (fun x3 l3 c3 h => (conv (by kernel_rfl) h)))

theorem zqc1_13ok  : Ok Pr (zqc1_11_M Q E) (sA (sB zqc1_p1)) (zqc1_q2 Q E) E := fun τ H h =>
  (conv (by kernel_rfl) (vc_seq (K := (zqc1_8_M Q E)) (zqc1_12ok Q E τ H h) (zqc1_10ok Q E)))

theorem zqc1_14ok  : Ok Pr (zqc1_11_M Q E) (sB zqc1_p1) (zqc1_q1 Q E) E := fun τ H h =>
  (conv (by kernel_rfl) (vc_seq (K := (zqc1_1_M Q E)) (zqc1_13ok Q E τ H h) (zqc1_2ok Q E)))

def zqc1_15 (Q : QT) (E : ET) (x0 : Int) (H : Heap) : Prop :=
 zqc1_11 Q E x0 none 0 0 H

def zqc1_15_M  (τ : Tau) (H : Heap) : Prop := mI .i64 (τ 0) fun x0 => zqc1_15 Q E x0 H

theorem zqc1_16ok  : Ok Pr (zqc1_15_M Q E) (sA zqc1_p1) (xthen (zqc1_11_M Q E) (zqc1_q1 Q E)) E := fun τ H h =>
  wI 0 h (fun x0 h => (conv (by kernel_rfl) h))

theorem zqc1_17ok  : Ok Pr (zqc1_15_M Q E) zqc1_p1 (zqc1_q1 Q E) E := fun τ H h =>
  (conv (by kernel_rfl) (vc_seq (K := (zqc1_11_M Q E)) (zqc1_16ok Q E τ H h) (zqc1_14ok Q E)))

def zqc1 (Q : QT) (E : ET) (a0 : Int) (H : Heap) : Prop :=
 zqc1_15 Q E a0 H

theorem zqc1_fn (a0 : Int) (Q : QT) (E : ET) (H : Heap) (h : zqc1 Q E a0 H)   : Does Pr 99 #[(.int .i64 a0)] H Q E :=
  Fn_of_vc (fn := Try.f99) (c := (bodyOf Try.f99)) (args := [(.int .i64 a0)]) mixed (by kernel_rfl) (by kernel_rfl) (by kernel_rfl) (by kernel_rfl) (by kernel_rfl) ((conv (B := vc Pr (bodyOf Try.f99) (argT [(.int .i64 a0)]) (zqc1_q1 Q E) E H) (by kernel_rfl) (vc_seq (K := (zqc1_15_M Q E)) (conv (B := vc Pr (sA (bodyOf Try.f99)) (argT [(.int .i64 a0)]) (xthen (zqc1_15_M Q E) (zqc1_q1 Q E)) E H) (by kernel_rfl) h) (zqc1_17ok Q E))))

end Go.Proofs.Ytaffcoiomggpfaa
