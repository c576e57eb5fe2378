import Derived.Test.YtaffcoiomggpfaaVPr
/- Printed by gen.py: the Go functions of package r10 over a heap view, and that the model does so. -/
namespace Go.Proofs.Ytaffcoiomggpfaa
open Go.V
set_option linter.unusedVariables false
set_option maxRecDepth 100000
variable (Q : QT) (E : ET)
/-! jobmux/jobmuxref10.Valid -/
noncomputable def zqo2_q1 (Q : QT) (E : ET) : XT := (retQ Pr (Try.f34).results.toList Q)

noncomputable def zqo2_p1 : Code := sB (bodyOf Try.f34)

def zqo2_1 (Q : QT) (E : ET) (x0 : OA) (l0 c0 : Nat) (H : Heap) : Prop :=
 sel (decide (((l0 : Int) : Int) ≥ 1))
 (Q (.bool (decide (((l0 : Int) : Int) ≤ 513))) H)
 (Q (.bool false) H)

def zqo2_1_M  (τ : Tau) (H : Heap) : Prop := mSl (τ 0) fun x0 l0 c0 => zqo2_1 Q E x0 l0 c0 H

theorem zqo2_2ok  : Ok Pr (zqo2_1_M Q E) (sB zqo2_p1) (zqo2_q1 Q E) E := fun τ H h =>
  wSl 0 h (fun x0 l0 c0 h => (conv (by kernel_rfl) h))

noncomputable def zqo2_q2  : XT := (xthen (zqo2_1_M Q E) (zqo2_q1 Q E))

noncomputable def zqo2_q4 (nx15 : Int → HP) : XT := (xthen (fun τ H => mI .i64 (τ 3) fun x3' => nx15 x3' H) (xblock 0 (zqo2_q2 Q E)))

noncomputable def zqo2_p6 : Code := sI (sI (sB (sA zqo2_p1)))

def zqo2_3 (nx15 : Int → HP) (Q : QT) (E : ET) (x0 : OA) (l0 c0 : Nat) (x3 : Int) (H : Heap) : Prop :=
 nx15 (IntKind.wrap .i64 (x3 + 1)) H

def zqo2_3_M (nx15 : Int → HP) (τ : Tau) (H : Heap) : Prop := mSl (τ 0) fun x0 l0 c0 => mI .i64 (τ 3) fun x3 => zqo2_3 nx15 Q E x0 l0 c0 x3 H

theorem zqo2_4ok (nx15 : Int → HP) : Ok Pr (zqo2_3_M Q E nx15) (sB (sB zqo2_p6)) (zqo2_q4 Q E nx15) E := fun τ H h =>
  wSl 0 h (fun x0 l0 c0 h => wI 3 h (fun x3 h => (conv (by kernel_rfl) h)))

noncomputable def zqo2_q6 (nx15 : Int → HP) : XT := (xblock 1 (xthen (zqo2_3_M Q E nx15) (zqo2_q4 Q E nx15)))

noncomputable def zqo2_p10 : Code := sI (sA (sB zqo2_p6))

def zqo2_5 (nx15 : Int → HP) (Q : QT) (E : ET) (x0 : OA) (l0 c0 : Nat) (x3 : Int) (x65 : Bool) (H : Heap) : Prop :=
 sel x65
 (Q (.bool false) H)
 (zqo2_3 nx15 Q E x0 l0 c0 x3 H)

def zqo2_5_M (nx15 : Int → HP) (τ : Tau) (H : Heap) : Prop := mSl (τ 0) fun x0 l0 c0 => mI .i64 (τ 3) fun x3 => mB (τ 65) fun x65 => zqo2_5 nx15 Q E x0 l0 c0 x3 x65 H

theorem zqo2_6ok (nx15 : Int → HP) : Ok Pr (zqo2_5_M Q E nx15) (sB (sB zqo2_p10)) (zqo2_q6 Q E nx15) E := fun τ H h =>
  wSl 0 h (fun x0 l0 c0 h => wI 3 h (fun x3 h => wB 65 h (fun x65 h => (conv (by kernel_rfl) h))))

noncomputable def zqo2_q7 (nx15 : Int → HP) : XT := (xthen (zqo2_5_M Q E nx15) (zqo2_q6 Q E nx15))

def zqo2_7 (nx15 : Int → HP) (Q : QT) (E : ET) (x0 : OA) (l0 c0 : Nat) (x3 x4 : Int) (H : Heap) : Prop :=
 sel (decide (x4 < 1))
 (zqo2_5 nx15 Q E x0 l0 c0 x3 true H)
 (sel (decide (x4 > 5))
 (zqo2_5 nx15 Q E x0 l0 c0 x3 true H)
 (sel (x4 != 5)
 ((0 ≤ x3 ∧ x3 < (l0 : Int)) ∧ ptr x0 fun q44 =>
 ldI .i64 (Addr.add (Addr.add q44 (x3.toNat * 7)) 1) H fun n45 =>
 sel (decide (n45 < 0))
 (zqo2_5 nx15 Q E x0 l0 c0 x3 true H)
 ((0 ≤ x3 ∧ x3 < (l0 : Int)) ∧ ptr x0 fun q46 =>
 ldI .i64 (Addr.add (Addr.add q46 (x3.toNat * 7)) 1) H fun n47 =>
 sel (decide (n47 ≥ (l0 : Int)))
 (zqo2_5 nx15 Q E x0 l0 c0 x3 true H)
 (sel (x4 == 2)
 ((0 ≤ x3 ∧ x3 < (l0 : Int)) ∧ ptr x0 fun q48 =>
 ldI .i64 (Addr.add (Addr.add q48 (x3.toNat * 7)) 2) H fun n49 =>
 sel (decide (n49 < 0))
 (zqo2_5 nx15 Q E x0 l0 c0 x3 true H)
 ((0 ≤ x3 ∧ x3 < (l0 : Int)) ∧ ptr x0 fun q50 =>
 ldI .i64 (Addr.add (Addr.add q50 (x3.toNat * 7)) 2) H fun n51 =>
 zqo2_5 nx15 Q E x0 l0 c0 x3 (decide (n51 ≥ (l0 : Int))) H))
 (zqo2_5 nx15 Q E x0 l0 c0 x3 false H))))
 (sel (x4 == 2)
 ((0 ≤ x3 ∧ x3 < (l0 : Int)) ∧ ptr x0 fun q52 =>
 ldI .i64 (Addr.add (Addr.add q52 (x3.toNat * 7)) 2) H fun n53 =>
 sel (decide (n53 < 0))
 (zqo2_5 nx15 Q E x0 l0 c0 x3 true H)
 ((0 ≤ x3 ∧ x3 < (l0 : Int)) ∧ ptr x0 fun q54 =>
 ldI .i64 (Addr.add (Addr.add q54 (x3.toNat * 7)) 2) H fun n55 =>
 zqo2_5 nx15 Q E x0 l0 c0 x3 (decide (n55 ≥ (l0 : Int))) H))
 (zqo2_5 nx15 Q E x0 l0 c0 x3 false H))))

def zqo2_7_M (nx15 : Int → HP) (τ : Tau) (H : Heap) : Prop := mSl (τ 0) fun x0 l0 c0 => mI .i64 (τ 3) fun x3 => mI .i64 (τ 4) fun x4 => zqo2_7 nx15 Q E x0 l0 c0 x3 x4 H

theorem zqo2_8ok (nx15 : Int → HP) : Ok Pr (zqo2_7_M Q E nx15) (sA (sB zqo2_p10)) (zqo2_q7 Q E nx15) E := fun τ H h =>
  wSl 0 h (fun x0 l0 c0 h => wI 3 h (fun x3 h => wI 4 h (fun x4 h => (conv (by kernel_rfl) h))))

theorem zqo2_9ok (nx15 : Int → HP) : Ok Pr (zqo2_7_M Q E nx15) (sB zqo2_p10) (zqo2_q6 Q E nx15) E := fun τ H h =>
  (conv (by kernel_rfl) (vc_seq (K := (zqo2_5_M Q E nx15)) (zqo2_8ok Q E nx15 τ H h) (zqo2_6ok Q E nx15)))

def zqo2_10 (nx15 : Int → HP) (Q : QT) (E : ET) (x0 : OA) (l0 c0 : Nat) (x3 : Int) (H : Heap) : Prop :=
 (0 ≤ x3 ∧ x3 < (l0 : Int)) ∧ ptr x0 fun q56 =>
 ldI .i64 (Addr.add q56 (x3.toNat * 7)) H fun n57 =>
 zqo2_7 nx15 Q E x0 l0 c0 x3 n57 H

def zqo2_10_M (nx15 : Int → HP) (τ : Tau) (H : Heap) : Prop := mSl (τ 0) fun x0 l0 c0 => mI .i64 (τ 3) fun x3 => zqo2_10 nx15 Q E x0 l0 c0 x3 H

theorem zqo2_11ok (nx15 : Int → HP) : Ok Pr (zqo2_10_M Q E nx15) (sA zqo2_p10) (xthen (zqo2_7_M Q E nx15) (zqo2_q6 Q E nx15)) E := fun τ H h =>
  wSl 0 h (fun x0 l0 c0 h => wI 3 h (fun x3 h => (conv (by kernel_rfl) h)))

theorem zqo2_12ok (nx15 : Int → HP) : Ok Pr (zqo2_10_M Q E nx15) zqo2_p10 (zqo2_q6 Q E nx15) E := fun τ H h =>
  (conv (by kernel_rfl) (vc_seq (K := (zqo2_7_M Q E nx15)) (zqo2_11ok Q E nx15 τ H h) (zqo2_9ok Q E nx15)))

theorem zqo2_13ok (nx15 : Int → HP) : Ok Pr (zqo2_10_M Q E nx15) (sA (sB zqo2_p6)) (xthen (zqo2_3_M Q E nx15) (zqo2_q4 Q E nx15)) E := fun τ H h =>
  (conv (by kernel_rfl) (zqo2_12ok Q E nx15 τ H h))

theorem zqo2_14ok (nx15 : Int → HP) : Ok Pr (zqo2_10_M Q E nx15) (sB zqo2_p6) (zqo2_q4 Q E nx15) E := fun τ H h =>
  (conv (by kernel_rfl) (vc_seq (K := (zqo2_3_M Q E nx15)) (zqo2_13ok Q E nx15 τ H h) (zqo2_4ok Q E nx15)))

def zqo2_15 (nx15 : Int → HP) (Q : QT) (E : ET) (x0 : OA) (l0 c0 : Nat) (x3 : Int) (H : Heap) : Prop :=
 sel (decide (x3 < (l0 : Int)))
 (zqo2_10 nx15 Q E x0 l0 c0 x3 H)
 (zqo2_1 Q E x0 l0 c0 H)

def zqo2_15_M (nx15 : Int → HP) (τ : Tau) (H : Heap) : Prop := mSl (τ 0) fun x0 l0 c0 => mI .i64 (τ 3) fun x3 => zqo2_15 nx15 Q E x0 l0 c0 x3 H

theorem zqo2_16ok (nx15 : Int → HP) : Ok Pr (zqo2_15_M Q E nx15) (sA zqo2_p6) (xthen (zqo2_10_M Q E nx15) (zqo2_q4 Q E nx15)) E := fun τ H h =>
  wSl 0 h (fun x0 l0 c0 h => wI 3 h (fun x3 h => (conv (by kernel_rfl) h)))

theorem zqo2_17ok (nx15 : Int → HP) : Ok Pr (zqo2_15_M Q E nx15) zqo2_p6 (zqo2_q4 Q E nx15) E := fun τ H h =>
  (conv (by kernel_rfl) (vc_seq (K := (zqo2_10_M Q E nx15)) (zqo2_16ok Q E nx15 τ H h) (zqo2_14ok Q E nx15)))

def zqo2_18 (Q : QT) (E : ET) (x0 : OA) (l0 c0 : Nat) (x3 : Int) (H : Heap) : Prop :=
 ∃ (I : Int → HP) (μ : Int → Heap → Nat), I x3 H ∧ ∀ (x3 : Int) (H : Heap), I x3 H →
 zqo2_15 (fun x3' H1 => I x3' H1 ∧ μ x3' H1 < μ x3 H) Q E x0 l0 c0 x3 H

def zqo2_18_M  (τ : Tau) (H : Heap) : Prop := mSl (τ 0) fun x0 l0 c0 => mI .i64 (τ 3) fun x3 => zqo2_18 Q E x0 l0 c0 x3 H

theorem zqo2_19ok  : Ok Pr (zqo2_18_M Q E) (sI (sB (sA zqo2_p1))) (xblock 0 (zqo2_q2 Q E)) E := fun τ H h =>
  wSl 0 h (fun x0 l0 c0 h => wI 3 h (fun x3 h => match h with | ⟨I, μ, h0, hr⟩ => (conv (by kernel_rfl) (vc_loopG (c := sI (sI (sB (sA zqo2_p1)))) (τ := (Tau.upd (Tau.upd τ 0 (.slice x0 l0 c0)) 3 (.int .i64 x3))) [0] (fun τ H => mI .i64 (τ 3) fun x3' => I x3' H) (fun τ H => μ (gI (τ 3)) H) (by kernel_rfl) h0 (fun τ1 H1 hf hI => uF 0 (.slice x0 l0 c0) (hf 0 (by simp)) (uI 3 hI (fun x3r h => lgx (zqo2_17ok Q E (fun x3' H2 => I x3' H2 ∧ μ x3' H2 < μ x3r H1) (Tau.upd (Tau.upd τ1 0 (.slice x0 l0 c0)) 3 (.int .i64 x3r)) H1 (conv (by kernel_rfl) (hr x3r H1 h))) (fun τ2 H2 hk => kI 3 hk (fun x3' h => conv (by kernel_rfl) h)))))))))

theorem zqo2_20ok  : Ok Pr (zqo2_18_M Q E) (sB (sA zqo2_p1)) (zqo2_q2 Q E) E := fun τ H h =>
  (conv (by kernel_rfl) (zqo2_19ok Q E τ H h))

def zqo2_21 (Q : QT) (E : ET) (x0 : OA) (l0 c0 : Nat) (H : Heap) : Prop :=
 zqo2_18 Q E x0 l0 c0 0 H

def zqo2_21_M  (τ : Tau) (H : Heap) : Prop := mSl (τ 0) fun x0 l0 c0 => zqo2_21 Q E x0 l0 c0 H

theorem zqo2_22ok  : Ok Pr (zqo2_21_M Q E) (sA (sA zqo2_p1)) (xthen (zqo2_18_M Q E) (zqo2_q2 Q E)) E := fun τ H h =>
  wSl 0 h (fun x0 l0 c0 h => (conv (by kernel_rfl) h))

theorem zqo2_23ok  : Ok Pr (zqo2_21_M Q E) (sA zqo2_p1) (zqo2_q2 Q E) E := fun τ H h =>
  (conv (by kernel_rfl) (vc_seq (K := (zqo2_18_M Q E)) (zqo2_22ok Q E τ H h) (zqo2_20ok Q E)))

theorem zqo2_24ok  : Ok Pr (zqo2_21_M Q E) zqo2_p1 (zqo2_q1 Q E) E := fun τ H h =>
  (conv (by kernel_rfl) (vc_seq (K := (zqo2_1_M Q E)) (zqo2_23ok Q E τ H h) (zqo2_2ok Q E)))

def zqo2 (Q : QT) (E : ET) (a0 : OA) (a0l : Nat) (a0c : Nat) (H : Heap) : Prop :=
 zqo2_21 Q E a0 a0l a0c H

theorem zqo2_fn (a0 : OA) (a0l : Nat) (a0c : Nat) (Q : QT) (E : ET) (H : Heap) (h : zqo2 Q E a0 a0l a0c H)   : Does Pr 34 #[(.slice a0 a0l a0c)] H Q E :=
  Fn_of_vc (fn := Try.f34) (c := (bodyOf Try.f34)) (args := [(.slice a0 a0l a0c)]) mixed (by kernel_rfl) (by kernel_rfl) (by kernel_rfl) (by kernel_rfl) (by kernel_rfl) ((conv (B := vc Pr (bodyOf Try.f34) (argT [(.slice a0 a0l a0c)]) (zqo2_q1 Q E) E H) (by kernel_rfl) (vc_seq (K := (zqo2_21_M Q E)) (conv (B := vc Pr (sA (bodyOf Try.f34)) (argT [(.slice a0 a0l a0c)]) (xthen (zqo2_21_M Q E) (zqo2_q1 Q E)) E H) (by kernel_rfl) h) (zqo2_24ok Q E))))

end Go.Proofs.Ytaffcoiomggpfaa
