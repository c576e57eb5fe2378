import Derived.Test.YtaffcoiomggpfaaVPr
import Derived.Test.YtaffcoiomggpfaaFr08_1
/- Printed by gen.py: the Go functions of package r08 over a heap view, and that the model does so. -/
namespace Go.Proofs.Ytaffcoiomggpfaa
open Go.V
set_option linter.unusedVariables false
set_option maxRecDepth 100000
variable (Q : QT) (E : ET)
/-! jobmux/jobmuxref08.Range -/
noncomputable def zqt1_q1 (Q : QT) (E : ET)  : XT := (retQ Pr (Try.f122).results.toList Q)

noncomputable def zqt1_p2 : Code := sB (sB (bodyOf Try.f122))

def zqt1_1 (Q : QT) (E : ET) (x4 x5 : OA) (H : Heap) : Prop :=
 ptr x5 fun q16 =>
 ∃ n17 n18 n19 n20 : Int, Heap.rd H q16 0 [(.int .u64 n17), (.int .u64 n18), (.int .u64 n19), (.int .u64 n20)] ∧ ptr x4 fun q22 =>
 wr q22 [(.int .u64 n17), (.int .u64 n18), (.int .u64 n19), (.int .u64 n20)] H fun H21 =>
 ptr x4 fun q23 =>
 ∃ n24 n25 n26 n27 : Int, Heap.rd H21 q23 0 [(.int .u64 n24), (.int .u64 n25), (.int .u64 n26), (.int .u64 n27)] ∧ Q (.agg #[(.int .u64 n24), (.int .u64 n25), (.int .u64 n26), (.int .u64 n27)]) H21

def zqt1_1_M  (τ : Tau) (H : Heap) : Prop := mP (τ 4) fun x4 => mP (τ 5) fun x5 => zqt1_1 Q E x4 x5 H

theorem zqt1_2ok  : Ok Pr (zqt1_1_M Q E) (sB zqt1_p2) (zqt1_q1 Q E) E := fun τ H h =>
  wP 4 h (fun x4 h => wP 5 h (fun x5 h => (conv (by kernel_rfl) h)))

noncomputable def zqt1_q2  : XT := (xthen (zqt1_1_M Q E) (zqt1_q1 Q E))

noncomputable def zqt1_p6 : Code := sI (sB (sA zqt1_p2))

noncomputable def zqt1_q4 (nx28 : Int → HP) : XT := (xthen (fun τ H => mI .i64 (τ 6) fun x6' => nx28 x6' H) (xblock 0 (zqt1_q2 Q E)))

def zqt1_3 (nx28 : Int → HP) (Q : QT) (E : ET) (x1 : Int) (x4 x5 : OA) (x6 : Int) (H : Heap) : Prop :=
 ptr x5 fun q29 =>
 ∃ n30 n31 n32 n33 : Int, Heap.rd H q29 0 [(.int .u64 n30), (.int .u64 n31), (.int .u64 n32), (.int .u64 n33)] ∧ Does Pr 108 #[(.agg #[(.int .u64 n30), (.int .u64 n31), (.int .u64 n32), (.int .u64 n33)]), (.int .u8 (IntKind.wrap .u8 x6))] H (fun v34 H35 =>
 ∃ n36 n37 n38 n39 : Int, v34 = (.agg #[(.int .u64 n36), (.int .u64 n37), (.int .u64 n38), (.int .u64 n39)]) ∧ ptr x5 fun q41 =>
 wr q41 [(.int .u64 n36), (.int .u64 n37), (.int .u64 n38), (.int .u64 n39)] H35 fun H40 =>
 nx28 (IntKind.wrap .i64 (x6 + 1)) H40) E

def zqt1_3_M (nx28 : Int → HP) (τ : Tau) (H : Heap) : Prop := mI .i64 (τ 1) fun x1 => mP (τ 4) fun x4 => mP (τ 5) fun x5 => mI .i64 (τ 6) fun x6 => zqt1_3 nx28 Q E x1 x4 x5 x6 H

theorem zqt1_4ok (nx28 : Int → HP) : Ok Pr (zqt1_3_M Q E nx28) (sB (sI zqt1_p6)) (zqt1_q4 Q E nx28) E := fun τ H h =>
  wI 1 h (fun x1 h => wP 4 h (fun x4 h => wP 5 h (fun x5 h => wI 6 h (fun x6 h => (conv (by kernel_rfl) h)))))

noncomputable def zqt1_q5 (nx28 : Int → HP) : XT := (xthen (zqt1_3_M Q E nx28) (zqt1_q4 Q E nx28))

def zqt1_5 (nx28 : Int → HP) (Q : QT) (E : ET) (x1 : Int) (x4 x5 : OA) (x6 : Int) (H : Heap) : Prop :=
 sel (decide (x6 ≤ x1))
 (zqt1_3 nx28 Q E x1 x4 x5 x6 H)
 (zqt1_1 Q E x4 x5 H)

def zqt1_5_M (nx28 : Int → HP) (τ : Tau) (H : Heap) : Prop := mI .i64 (τ 1) fun x1 => mP (τ 4) fun x4 => mP (τ 5) fun x5 => mI .i64 (τ 6) fun x6 => zqt1_5 nx28 Q E x1 x4 x5 x6 H

theorem zqt1_6ok (nx28 : Int → HP) : Ok Pr (zqt1_5_M Q E nx28) (sA (sI zqt1_p6)) (zqt1_q5 Q E nx28) E := fun τ H h =>
  wI 1 h (fun x1 h => wP 4 h (fun x4 h => wP 5 h (fun x5 h => wI 6 h (fun x6 h => (conv (by kernel_rfl) h)))))

theorem zqt1_7ok (nx28 : Int → HP) : Ok Pr (zqt1_5_M Q E nx28) (sI zqt1_p6) (zqt1_q4 Q E nx28) E := fun τ H h =>
  (conv (by kernel_rfl) (vc_seq (K := (zqt1_3_M Q E nx28)) (zqt1_6ok Q E nx28 τ H h) (zqt1_4ok Q E nx28)))

def zqt1_8 (Q : QT) (E : ET) (x1 : Int) (x4 x5 : OA) (x6 : Int) (H : Heap) : Prop :=
 ∃ (I : Int → HP) (μ : Int → Heap → Nat), I x6 H ∧ ∀ (x6 : Int) (H : Heap), I x6 H →
 zqt1_5 (fun x6' H1 => I x6' H1 ∧ μ x6' H1 < μ x6 H) Q E x1 x4 x5 x6 H

def zqt1_8_M  (τ : Tau) (H : Heap) : Prop := mI .i64 (τ 1) fun x1 => mP (τ 4) fun x4 => mP (τ 5) fun x5 => mI .i64 (τ 6) fun x6 => zqt1_8 Q E x1 x4 x5 x6 H

theorem zqt1_9ok  : Ok Pr (zqt1_8_M Q E) zqt1_p6 (xblock 0 (zqt1_q2 Q E)) E := fun τ H h =>
  wI 1 h (fun x1 h => wP 4 h (fun x4 h => wP 5 h (fun x5 h => wI 6 h (fun x6 h => match h with | ⟨I, μ, h0, hr⟩ => (conv (by kernel_rfl) (vc_loopG (c := sI zqt1_p6) (τ := (Tau.upd (Tau.upd (Tau.upd (Tau.upd τ 1 (.int .i64 x1)) 4 (.pointer x4)) 5 (.pointer x5)) 6 (.int .i64 x6))) [1, 4, 5] (fun τ H => mI .i64 (τ 6) fun x6' => I x6' H) (fun τ H => μ (gI (τ 6)) H) (by kernel_rfl) h0 (fun τ1 H1 hf hI => uF 1 (.int .i64 x1) (hf 1 (by simp)) (uF 4 (.pointer x4) (hf 4 (by simp)) (uF 5 (.pointer x5) (hf 5 (by simp)) (uI 6 hI (fun x6r h => lgx (zqt1_7ok Q E (fun x6' H2 => I x6' H2 ∧ μ x6' H2 < μ x6r H1) (Tau.upd (Tau.upd (Tau.upd (Tau.upd τ1 1 (.int .i64 x1)) 4 (.pointer x4)) 5 (.pointer x5)) 6 (.int .i64 x6r)) H1 (conv (by kernel_rfl) (hr x6r H1 h))) (fun τ2 H2 hk => kI 6 hk (fun x6' h => conv (by kernel_rfl) h)))))))))))))

theorem zqt1_10ok  : Ok Pr (zqt1_8_M Q E) (sB (sA zqt1_p2)) (zqt1_q2 Q E) E := fun τ H h =>
  (conv (by kernel_rfl) (zqt1_9ok Q E τ H h))

noncomputable def zqt1_q6  : XT := (xthen (zqt1_8_M Q E) (zqt1_q2 Q E))

def zqt1_11 (Q : QT) (E : ET) (x0 x1 : Int) (x4 x5 : OA) (H : Heap) : Prop :=
 zqt1_8 Q E x1 x4 x5 x0 H

def zqt1_11_M  (τ : Tau) (H : Heap) : Prop := mI .i64 (τ 0) fun x0 => mI .i64 (τ 1) fun x1 => mP (τ 4) fun x4 => mP (τ 5) fun x5 => zqt1_11 Q E x0 x1 x4 x5 H

theorem zqt1_12ok  : Ok Pr (zqt1_11_M Q E) (sA (sA zqt1_p2)) (zqt1_q6 Q E) E := fun τ H h =>
  wI 0 h (fun x0 h => wI 1 h (fun x1 h => wP 4 h (fun x4 h => wP 5 h (fun x5 h => (conv (by kernel_rfl) h)))))

theorem zqt1_13ok  : Ok Pr (zqt1_11_M Q E) (sA zqt1_p2) (zqt1_q2 Q E) E := fun τ H h =>
  (conv (by kernel_rfl) (vc_seq (K := (zqt1_8_M Q E)) (zqt1_12ok Q E τ H h) (zqt1_10ok Q E)))

theorem zqt1_14ok  : Ok Pr (zqt1_11_M Q E) zqt1_p2 (zqt1_q1 Q E) E := fun τ H h =>
  (conv (by kernel_rfl) (vc_seq (K := (zqt1_1_M Q E)) (zqt1_13ok Q E τ H h) (zqt1_2ok Q E)))

noncomputable def zqt1_q7  : XT := (xthen (zqt1_11_M Q E) (zqt1_q1 Q E))

def zqt1_15 (Q : QT) (E : ET) (x0 x1 : Int) (x4 : OA) (H : Heap) : Prop :=
 nw (.cells #[(.int .u64 0), (.int .u64 0), (.int .u64 0), (.int .u64 0)] 46 (0, 0)) H fun i42 H43 =>
 zqt1_11 Q E x0 x1 x4 (some ⟨i42, 0, none⟩) H43

def zqt1_15_M  (τ : Tau) (H : Heap) : Prop := mI .i64 (τ 0) fun x0 => mI .i64 (τ 1) fun x1 => mP (τ 4) fun x4 => zqt1_15 Q E x0 x1 x4 H

theorem zqt1_16ok  : Ok Pr (zqt1_15_M Q E) (sA (sB (bodyOf Try.f122))) (zqt1_q7 Q E) E := fun τ H h =>
  wI 0 h (fun x0 h => wI 1 h (fun x1 h => wP 4 h (fun x4 h => (conv (by kernel_rfl) h))))

theorem zqt1_17ok  : Ok Pr (zqt1_15_M Q E) (sB (bodyOf Try.f122)) (zqt1_q1 Q E) E := fun τ H h =>
  (conv (by kernel_rfl) (vc_seq (K := (zqt1_11_M Q E)) (zqt1_16ok Q E τ H h) (zqt1_14ok Q E)))

def zqt1 (Q : QT) (E : ET) (a0 : Int) (a1 : Int) (H : Heap) : Prop :=
 nw (.cells #[(.int .u64 0), (.int .u64 0), (.int .u64 0), (.int .u64 0)] 46 (0, 0)) H fun i44 H45 =>
 zqt1_15 Q E a0 a1 (some ⟨i44, 0, none⟩) H45

theorem zqt1_fn (a0 : Int) (a1 : Int) (Q : QT) (E : ET) (H : Heap) (h : zqt1 Q E a0 a1 H)   : Does Pr 122 #[(.int .i64 a0), (.int .i64 a1)] H Q E :=
  Fn_of_vc (fn := Try.f122) (c := (bodyOf Try.f122)) (args := [(.int .i64 a0), (.int .i64 a1)]) mixed (by kernel_rfl) (by kernel_rfl) (by kernel_rfl) (by kernel_rfl) (by kernel_rfl) ((conv (B := vc Pr (bodyOf Try.f122) (argT [(.int .i64 a0), (.int .i64 a1)]) (zqt1_q1 Q E) E H) (by kernel_rfl) (vc_seq (K := (zqt1_15_M Q E)) (conv (B := vc Pr (sA (bodyOf Try.f122)) (argT [(.int .i64 a0), (.int .i64 a1)]) (xthen (zqt1_15_M Q E) (zqt1_q1 Q E)) E H) (by kernel_rfl) h) (zqt1_17ok Q E))))

/-! jobmux/jobmuxref08.mark -/
noncomputable def zqu1_q1 (Q : QT) (E : ET)  : XT := (retQ Pr (Try.f123).results.toList Q)

def zqu1 (Q : QT) (E : ET) (a0 : Int) (H : Heap) : Prop :=
 sel (decide ((a0 : Int) ≥ 33))
 (sel (decide ((a0 : Int) ≤ 47))
 (Q (.bool true) H)
 (sel (decide ((a0 : Int) ≥ 58))
 (sel (decide ((a0 : Int) ≤ 64))
 (Q (.bool true) H)
 (sel (decide ((a0 : Int) ≥ 91))
 (sel (decide ((a0 : Int) ≤ 96))
 (Q (.bool true) H)
 (sel (decide ((a0 : Int) ≥ 123))
 (Q (.bool (decide ((a0 : Int) ≤ 126))) H)
 (Q (.bool false) H)))
 (sel (decide ((a0 : Int) ≥ 123))
 (Q (.bool (decide ((a0 : Int) ≤ 126))) H)
 (Q (.bool false) H))))
 (sel (decide ((a0 : Int) ≥ 91))
 (sel (decide ((a0 : Int) ≤ 96))
 (Q (.bool true) H)
 (sel (decide ((a0 : Int) ≥ 123))
 (Q (.bool (decide ((a0 : Int) ≤ 126))) H)
 (Q (.bool false) H)))
 (sel (decide ((a0 : Int) ≥ 123))
 (Q (.bool (decide ((a0 : Int) ≤ 126))) H)
 (Q (.bool false) H)))))
 (sel (decide ((a0 : Int) ≥ 58))
 (sel (decide ((a0 : Int) ≤ 64))
 (Q (.bool true) H)
 (sel (decide ((a0 : Int) ≥ 91))
 (sel (decide ((a0 : Int) ≤ 96))
 (Q (.bool true) H)
 (sel (decide ((a0 : Int) ≥ 123))
 (Q (.bool (decide ((a0 : Int) ≤ 126))) H)
 (Q (.bool false) H)))
 (sel (decide ((a0 : Int) ≥ 123))
 (Q (.bool (decide ((a0 : Int) ≤ 126))) H)
 (Q (.bool false) H))))
 (sel (decide ((a0 : Int) ≥ 91))
 (sel (decide ((a0 : Int) ≤ 96))
 (Q (.bool true) H)
 (sel (decide ((a0 : Int) ≥ 123))
 (Q (.bool (decide ((a0 : Int) ≤ 126))) H)
 (Q (.bool false) H)))
 (sel (decide ((a0 : Int) ≥ 123))
 (Q (.bool (decide ((a0 : Int) ≤ 126))) H)
 (Q (.bool false) H))))

theorem zqu1_fn (a0 : Int) (Q : QT) (E : ET) (H : Heap) (h : zqu1 Q E a0 H)   : Does Pr 123 #[(.int .u8 a0)] H Q E :=
  Fn_of_vc (fn := Try.f123) (c := (bodyOf Try.f123)) (args := [(.int .u8 a0)]) mixed (by kernel_rfl) (by kernel_rfl) (by kernel_rfl) (by kernel_rfl) (by kernel_rfl) ((conv (B := vc Pr (bodyOf Try.f123) (argT [(.int .u8 a0)]) (zqu1_q1 Q E) E H) (by kernel_rfl) h))

/-! (*jobmux/jobmuxref08.parser).single -/
noncomputable def zqv1_q1 (Q : QT) (E : ET)  : XT := (retQ Pr (Try.f124).results.toList Q)

noncomputable def zqv1_p1 : Code := sB (bodyOf Try.f124)

def zqv1_1 (Q : QT) (E : ET) (x2 : OA) (x4 : Int) (H : Heap) : Prop :=
 Does Pr 108 #[(.agg #[(.int .u64 0), (.int .u64 0), (.int .u64 0), (.int .u64 0)]), (.int .u8 x4)] H (fun v22 H23 =>
 ∃ n24 n25 n26 n27 : Int, v22 = (.agg #[(.int .u64 n24), (.int .u64 n25), (.int .u64 n26), (.int .u64 n27)]) ∧ ptr x2 fun q29 =>
 wr q29 [(.int .u64 n24), (.int .u64 n25), (.int .u64 n26), (.int .u64 n27)] H23 fun H28 =>
 ptr x2 fun q30 =>
 ∃ n31 n32 n33 n34 : Int, Heap.rd H28 q30 0 [(.int .u64 n31), (.int .u64 n32), (.int .u64 n33), (.int .u64 n34)] ∧ Q (.tuple #[(.agg #[(.int .u64 n31), (.int .u64 n32), (.int .u64 n33), (.int .u64 n34)]), (.bool true)]) H28) E

def zqv1_1_M  (τ : Tau) (H : Heap) : Prop := mP (τ 2) fun x2 => mI .u8 (τ 4) fun x4 => zqv1_1 Q E x2 x4 H

theorem zqv1_2ok  : Ok Pr (zqv1_1_M Q E) (sB (sB (sB zqv1_p1))) (zqv1_q1 Q E) E := fun τ H h =>
  wP 2 h (fun x2 h => wI 4 h (fun x4 h => (conv (by kernel_rfl) h)))

noncomputable def zqv1_q2  : XT := (xthen (zqv1_1_M Q E) (zqv1_q1 Q E))

noncomputable def zqv1_p5 : Code := sA (sB (sB zqv1_p1))

noncomputable def zqv1_q3  : XT := (xblock 0 (zqv1_q2 Q E))

noncomputable def zqv1_p8 : Code := sB (sI (sB zqv1_p5))

def zqv1_3 (Q : QT) (E : ET) (x0 x2 : OA) (H : Heap) : Prop :=
 Does Pr 109 #[(.pointer x0)] H (fun v35 H36 =>
 ∃ n37 n38 n39 n40 : Int, ∃ b41 : Bool, v35 = (.tuple #[(.agg #[(.int .u64 n37), (.int .u64 n38), (.int .u64 n39), (.int .u64 n40)]), (.bool b41)]) ∧ ptr x2 fun q43 =>
 wr q43 [(.int .u64 n37), (.int .u64 n38), (.int .u64 n39), (.int .u64 n40)] H36 fun H42 =>
 ptr x2 fun q44 =>
 ∃ n45 n46 n47 n48 : Int, Heap.rd H42 q44 0 [(.int .u64 n45), (.int .u64 n46), (.int .u64 n47), (.int .u64 n48)] ∧ Q (.tuple #[(.agg #[(.int .u64 n45), (.int .u64 n46), (.int .u64 n47), (.int .u64 n48)]), (.bool b41)]) H42) E

def zqv1_3_M  (τ : Tau) (H : Heap) : Prop := mP (τ 0) fun x0 => mP (τ 2) fun x2 => zqv1_3 Q E x0 x2 H

theorem zqv1_4ok  : Ok Pr (zqv1_3_M Q E) (sT zqv1_p8) (zqv1_q3 Q E) E := fun τ H h =>
  wP 0 h (fun x0 h => wP 2 h (fun x2 h => (conv (by kernel_rfl) h)))

def zqv1_5 (Q : QT) (E : ET) (x0 x2 : OA) (x4 : Int) (x28 : Bool) (H : Heap) : Prop :=
 sel x28
 (Does Pr 57 #[(.pointer x0), (.int .i64 80)] H (fun v49 H50 =>
 ptr x2 fun q52 =>
 wr q52 [(.int .u64 0), (.int .u64 0), (.int .u64 0), (.int .u64 0)] H50 fun H51 =>
 ptr x2 fun q53 =>
 ∃ n54 n55 n56 n57 : Int, Heap.rd H51 q53 0 [(.int .u64 n54), (.int .u64 n55), (.int .u64 n56), (.int .u64 n57)] ∧ Q (.tuple #[(.agg #[(.int .u64 n54), (.int .u64 n55), (.int .u64 n56), (.int .u64 n57)]), (.bool false)]) H51) E)
 (zqv1_1 Q E x2 x4 H)

def zqv1_5_M  (τ : Tau) (H : Heap) : Prop := mP (τ 0) fun x0 => mP (τ 2) fun x2 => mI .u8 (τ 4) fun x4 => mB (τ 28) fun x28 => zqv1_5 Q E x0 x2 x4 x28 H

theorem zqv1_6ok  : Ok Pr (zqv1_5_M Q E) (sB (sE zqv1_p8)) (zqv1_q3 Q E) E := fun τ H h =>
  wP 0 h (fun x0 h => wP 2 h (fun x2 h => wI 4 h (fun x4 h => wB 28 h (fun x28 h => (conv (by kernel_rfl) h)))))

noncomputable def zqv1_q4  : XT := (xthen (zqv1_5_M Q E) (zqv1_q3 Q E))

def zqv1_7 (Q : QT) (E : ET) (x0 x2 : OA) (x4 x21 : Int) (H : Heap) : Prop :=
 sel (x21 == 94)
 (zqv1_5 Q E x0 x2 x4 (x21 == 94) H)
 (sel (x21 == 45)
 (zqv1_5 Q E x0 x2 x4 (x21 == 45) H)
 (zqv1_5 Q E x0 x2 x4 (x21 == 93) H))

def zqv1_7_M  (τ : Tau) (H : Heap) : Prop := mP (τ 0) fun x0 => mP (τ 2) fun x2 => mI .u8 (τ 4) fun x4 => mI .u8 (τ 21) fun x21 => zqv1_7 Q E x0 x2 x4 x21 H

theorem zqv1_8ok  : Ok Pr (zqv1_7_M Q E) (sA (sE zqv1_p8)) (zqv1_q4 Q E) E := fun τ H h =>
  wP 0 h (fun x0 h => wP 2 h (fun x2 h => wI 4 h (fun x4 h => wI 21 h (fun x21 h => (conv (by kernel_rfl) h)))))

theorem zqv1_9ok  : Ok Pr (zqv1_7_M Q E) (sE zqv1_p8) (zqv1_q3 Q E) E := fun τ H h =>
  (conv (by kernel_rfl) (vc_seq (K := (zqv1_5_M Q E)) (zqv1_8ok Q E τ H h) (zqv1_6ok Q E)))

def zqv1_10 (Q : QT) (E : ET) (x0 x2 : OA) (x4 x21 : Int) (x22 : Bool) (H : Heap) : Prop :=
 sel x22
 (zqv1_3 Q E x0 x2 H)
 (zqv1_7 Q E x0 x2 x4 x21 H)

def zqv1_10_M  (τ : Tau) (H : Heap) : Prop := mP (τ 0) fun x0 => mP (τ 2) fun x2 => mI .u8 (τ 4) fun x4 => mI .u8 (τ 21) fun x21 => mB (τ 22) fun x22 => zqv1_10 Q E x0 x2 x4 x21 x22 H

theorem zqv1_11ok  : Ok Pr (zqv1_10_M Q E) zqv1_p8 (zqv1_q3 Q E) E := fun τ H h =>
  wP 0 h (fun x0 h => wP 2 h (fun x2 h => wI 4 h (fun x4 h => wI 21 h (fun x21 h => wB 22 h (fun x22 h => (conv (by kernel_rfl) (sel_mapT (b := x22) (τ := (Tau.upd (Tau.upd (Tau.upd (Tau.upd (Tau.upd τ 0 (.pointer x0)) 2 (.pointer x2)) 4 (.int .u8 x4)) 21 (.int .u8 x21)) 22 (.bool x22))) (H := H) (zqv1_4ok Q E) (zqv1_9ok Q E) (conv (by kernel_rfl) h))))))))

noncomputable def zqv1_q5  : XT := (xthen (zqv1_10_M Q E) (zqv1_q3 Q E))

def zqv1_12 (Q : QT) (E : ET) (x0 x2 : OA) (x4 x21 : Int) (H : Heap) : Prop :=
 zqv1_10 Q E x0 x2 x4 x21 (x21 == 92) H

def zqv1_12_M  (τ : Tau) (H : Heap) : Prop := mP (τ 0) fun x0 => mP (τ 2) fun x2 => mI .u8 (τ 4) fun x4 => mI .u8 (τ 21) fun x21 => zqv1_12 Q E x0 x2 x4 x21 H

theorem zqv1_13ok  : Ok Pr (zqv1_12_M Q E) (sA (sI (sB zqv1_p5))) (zqv1_q5 Q E) E := fun τ H h =>
  wP 0 h (fun x0 h => wP 2 h (fun x2 h => wI 4 h (fun x4 h => wI 21 h (fun x21 h => (conv (by kernel_rfl) h)))))

theorem zqv1_14ok  : Ok Pr (zqv1_12_M Q E) (sI (sB zqv1_p5)) (zqv1_q3 Q E) E := fun τ H h =>
  (conv (by kernel_rfl) (vc_seq (K := (zqv1_10_M Q E)) (zqv1_13ok Q E τ H h) (zqv1_11ok Q E)))

theorem zqv1_15ok  : Ok Pr (zqv1_12_M Q E) (sB zqv1_p5) (zqv1_q2 Q E) E := fun τ H h =>
  (conv (by kernel_rfl) (zqv1_14ok Q E τ H h))

noncomputable def zqv1_q6  : XT := (xthen (zqv1_12_M Q E) (zqv1_q2 Q E))

def zqv1_16 (Q : QT) (E : ET) (x0 x2 : OA) (x4 : Int) (H : Heap) : Prop :=
 zqv1_12 Q E x0 x2 x4 x4 H

def zqv1_16_M  (τ : Tau) (H : Heap) : Prop := mP (τ 0) fun x0 => mP (τ 2) fun x2 => mI .u8 (τ 4) fun x4 => zqv1_16 Q E x0 x2 x4 H

theorem zqv1_17ok  : Ok Pr (zqv1_16_M Q E) (sA zqv1_p5) (zqv1_q6 Q E) E := fun τ H h =>
  wP 0 h (fun x0 h => wP 2 h (fun x2 h => wI 4 h (fun x4 h => (conv (by kernel_rfl) h))))

theorem zqv1_18ok  : Ok Pr (zqv1_16_M Q E) zqv1_p5 (zqv1_q2 Q E) E := fun τ H h =>
  (conv (by kernel_rfl) (vc_seq (K := (zqv1_12_M Q E)) (zqv1_17ok Q E τ H h) (zqv1_15ok Q E)))

theorem zqv1_19ok  : Ok Pr (zqv1_16_M Q E) (sB (sB zqv1_p1)) (zqv1_q1 Q E) E := fun τ H h =>
  (conv (by kernel_rfl) (vc_seq (K := (zqv1_1_M Q E)) (zqv1_18ok Q E τ H h) (zqv1_2ok Q E)))

noncomputable def zqv1_q7  : XT := (xthen (zqv1_16_M Q E) (zqv1_q1 Q E))

def zqv1_20 (Q : QT) (E : ET) (x0 x2 : OA) (x4 : Int) (H : Heap) : Prop :=
 ptr x0 fun q58 =>
 ldI .i64 (Addr.add q58 1) H fun n59 =>
 ptr x0 fun q60 =>
 wr (Addr.add q60 1) [(.int .i64 (IntKind.wrap .i64 (n59 + 1)))] H fun H61 =>
 zqv1_16 Q E x0 x2 x4 H61

def zqv1_20_M  (τ : Tau) (H : Heap) : Prop := mP (τ 0) fun x0 => mP (τ 2) fun x2 => mI .u8 (τ 4) fun x4 => zqv1_20 Q E x0 x2 x4 H

theorem zqv1_21ok  : Ok Pr (zqv1_20_M Q E) (sA (sB zqv1_p1)) (zqv1_q7 Q E) E := fun τ H h =>
  wP 0 h (fun x0 h => wP 2 h (fun x2 h => wI 4 h (fun x4 h => (conv (by kernel_rfl) h))))

theorem zqv1_22ok  : Ok Pr (zqv1_20_M Q E) (sB zqv1_p1) (zqv1_q1 Q E) E := fun τ H h =>
  (conv (by kernel_rfl) (vc_seq (K := (zqv1_16_M Q E)) (zqv1_21ok Q E τ H h) (zqv1_19ok Q E)))

noncomputable def zqv1_q8  : XT := (xthen (zqv1_20_M Q E) (zqv1_q1 Q E))

def zqv1_23 (Q : QT) (E : ET) (x0 x2 : OA) (H : Heap) : Prop :=
 ptr x0 fun q62 =>
 ldS q62 H fun s63 =>
 ptr x0 fun q64 =>
 ldI .i64 (Addr.add q64 1) H fun n65 =>
 (0 ≤ n65 ∧ n65 < ((ByteArray.size s63 : Nat) : Int)) ∧ zqv1_20 Q E x0 x2 (sAt s63 n65) H

def zqv1_23_M  (τ : Tau) (H : Heap) : Prop := mP (τ 0) fun x0 => mP (τ 2) fun x2 => zqv1_23 Q E x0 x2 H

theorem zqv1_24ok  : Ok Pr (zqv1_23_M Q E) (sA zqv1_p1) (zqv1_q8 Q E) E := fun τ H h =>
  wP 0 h (fun x0 h => wP 2 h (fun x2 h => (conv (by kernel_rfl) h)))

theorem zqv1_25ok  : Ok Pr (zqv1_23_M Q E) zqv1_p1 (zqv1_q1 Q E) E := fun τ H h =>
  (conv (by kernel_rfl) (vc_seq (K := (zqv1_20_M Q E)) (zqv1_24ok Q E τ H h) (zqv1_22ok Q E)))

def zqv1 (Q : QT) (E : ET) (a0 : OA) (H : Heap) : Prop :=
 nw (.cells #[(.int .u64 0), (.int .u64 0), (.int .u64 0), (.int .u64 0)] 46 (0, 0)) H fun i66 H67 =>
 zqv1_23 Q E a0 (some ⟨i66, 0, none⟩) H67

theorem zqv1_fn (a0 : OA) (Q : QT) (E : ET) (H : Heap) (h : zqv1 Q E a0 H)   : Does Pr 124 #[(.pointer a0)] H Q E :=
  Fn_of_vc (fn := Try.f124) (c := (bodyOf Try.f124)) (args := [(.pointer a0)]) mixed (by kernel_rfl) (by kernel_rfl) (by kernel_rfl) (by kernel_rfl) (by kernel_rfl) ((conv (B := vc Pr (bodyOf Try.f124) (argT [(.pointer a0)]) (zqv1_q1 Q E) E H) (by kernel_rfl) (vc_seq (K := (zqv1_23_M Q E)) (conv (B := vc Pr (sA (bodyOf Try.f124)) (argT [(.pointer a0)]) (xthen (zqv1_23_M Q E) (zqv1_q1 Q E)) E H) (by kernel_rfl) h) (zqv1_25ok Q E))))

/-! jobmux/jobmuxref08.only -/
noncomputable def zqw1_q1 (Q : QT) (E : ET)  : XT := (retQ Pr (Try.f125).results.toList Q)

noncomputable def zqw1_p1 : Code := sB (bodyOf Try.f125)

def zqw1_1 (Q : QT) (E : ET)  (H : Heap) : Prop :=
 Q (.int .i64 0) H

def zqw1_1_M  (τ : Tau) (H : Heap) : Prop := zqw1_1 Q E  H

theorem zqw1_2ok  : Ok Pr (zqw1_1_M Q E) (sB zqw1_p1) (zqw1_q1 Q E) E := fun τ H h =>
  (conv (by kernel_rfl) h)

noncomputable def zqw1_q2  : XT := (xthen (zqw1_1_M Q E) (zqw1_q1 Q E))

noncomputable def zqw1_q4 (nx10 : Int → HP) : XT := (xthen (fun τ H => mI .i64 (τ 3) fun x3' => nx10 x3' H) (xblock 0 (zqw1_q2 Q E)))

noncomputable def zqw1_p6 : Code := sI (sI (sB (sA zqw1_p1)))

def zqw1_3 (nx10 : Int → HP) (Q : QT) (E : ET) (x1 : OA) (x3 : Int) (H : Heap) : Prop :=
 nx10 (IntKind.wrap .i64 (x3 + 1)) H

def zqw1_3_M (nx10 : Int → HP) (τ : Tau) (H : Heap) : Prop := mP (τ 1) fun x1 => mI .i64 (τ 3) fun x3 => zqw1_3 nx10 Q E x1 x3 H

theorem zqw1_4ok (nx10 : Int → HP) : Ok Pr (zqw1_3_M Q E nx10) (sB (sB zqw1_p6)) (zqw1_q4 Q E nx10) E := fun τ H h =>
  wP 1 h (fun x1 h => wI 3 h (fun x3 h => (conv (by kernel_rfl) h)))

def zqw1_5 (nx10 : Int → HP) (Q : QT) (E : ET) (x1 : OA) (x3 : Int) (H : Heap) : Prop :=
 ptr x1 fun q19 =>
 ∃ n20 n21 n22 n23 : Int, Heap.rd H q19 0 [(.int .u64 n20), (.int .u64 n21), (.int .u64 n22), (.int .u64 n23)] ∧ Does Pr 73 #[(.agg #[(.int .u64 n20), (.int .u64 n21), (.int .u64 n22), (.int .u64 n23)]), (.int .u8 (IntKind.wrap .u8 x3))] H (fun v24 H25 =>
 ∃ b26 : Bool, v24 = (.bool b26) ∧ sel b26
 (Q (.int .i64 x3) H25)
 (zqw1_3 nx10 Q E x1 x3 H25)) E

def zqw1_5_M (nx10 : Int → HP) (τ : Tau) (H : Heap) : Prop := mP (τ 1) fun x1 => mI .i64 (τ 3) fun x3 => zqw1_5 nx10 Q E x1 x3 H

theorem zqw1_6ok (nx10 : Int → HP) : Ok Pr (zqw1_5_M Q E nx10) (sA (sB zqw1_p6)) (xthen (zqw1_3_M Q E nx10) (zqw1_q4 Q E nx10)) E := fun τ H h =>
  wP 1 h (fun x1 h => wI 3 h (fun x3 h => (conv (by kernel_rfl) h)))

theorem zqw1_7ok (nx10 : Int → HP) : Ok Pr (zqw1_5_M Q E nx10) (sB zqw1_p6) (zqw1_q4 Q E nx10) E := fun τ H h =>
  (conv (by kernel_rfl) (vc_seq (K := (zqw1_3_M Q E nx10)) (zqw1_6ok Q E nx10 τ H h) (zqw1_4ok Q E nx10)))

def zqw1_8 (nx10 : Int → HP) (Q : QT) (E : ET) (x1 : OA) (x3 : Int) (H : Heap) : Prop :=
 sel (decide (x3 < 256))
 (zqw1_5 nx10 Q E x1 x3 H)
 (zqw1_1 Q E  H)

def zqw1_8_M (nx10 : Int → HP) (τ : Tau) (H : Heap) : Prop := mP (τ 1) fun x1 => mI .i64 (τ 3) fun x3 => zqw1_8 nx10 Q E x1 x3 H

theorem zqw1_9ok (nx10 : Int → HP) : Ok Pr (zqw1_8_M Q E nx10) (sA zqw1_p6) (xthen (zqw1_5_M Q E nx10) (zqw1_q4 Q E nx10)) E := fun τ H h =>
  wP 1 h (fun x1 h => wI 3 h (fun x3 h => (conv (by kernel_rfl) h)))

theorem zqw1_10ok (nx10 : Int → HP) : Ok Pr (zqw1_8_M Q E nx10) zqw1_p6 (zqw1_q4 Q E nx10) E := fun τ H h =>
  (conv (by kernel_rfl) (vc_seq (K := (zqw1_5_M Q E nx10)) (zqw1_9ok Q E nx10 τ H h) (zqw1_7ok Q E nx10)))

def zqw1_11 (Q : QT) (E : ET) (x1 : OA) (x3 : Int) (H : Heap) : Prop :=
 ∃ (I : Int → HP) (μ : Int → Heap → Nat), I x3 H ∧ ∀ (x3 : Int) (H : Heap), I x3 H →
 zqw1_8 (fun x3' H1 => I x3' H1 ∧ μ x3' H1 < μ x3 H) Q E x1 x3 H

def zqw1_11_M  (τ : Tau) (H : Heap) : Prop := mP (τ 1) fun x1 => mI .i64 (τ 3) fun x3 => zqw1_11 Q E x1 x3 H

theorem zqw1_12ok  : Ok Pr (zqw1_11_M Q E) (sI (sB (sA zqw1_p1))) (xblock 0 (zqw1_q2 Q E)) E := fun τ H h =>
  wP 1 h (fun x1 h => wI 3 h (fun x3 h => match h with | ⟨I, μ, h0, hr⟩ => (conv (by kernel_rfl) (vc_loopG (c := sI (sI (sB (sA zqw1_p1)))) (τ := (Tau.upd (Tau.upd τ 1 (.pointer x1)) 3 (.int .i64 x3))) [1] (fun τ H => mI .i64 (τ 3) fun x3' => I x3' H) (fun τ H => μ (gI (τ 3)) H) (by kernel_rfl) h0 (fun τ1 H1 hf hI => uF 1 (.pointer x1) (hf 1 (by simp)) (uI 3 hI (fun x3r h => lgx (zqw1_10ok Q E (fun x3' H2 => I x3' H2 ∧ μ x3' H2 < μ x3r H1) (Tau.upd (Tau.upd τ1 1 (.pointer x1)) 3 (.int .i64 x3r)) H1 (conv (by kernel_rfl) (hr x3r H1 h))) (fun τ2 H2 hk => kI 3 hk (fun x3' h => conv (by kernel_rfl) h)))))))))

theorem zqw1_13ok  : Ok Pr (zqw1_11_M Q E) (sB (sA zqw1_p1)) (zqw1_q2 Q E) E := fun τ H h =>
  (conv (by kernel_rfl) (zqw1_12ok Q E τ H h))

def zqw1_14 (Q : QT) (E : ET) (x1 : OA) (H : Heap) : Prop :=
 zqw1_11 Q E x1 0 H

def zqw1_14_M  (τ : Tau) (H : Heap) : Prop := mP (τ 1) fun x1 => zqw1_14 Q E x1 H

theorem zqw1_15ok  : Ok Pr (zqw1_14_M Q E) (sA (sA zqw1_p1)) (xthen (zqw1_11_M Q E) (zqw1_q2 Q E)) E := fun τ H h =>
  wP 1 h (fun x1 h => (conv (by kernel_rfl) h))

theorem zqw1_16ok  : Ok Pr (zqw1_14_M Q E) (sA zqw1_p1) (zqw1_q2 Q E) E := fun τ H h =>
  (conv (by kernel_rfl) (vc_seq (K := (zqw1_11_M Q E)) (zqw1_15ok Q E τ H h) (zqw1_13ok Q E)))

theorem zqw1_17ok  : Ok Pr (zqw1_14_M Q E) zqw1_p1 (zqw1_q1 Q E) E := fun τ H h =>
  (conv (by kernel_rfl) (vc_seq (K := (zqw1_1_M Q E)) (zqw1_16ok Q E τ H h) (zqw1_2ok Q E)))

def zqw1 (Q : QT) (E : ET) (a0_0 : Int) (a0_1 : Int) (a0_2 : Int) (a0_3 : Int) (H : Heap) : Prop :=
 nw (.cells #[(.int .u64 a0_0), (.int .u64 a0_1), (.int .u64 a0_2), (.int .u64 a0_3)] 46 (0, 0)) H fun i27 H28 =>
 zqw1_14 Q E (some ⟨i27, 0, none⟩) H28

theorem zqw1_fn (a0_0 : Int) (a0_1 : Int) (a0_2 : Int) (a0_3 : Int) (Q : QT) (E : ET) (H : Heap) (h : zqw1 Q E a0_0 a0_1 a0_2 a0_3 H)   : Does Pr 125 #[(.agg #[(.int .u64 a0_0), (.int .u64 a0_1), (.int .u64 a0_2), (.int .u64 a0_3)])] H Q E :=
  Fn_of_vc (fn := Try.f125) (c := (bodyOf Try.f125)) (args := [(.agg #[(.int .u64 a0_0), (.int .u64 a0_1), (.int .u64 a0_2), (.int .u64 a0_3)])]) mixed (by kernel_rfl) (by kernel_rfl) (by kernel_rfl) (by kernel_rfl) (by kernel_rfl) ((conv (B := vc Pr (bodyOf Try.f125) (argT [(.agg #[(.int .u64 a0_0), (.int .u64 a0_1), (.int .u64 a0_2), (.int .u64 a0_3)])]) (zqw1_q1 Q E) E H) (by kernel_rfl) (vc_seq (K := (zqw1_14_M Q E)) (conv (B := vc Pr (sA (bodyOf Try.f125)) (argT [(.agg #[(.int .u64 a0_0), (.int .u64 a0_1), (.int .u64 a0_2), (.int .u64 a0_3)])]) (xthen (zqw1_14_M Q E) (zqw1_q1 Q E)) E H) (by kernel_rfl) h) (zqw1_17ok Q E))))

end Go.Proofs.Ytaffcoiomggpfaa
