import Derived.Test.YtaffcoiomggpfaaVPr
/- Printed by gen.py: the Go functions of package r08 over a heap view, and that the model does so. -/
namespace Go.Proofs.Ytaffcoiomggpfaa
open Go.V
set_option linter.unusedVariables false
set_option maxRecDepth 100000
variable (Q : QT) (E : ET)
/-! jobmux/jobmuxref08.Parse -/
noncomputable def zqa_q1 (Q : QT) (E : ET)  : XT := (retQ Pr (Try.f23).results.toList Q)

noncomputable def zqa_p1 : Code := sB (bodyOf Try.f23)

noncomputable def zqa_p4 : Code := sB (sB (sB zqa_p1))

noncomputable def zqa_p5 : Code := sB zqa_p4

def zqa_1 (Q : QT) (E : ET) (x5 : OA) (l5 c5 : Nat) (H : Heap) : Prop :=
 Q (.tuple #[(.slice x5 l5 c5), (.int .i64 0)]) H

def zqa_1_M  (τ : Tau) (H : Heap) : Prop := mSl (τ 5) fun x5 l5 c5 => zqa_1 Q E x5 l5 c5 H

theorem zqa_2ok  : Ok Pr (zqa_1_M Q E) (sB (sB zqa_p5)) (zqa_q1 Q E) E := fun τ H h =>
  wSl 5 h (fun x5 l5 c5 h => (conv (by kernel_rfl) h))

noncomputable def zqa_q2  : XT := (xthen (zqa_1_M Q E) (zqa_q1 Q E))

def zqa_3 (Q : QT) (E : ET) (x4 x5 : OA) (l5 c5 : Nat) (H : Heap) : Prop :=
 ptr x4 fun q17 =>
 ldI .i64 (Addr.add q17 3) H fun n18 =>
 sel (n18 != 0)
 (ptr x4 fun q19 =>
 ldI .i64 (Addr.add q19 3) H fun n20 =>
 Q (.tuple #[(.slice none 0 0), (.int .i64 n20)]) H)
 (zqa_1 Q E x5 l5 c5 H)

def zqa_3_M  (τ : Tau) (H : Heap) : Prop := mP (τ 4) fun x4 => mSl (τ 5) fun x5 l5 c5 => zqa_3 Q E x4 x5 l5 c5 H

theorem zqa_4ok  : Ok Pr (zqa_3_M Q E) (sA (sB zqa_p5)) (zqa_q2 Q E) E := fun τ H h =>
  wP 4 h (fun x4 h => wSl 5 h (fun x5 l5 c5 h => (conv (by kernel_rfl) h)))

theorem zqa_5ok  : Ok Pr (zqa_3_M Q E) (sB zqa_p5) (zqa_q1 Q E) E := fun τ H h =>
  (conv (by kernel_rfl) (vc_seq (K := (zqa_1_M Q E)) (zqa_4ok Q E τ H h) (zqa_2ok Q E)))

noncomputable def zqa_q3  : XT := (xthen (zqa_3_M Q E) (zqa_q1 Q E))

def zqa_6 (Q : QT) (E : ET) (x4 x5 : OA) (l5 c5 : Nat) (x39 : Bool) (H : Heap) : Prop :=
 sel x39
 (Does Pr 57 #[(.pointer x4), (.int .i64 1)] H (fun v22 H23 =>
 zqa_3 Q E x4 x5 l5 c5 H23) E)
 (zqa_3 Q E x4 x5 l5 c5 H)

def zqa_6_M  (τ : Tau) (H : Heap) : Prop := mP (τ 4) fun x4 => mSl (τ 5) fun x5 l5 c5 => mB (τ 39) fun x39 => zqa_6 Q E x4 x5 l5 c5 x39 H

theorem zqa_7ok  : Ok Pr (zqa_6_M Q E) (sB (sA zqa_p5)) (zqa_q3 Q E) E := fun τ H h =>
  wP 4 h (fun x4 h => wSl 5 h (fun x5 l5 c5 h => wB 39 h (fun x39 h => (conv (by kernel_rfl) h))))

noncomputable def zqa_q4  : XT := (xthen (zqa_6_M Q E) (zqa_q3 Q E))

def zqa_8 (Q : QT) (E : ET) (x4 x5 : OA) (l5 c5 : Nat) (H : Heap) : Prop :=
 ptr x4 fun q24 =>
 ldI .i64 (Addr.add q24 3) H fun n25 =>
 sel (n25 == 0)
 (zqa_6 Q E x4 x5 l5 c5 (decide (((l5 : Int) : Int) > 256)) H)
 (zqa_6 Q E x4 x5 l5 c5 false H)

def zqa_8_M  (τ : Tau) (H : Heap) : Prop := mP (τ 4) fun x4 => mSl (τ 5) fun x5 l5 c5 => zqa_8 Q E x4 x5 l5 c5 H

theorem zqa_9ok  : Ok Pr (zqa_8_M Q E) (sA (sA zqa_p5)) (zqa_q4 Q E) E := fun τ H h =>
  wP 4 h (fun x4 h => wSl 5 h (fun x5 l5 c5 h => (conv (by kernel_rfl) h)))

theorem zqa_10ok  : Ok Pr (zqa_8_M Q E) (sA zqa_p5) (zqa_q3 Q E) E := fun τ H h =>
  (conv (by kernel_rfl) (vc_seq (K := (zqa_6_M Q E)) (zqa_9ok Q E τ H h) (zqa_7ok Q E)))

theorem zqa_11ok  : Ok Pr (zqa_8_M Q E) zqa_p5 (zqa_q1 Q E) E := fun τ H h =>
  (conv (by kernel_rfl) (vc_seq (K := (zqa_3_M Q E)) (zqa_10ok Q E τ H h) (zqa_5ok Q E)))

noncomputable def zqa_q5  : XT := (xthen (zqa_8_M Q E) (zqa_q1 Q E))

def zqa_12 (Q : QT) (E : ET) (x4 x5 : OA) (l5 c5 : Nat) (x27 : Bool) (H : Heap) : Prop :=
 sel x27
 (Does Pr 57 #[(.pointer x4), (.int .i64 83)] H (fun v28 H29 =>
 zqa_8 Q E x4 x5 l5 c5 H29) E)
 (zqa_8 Q E x4 x5 l5 c5 H)

def zqa_12_M  (τ : Tau) (H : Heap) : Prop := mP (τ 4) fun x4 => mSl (τ 5) fun x5 l5 c5 => mB (τ 27) fun x27 => zqa_12 Q E x4 x5 l5 c5 x27 H

theorem zqa_13ok  : Ok Pr (zqa_12_M Q E) (sB (sA zqa_p4)) (zqa_q5 Q E) E := fun τ H h =>
  wP 4 h (fun x4 h => wSl 5 h (fun x5 l5 c5 h => wB 27 h (fun x27 h => (conv (by kernel_rfl) h))))

noncomputable def zqa_q6  : XT := (xthen (zqa_12_M Q E) (zqa_q5 Q E))

def zqa_14 (Q : QT) (E : ET) (x0 : ByteArray) (x4 x5 : OA) (l5 c5 : Nat) (H : Heap) : Prop :=
 ptr x4 fun q30 =>
 ldI .i64 (Addr.add q30 3) H fun n31 =>
 sel (n31 == 0)
 (ptr x4 fun q32 =>
 ldI .i64 (Addr.add q32 1) H fun n33 =>
 zqa_12 Q E x4 x5 l5 c5 (decide (n33 < ((ByteArray.size x0 : Nat) : Int))) H)
 (zqa_12 Q E x4 x5 l5 c5 false H)

def zqa_14_M  (τ : Tau) (H : Heap) : Prop := mS (τ 0) fun x0 => mP (τ 4) fun x4 => mSl (τ 5) fun x5 l5 c5 => zqa_14 Q E x0 x4 x5 l5 c5 H

theorem zqa_15ok  : Ok Pr (zqa_14_M Q E) (sA (sA zqa_p4)) (zqa_q6 Q E) E := fun τ H h =>
  wS 0 h (fun x0 h => wP 4 h (fun x4 h => wSl 5 h (fun x5 l5 c5 h => (conv (by kernel_rfl) h))))

theorem zqa_16ok  : Ok Pr (zqa_14_M Q E) (sA zqa_p4) (zqa_q5 Q E) E := fun τ H h =>
  (conv (by kernel_rfl) (vc_seq (K := (zqa_12_M Q E)) (zqa_15ok Q E τ H h) (zqa_13ok Q E)))

theorem zqa_17ok  : Ok Pr (zqa_14_M Q E) zqa_p4 (zqa_q1 Q E) E := fun τ H h =>
  (conv (by kernel_rfl) (vc_seq (K := (zqa_8_M Q E)) (zqa_16ok Q E τ H h) (zqa_11ok Q E)))

noncomputable def zqa_q7  : XT := (xthen (zqa_14_M Q E) (zqa_q1 Q E))

def zqa_18 (Q : QT) (E : ET) (x0 : ByteArray) (x4 : OA) (H : Heap) : Prop :=
 Does Pr 56 #[(.pointer x4)] H (fun v34 H35 =>
 ∃ (p36 : OA) (l37 c38 : Nat), v34 = (.slice p36 l37 c38) ∧ zqa_14 Q E x0 x4 p36 l37 c38 H35) E

def zqa_18_M  (τ : Tau) (H : Heap) : Prop := mS (τ 0) fun x0 => mP (τ 4) fun x4 => zqa_18 Q E x0 x4 H

theorem zqa_19ok  : Ok Pr (zqa_18_M Q E) (sA (sB (sB zqa_p1))) (zqa_q7 Q E) E := fun τ H h =>
  wS 0 h (fun x0 h => wP 4 h (fun x4 h => (conv (by kernel_rfl) h)))

theorem zqa_20ok  : Ok Pr (zqa_18_M Q E) (sB (sB zqa_p1)) (zqa_q1 Q E) E := fun τ H h =>
  (conv (by kernel_rfl) (vc_seq (K := (zqa_14_M Q E)) (zqa_19ok Q E τ H h) (zqa_17ok Q E)))

def zqa_21 (Q : QT) (E : ET) (x0 : ByteArray) (H : Heap) : Prop :=
 nw (.cells #[(.string x0), (.int .i64 0), (.int .i64 0), (.int .i64 0)] 83 (0, 0)) H fun i39 H40 =>
 zqa_18 Q E x0 (some ⟨i39, 0, none⟩) H40

def zqa_21_M  (τ : Tau) (H : Heap) : Prop := mS (τ 0) fun x0 => zqa_21 Q E x0 H

theorem zqa_22ok  : Ok Pr (zqa_21_M Q E) (sA (sB zqa_p1)) (xthen (zqa_18_M Q E) (zqa_q1 Q E)) E := fun τ H h =>
  wS 0 h (fun x0 h => (conv (by kernel_rfl) h))

theorem zqa_23ok  : Ok Pr (zqa_21_M Q E) (sB zqa_p1) (zqa_q1 Q E) E := fun τ H h =>
  (conv (by kernel_rfl) (vc_seq (K := (zqa_18_M Q E)) (zqa_22ok Q E τ H h) (zqa_20ok Q E)))

def zqa_24 (Q : QT) (E : ET) (x0 : ByteArray) (H : Heap) : Prop :=
 sel (decide ((((ByteArray.size x0 : Nat) : Int) : Int) > 128))
 (Q (.tuple #[(.slice none 0 0), (.int .i64 1)]) H)
 (zqa_21 Q E x0 H)

def zqa_24_M  (τ : Tau) (H : Heap) : Prop := mS (τ 0) fun x0 => zqa_24 Q E x0 H

theorem zqa_25ok  : Ok Pr (zqa_24_M Q E) (sA zqa_p1) (xthen (zqa_21_M Q E) (zqa_q1 Q E)) E := fun τ H h =>
  wS 0 h (fun x0 h => (conv (by kernel_rfl) h))

theorem zqa_26ok  : Ok Pr (zqa_24_M Q E) zqa_p1 (zqa_q1 Q E) E := fun τ H h =>
  (conv (by kernel_rfl) (vc_seq (K := (zqa_21_M Q E)) (zqa_25ok Q E τ H h) (zqa_23ok Q E)))

def zqa (Q : QT) (E : ET) (a0 : ByteArray) (H : Heap) : Prop :=
 zqa_24 Q E a0 H

theorem zqa_fn (a0 : ByteArray) (Q : QT) (E : ET) (H : Heap) (h : zqa Q E a0 H)   : Does Pr 23 #[(.string a0)] H Q E :=
  Fn_of_vc (fn := Try.f23) (c := (bodyOf Try.f23)) (args := [(.string a0)]) mixed (by kernel_rfl) (by kernel_rfl) (by kernel_rfl) (by kernel_rfl) (by kernel_rfl) ((conv (B := vc Pr (bodyOf Try.f23) (argT [(.string a0)]) (zqa_q1 Q E) E H) (by kernel_rfl) (vc_seq (K := (zqa_24_M Q E)) (conv (B := vc Pr (sA (bodyOf Try.f23)) (argT [(.string a0)]) (xthen (zqa_24_M Q E) (zqa_q1 Q E)) E H) (by kernel_rfl) h) (zqa_26ok Q E))))

/-! jobmux/jobmuxref08.Kids -/
noncomputable def zqb_q1 (Q : QT) (E : ET)  : XT := (retQ Pr (Try.f42).results.toList Q)

noncomputable def zqb_p1 : Code := sB (bodyOf Try.f42)

def zqb_1 (Q : QT) (E : ET)  (H : Heap) : Prop :=
 Q (.int .i64 0) H

def zqb_1_M  (τ : Tau) (H : Heap) : Prop := zqb_1 Q E  H

theorem zqb_2ok  : Ok Pr (zqb_1_M Q E) (sB zqb_p1) (zqb_q1 Q E) E := fun τ H h =>
  (conv (by kernel_rfl) h)

noncomputable def zqb_q2  : XT := (xthen (zqb_1_M Q E) (zqb_q1 Q E))

noncomputable def zqb_q3  : XT := (xblock 0 (zqb_q2 Q E))

noncomputable def zqb_p6 : Code := sB (sI (sB (sA zqb_p1)))

def zqb_3 (Q : QT) (E : ET)  (H : Heap) : Prop :=
 Q (.int .i64 2) H

def zqb_3_M  (τ : Tau) (H : Heap) : Prop := zqb_3 Q E  H

theorem zqb_4ok  : Ok Pr (zqb_3_M Q E) (sT zqb_p6) (zqb_q3 Q E) E := fun τ H h =>
  (conv (by kernel_rfl) h)

def zqb_5 (Q : QT) (E : ET) (x7 : Bool) (H : Heap) : Prop :=
 sel x7
 (Q (.int .i64 1) H)
 (zqb_1 Q E  H)

def zqb_5_M  (τ : Tau) (H : Heap) : Prop := mB (τ 7) fun x7 => zqb_5 Q E x7 H

theorem zqb_6ok  : Ok Pr (zqb_5_M Q E) (sB (sE zqb_p6)) (zqb_q3 Q E) E := fun τ H h =>
  wB 7 h (fun x7 h => (conv (by kernel_rfl) h))

def zqb_7 (Q : QT) (E : ET) (x3 : Int) (H : Heap) : Prop :=
 sel (x3 == 5)
 (zqb_5 Q E (x3 == 5) H)
 (sel (x3 == 6)
 (zqb_5 Q E (x3 == 6) H)
 (zqb_5 Q E (x3 == 7) H))

def zqb_7_M  (τ : Tau) (H : Heap) : Prop := mI .i64 (τ 3) fun x3 => zqb_7 Q E x3 H

theorem zqb_8ok  : Ok Pr (zqb_7_M Q E) (sA (sE zqb_p6)) (xthen (zqb_5_M Q E) (zqb_q3 Q E)) E := fun τ H h =>
  wI 3 h (fun x3 h => (conv (by kernel_rfl) h))

theorem zqb_9ok  : Ok Pr (zqb_7_M Q E) (sE zqb_p6) (zqb_q3 Q E) E := fun τ H h =>
  (conv (by kernel_rfl) (vc_seq (K := (zqb_5_M Q E)) (zqb_8ok Q E τ H h) (zqb_6ok Q E)))

def zqb_10 (Q : QT) (E : ET) (x3 : Int) (x4 : Bool) (H : Heap) : Prop :=
 sel x4
 (zqb_3 Q E  H)
 (zqb_7 Q E x3 H)

def zqb_10_M  (τ : Tau) (H : Heap) : Prop := mI .i64 (τ 3) fun x3 => mB (τ 4) fun x4 => zqb_10 Q E x3 x4 H

theorem zqb_11ok  : Ok Pr (zqb_10_M Q E) zqb_p6 (zqb_q3 Q E) E := fun τ H h =>
  wI 3 h (fun x3 h => wB 4 h (fun x4 h => (conv (by kernel_rfl) (sel_mapT (b := x4) (τ := (Tau.upd (Tau.upd τ 3 (.int .i64 x3)) 4 (.bool x4))) (H := H) (zqb_4ok Q E) (zqb_9ok Q E) (conv (by kernel_rfl) h)))))

def zqb_12 (Q : QT) (E : ET) (x3 : Int) (H : Heap) : Prop :=
 sel (x3 == 3)
 (zqb_10 Q E x3 (x3 == 3) H)
 (zqb_10 Q E x3 (x3 == 4) H)

def zqb_12_M  (τ : Tau) (H : Heap) : Prop := mI .i64 (τ 3) fun x3 => zqb_12 Q E x3 H

theorem zqb_13ok  : Ok Pr (zqb_12_M Q E) (sA (sI (sB (sA zqb_p1)))) (xthen (zqb_10_M Q E) (zqb_q3 Q E)) E := fun τ H h =>
  wI 3 h (fun x3 h => (conv (by kernel_rfl) h))

theorem zqb_14ok  : Ok Pr (zqb_12_M Q E) (sI (sB (sA zqb_p1))) (zqb_q3 Q E) E := fun τ H h =>
  (conv (by kernel_rfl) (vc_seq (K := (zqb_10_M Q E)) (zqb_13ok Q E τ H h) (zqb_11ok Q E)))

theorem zqb_15ok  : Ok Pr (zqb_12_M Q E) (sB (sA zqb_p1)) (zqb_q2 Q E) E := fun τ H h =>
  (conv (by kernel_rfl) (zqb_14ok Q E τ H h))

def zqb_16 (Q : QT) (E : ET) (x0 : Int) (H : Heap) : Prop :=
 zqb_12 Q E x0 H

def zqb_16_M  (τ : Tau) (H : Heap) : Prop := mI .i64 (τ 0) fun x0 => zqb_16 Q E x0 H

theorem zqb_17ok  : Ok Pr (zqb_16_M Q E) (sA (sA zqb_p1)) (xthen (zqb_12_M Q E) (zqb_q2 Q E)) E := fun τ H h =>
  wI 0 h (fun x0 h => (conv (by kernel_rfl) h))

theorem zqb_18ok  : Ok Pr (zqb_16_M Q E) (sA zqb_p1) (zqb_q2 Q E) E := fun τ H h =>
  (conv (by kernel_rfl) (vc_seq (K := (zqb_12_M Q E)) (zqb_17ok Q E τ H h) (zqb_15ok Q E)))

theorem zqb_19ok  : Ok Pr (zqb_16_M Q E) zqb_p1 (zqb_q1 Q E) E := fun τ H h =>
  (conv (by kernel_rfl) (vc_seq (K := (zqb_1_M Q E)) (zqb_18ok Q E τ H h) (zqb_2ok Q E)))

def zqb (Q : QT) (E : ET) (a0 : Int) (H : Heap) : Prop :=
 zqb_16 Q E a0 H

theorem zqb_fn (a0 : Int) (Q : QT) (E : ET) (H : Heap) (h : zqb Q E a0 H)   : Does Pr 42 #[(.int .i64 a0)] H Q E :=
  Fn_of_vc (fn := Try.f42) (c := (bodyOf Try.f42)) (args := [(.int .i64 a0)]) mixed (by kernel_rfl) (by kernel_rfl) (by kernel_rfl) (by kernel_rfl) (by kernel_rfl) ((conv (B := vc Pr (bodyOf Try.f42) (argT [(.int .i64 a0)]) (zqb_q1 Q E) E H) (by kernel_rfl) (vc_seq (K := (zqb_16_M Q E)) (conv (B := vc Pr (sA (bodyOf Try.f42)) (argT [(.int .i64 a0)]) (xthen (zqb_16_M Q E) (zqb_q1 Q E)) E H) (by kernel_rfl) h) (zqb_19ok Q E))))

/-! (*jobmux/jobmuxref08.parser).alt -/
noncomputable def zqc_q1 (Q : QT) (E : ET)  : XT := (retQ Pr (Try.f56).results.toList Q)

noncomputable def zqc_p1 : Code := sB (bodyOf Try.f56)

def zqc_1 (Q : QT) (E : ET) (x3 : OA) (l3 c3 : Nat) (H : Heap) : Prop :=
 Q (.slice x3 l3 c3) H

def zqc_1_M  (τ : Tau) (H : Heap) : Prop := mSl (τ 3) fun x3 l3 c3 => zqc_1 Q E x3 l3 c3 H

theorem zqc_2ok  : Ok Pr (zqc_1_M Q E) (sB (sB zqc_p1)) (zqc_q1 Q E) E := fun τ H h =>
  wSl 3 h (fun x3 l3 c3 h => (conv (by kernel_rfl) h))

noncomputable def zqc_q2  : XT := (xthen (zqc_1_M Q E) (zqc_q1 Q E))

noncomputable def zqc_q4 (nx29 : OA → Nat → Nat → HP) : XT := (xthen (fun τ H => mSl (τ 3) fun x3' l3' c3' => nx29 x3' l3' c3' H) (xblock 0 (zqc_q2 Q E)))

noncomputable def zqc_p6 : Code := sI (sI (sA (sB zqc_p1)))

noncomputable def zqc_q5 (nx29 : OA → Nat → Nat → HP) : XT := (xblock 1 (zqc_q4 Q E nx29))

noncomputable def zqc_p9 : Code := sB (sI (sB zqc_p6))

def zqc_3 (nx29 : OA → Nat → Nat → HP) (Q : QT) (E : ET) (x0 x3 : OA) (l3 c3 : Nat) (x4 : OA) (l4 c4 : Nat) (H : Heap) : Prop :=
 Does Pr 91 #[(.int .i64 4), (.slice x3 l3 c3), (.slice x4 l4 c4)] H (fun v48 H49 =>
 ∃ (p50 : OA) (l51 c52 : Nat), v48 = (.slice p50 l51 c52) ∧ nx29 p50 l51 c52 H49) E

def zqc_3_M (nx29 : OA → Nat → Nat → HP) (τ : Tau) (H : Heap) : Prop := mP (τ 0) fun x0 => mSl (τ 3) fun x3 l3 c3 => mSl (τ 4) fun x4 l4 c4 => zqc_3 nx29 Q E x0 x3 l3 c3 x4 l4 c4 H

theorem zqc_4ok (nx29 : OA → Nat → Nat → HP) : Ok Pr (zqc_3_M Q E nx29) (sB (sB zqc_p9)) (zqc_q5 Q E nx29) E := fun τ H h =>
  wP 0 h (fun x0 h => wSl 3 h (fun x3 l3 c3 h => wSl 4 h (fun x4 l4 c4 h => (conv (by kernel_rfl) h))))

noncomputable def zqc_q6 (nx29 : OA → Nat → Nat → HP) : XT := (xthen (zqc_3_M Q E nx29) (zqc_q5 Q E nx29))

def zqc_5 (nx29 : OA → Nat → Nat → HP) (Q : QT) (E : ET) (x0 x3 : OA) (l3 c3 : Nat) (x4 : OA) (l4 c4 : Nat) (H : Heap) : Prop :=
 ptr x0 fun q53 =>
 ldI .i64 (Addr.add q53 3) H fun n54 =>
 sel (n54 != 0)
 (Q (.slice none 0 0) H)
 (zqc_3 nx29 Q E x0 x3 l3 c3 x4 l4 c4 H)

def zqc_5_M (nx29 : OA → Nat → Nat → HP) (τ : Tau) (H : Heap) : Prop := mP (τ 0) fun x0 => mSl (τ 3) fun x3 l3 c3 => mSl (τ 4) fun x4 l4 c4 => zqc_5 nx29 Q E x0 x3 l3 c3 x4 l4 c4 H

theorem zqc_6ok (nx29 : OA → Nat → Nat → HP) : Ok Pr (zqc_5_M Q E nx29) (sA (sB zqc_p9)) (zqc_q6 Q E nx29) E := fun τ H h =>
  wP 0 h (fun x0 h => wSl 3 h (fun x3 l3 c3 h => wSl 4 h (fun x4 l4 c4 h => (conv (by kernel_rfl) h))))

theorem zqc_7ok (nx29 : OA → Nat → Nat → HP) : Ok Pr (zqc_5_M Q E nx29) (sB zqc_p9) (zqc_q5 Q E nx29) E := fun τ H h =>
  (conv (by kernel_rfl) (vc_seq (K := (zqc_3_M Q E nx29)) (zqc_6ok Q E nx29 τ H h) (zqc_4ok Q E nx29)))

def zqc_8 (nx29 : OA → Nat → Nat → HP) (Q : QT) (E : ET) (x0 x3 : OA) (l3 c3 : Nat) (H : Heap) : Prop :=
 Does Pr 89 #[(.pointer x0)] H (fun v55 H56 =>
 ∃ (p57 : OA) (l58 c59 : Nat), v55 = (.slice p57 l58 c59) ∧ zqc_5 nx29 Q E x0 x3 l3 c3 p57 l58 c59 H56) E

def zqc_8_M (nx29 : OA → Nat → Nat → HP) (τ : Tau) (H : Heap) : Prop := mP (τ 0) fun x0 => mSl (τ 3) fun x3 l3 c3 => zqc_8 nx29 Q E x0 x3 l3 c3 H

theorem zqc_9ok (nx29 : OA → Nat → Nat → HP) : Ok Pr (zqc_8_M Q E nx29) (sA zqc_p9) (xthen (zqc_5_M Q E nx29) (zqc_q5 Q E nx29)) E := fun τ H h =>
  wP 0 h (fun x0 h => wSl 3 h (fun x3 l3 c3 h => (conv (by kernel_rfl) h)))

theorem zqc_10ok (nx29 : OA → Nat → Nat → HP) : Ok Pr (zqc_8_M Q E nx29) zqc_p9 (zqc_q5 Q E nx29) E := fun τ H h =>
  (conv (by kernel_rfl) (vc_seq (K := (zqc_5_M Q E nx29)) (zqc_9ok Q E nx29 τ H h) (zqc_7ok Q E nx29)))

def zqc_11 (nx29 : OA → Nat → Nat → HP) (Q : QT) (E : ET) (x0 x3 : OA) (l3 c3 : Nat) (H : Heap) : Prop :=
 ptr x0 fun q60 =>
 ldI .i64 (Addr.add q60 1) H fun n61 =>
 ptr x0 fun q62 =>
 wr (Addr.add q62 1) [(.int .i64 (IntKind.wrap .i64 (n61 + 1)))] H fun H63 =>
 zqc_8 nx29 Q E x0 x3 l3 c3 H63

def zqc_11_M (nx29 : OA → Nat → Nat → HP) (τ : Tau) (H : Heap) : Prop := mP (τ 0) fun x0 => mSl (τ 3) fun x3 l3 c3 => zqc_11 nx29 Q E x0 x3 l3 c3 H

theorem zqc_12ok (nx29 : OA → Nat → Nat → HP) : Ok Pr (zqc_11_M Q E nx29) (sA (sI (sB zqc_p6))) (xthen (zqc_8_M Q E nx29) (zqc_q5 Q E nx29)) E := fun τ H h =>
  wP 0 h (fun x0 h => wSl 3 h (fun x3 l3 c3 h => (conv (by kernel_rfl) h)))

theorem zqc_13ok (nx29 : OA → Nat → Nat → HP) : Ok Pr (zqc_11_M Q E nx29) (sI (sB zqc_p6)) (zqc_q5 Q E nx29) E := fun τ H h =>
  (conv (by kernel_rfl) (vc_seq (K := (zqc_8_M Q E nx29)) (zqc_12ok Q E nx29 τ H h) (zqc_10ok Q E nx29)))

theorem zqc_14ok (nx29 : OA → Nat → Nat → HP) : Ok Pr (zqc_11_M Q E nx29) (sB zqc_p6) (zqc_q4 Q E nx29) E := fun τ H h =>
  (conv (by kernel_rfl) (zqc_13ok Q E nx29 τ H h))

noncomputable def zqc_q9 (nx29 : OA → Nat → Nat → HP) : XT := (xthen (zqc_11_M Q E nx29) (zqc_q4 Q E nx29))

def zqc_15 (nx29 : OA → Nat → Nat → HP) (Q : QT) (E : ET) (x0 x3 : OA) (l3 c3 : Nat) (x20 : Bool) (H : Heap) : Prop :=
 sel x20
 (zqc_11 nx29 Q E x0 x3 l3 c3 H)
 (zqc_1 Q E x3 l3 c3 H)

def zqc_15_M (nx29 : OA → Nat → Nat → HP) (τ : Tau) (H : Heap) : Prop := mP (τ 0) fun x0 => mSl (τ 3) fun x3 l3 c3 => mB (τ 20) fun x20 => zqc_15 nx29 Q E x0 x3 l3 c3 x20 H

theorem zqc_16ok (nx29 : OA → Nat → Nat → HP) : Ok Pr (zqc_15_M Q E nx29) (sB (sA zqc_p6)) (zqc_q9 Q E nx29) E := fun τ H h =>
  wP 0 h (fun x0 h => wSl 3 h (fun x3 l3 c3 h => wB 20 h (fun x20 h => (conv (by kernel_rfl) h))))

def zqc_17 (nx29 : OA → Nat → Nat → HP) (Q : QT) (E : ET) (x0 x3 : OA) (l3 c3 : Nat) (H : Heap) : Prop :=
 Does Pr 90 #[(.pointer x0)] H (fun v71 H72 =>
 ∃ b73 : Bool, v71 = (.bool b73) ∧ sel b73
 (ptr x0 fun q74 =>
 ldS q74 H72 fun s75 =>
 ptr x0 fun q76 =>
 ldI .i64 (Addr.add q76 1) H72 fun n77 =>
 (0 ≤ n77 ∧ n77 < ((ByteArray.size s75 : Nat) : Int)) ∧ zqc_15 nx29 Q E x0 x3 l3 c3 (((sAt s75 n77) : Int) == 124) H72)
 (zqc_15 nx29 Q E x0 x3 l3 c3 false H72)) (fun _ _ => False)

def zqc_17_M (nx29 : OA → Nat → Nat → HP) (τ : Tau) (H : Heap) : Prop := mP (τ 0) fun x0 => mSl (τ 3) fun x3 l3 c3 => zqc_17 nx29 Q E x0 x3 l3 c3 H

theorem zqc_18ok (nx29 : OA → Nat → Nat → HP) : Ok Pr (zqc_17_M Q E nx29) (sA (sA zqc_p6)) (xthen (zqc_15_M Q E nx29) (zqc_q9 Q E nx29)) E := fun τ H h =>
  wP 0 h (fun x0 h => wSl 3 h (fun x3 l3 c3 h => (conv (by kernel_rfl) h)))

theorem zqc_19ok (nx29 : OA → Nat → Nat → HP) : Ok Pr (zqc_17_M Q E nx29) (sA zqc_p6) (zqc_q9 Q E nx29) E := fun τ H h =>
  (conv (by kernel_rfl) (vc_seq (K := (zqc_15_M Q E nx29)) (zqc_18ok Q E nx29 τ H h) (zqc_16ok Q E nx29)))

theorem zqc_20ok (nx29 : OA → Nat → Nat → HP) : Ok Pr (zqc_17_M Q E nx29) zqc_p6 (zqc_q4 Q E nx29) E := fun τ H h =>
  (conv (by kernel_rfl) (vc_seq (K := (zqc_11_M Q E nx29)) (zqc_19ok Q E nx29 τ H h) (zqc_14ok Q E nx29)))

def zqc_21 (Q : QT) (E : ET) (x0 x3 : OA) (l3 c3 : Nat) (H : Heap) : Prop :=
 ∃ (I : OA → Nat → Nat → HP) (μ : OA → Nat → Nat → Heap → Nat), I x3 l3 c3 H ∧ ∀ (x3 : OA) (l3 c3 : Nat) (H : Heap), I x3 l3 c3 H →
 zqc_17 (fun x3' l3' c3' H1 => I x3' l3' c3' H1 ∧ μ x3' l3' c3' H1 < μ x3 l3 c3 H) Q E x0 x3 l3 c3 H

def zqc_21_M  (τ : Tau) (H : Heap) : Prop := mP (τ 0) fun x0 => mSl (τ 3) fun x3 l3 c3 => zqc_21 Q E x0 x3 l3 c3 H

theorem zqc_22ok  : Ok Pr (zqc_21_M Q E) (sI (sA (sB zqc_p1))) (xblock 0 (zqc_q2 Q E)) E := fun τ H h =>
  wP 0 h (fun x0 h => wSl 3 h (fun x3 l3 c3 h => match h with | ⟨I, μ, h0, hr⟩ => (conv (by kernel_rfl) (vc_loopG (c := sI (sI (sA (sB zqc_p1)))) (τ := (Tau.upd (Tau.upd τ 0 (.pointer x0)) 3 (.slice x3 l3 c3))) [0] (fun τ H => mSl (τ 3) fun x3' l3' c3' => I x3' l3' c3' H) (fun τ H => μ (gL1 (τ 3)) (gL2 (τ 3)) (gL3 (τ 3)) H) (by kernel_rfl) h0 (fun τ1 H1 hf hI => uF 0 (.pointer x0) (hf 0 (by simp)) (uSl 3 hI (fun x3r l3r c3r h => lgx (zqc_20ok Q E (fun x3' l3' c3' H2 => I x3' l3' c3' H2 ∧ μ x3' l3' c3' H2 < μ x3r l3r c3r H1) (Tau.upd (Tau.upd τ1 0 (.pointer x0)) 3 (.slice x3r l3r c3r)) H1 (conv (by kernel_rfl) (hr x3r l3r c3r H1 h))) (fun τ2 H2 hk => kSl 3 hk (fun x3' l3' c3' h => conv (by kernel_rfl) h)))))))))

theorem zqc_23ok  : Ok Pr (zqc_21_M Q E) (sA (sB zqc_p1)) (zqc_q2 Q E) E := fun τ H h =>
  (conv (by kernel_rfl) (zqc_22ok Q E τ H h))

theorem zqc_24ok  : Ok Pr (zqc_21_M Q E) (sB zqc_p1) (zqc_q1 Q E) E := fun τ H h =>
  (conv (by kernel_rfl) (vc_seq (K := (zqc_1_M Q E)) (zqc_23ok Q E τ H h) (zqc_2ok Q E)))

def zqc_25 (Q : QT) (E : ET) (x0 : OA) (H : Heap) : Prop :=
 Does Pr 89 #[(.pointer x0)] H (fun v78 H79 =>
 ∃ (p80 : OA) (l81 c82 : Nat), v78 = (.slice p80 l81 c82) ∧ zqc_21 Q E x0 p80 l81 c82 H79) E

def zqc_25_M  (τ : Tau) (H : Heap) : Prop := mP (τ 0) fun x0 => zqc_25 Q E x0 H

theorem zqc_26ok  : Ok Pr (zqc_25_M Q E) (sA zqc_p1) (xthen (zqc_21_M Q E) (zqc_q1 Q E)) E := fun τ H h =>
  wP 0 h (fun x0 h => (conv (by kernel_rfl) h))

theorem zqc_27ok  : Ok Pr (zqc_25_M Q E) zqc_p1 (zqc_q1 Q E) E := fun τ H h =>
  (conv (by kernel_rfl) (vc_seq (K := (zqc_21_M Q E)) (zqc_26ok Q E τ H h) (zqc_24ok Q E)))

def zqc (Q : QT) (E : ET) (a0 : OA) (H : Heap) : Prop :=
 zqc_25 Q E a0 H

theorem zqc_fn (a0 : OA) (Q : QT) (E : ET) (H : Heap) (h : zqc Q E a0 H)   : Does Pr 56 #[(.pointer a0)] H Q E :=
  Fn_of_vc (fn := Try.f56) (c := (bodyOf Try.f56)) (args := [(.pointer a0)]) mixed (by kernel_rfl) (by kernel_rfl) (by kernel_rfl) (by kernel_rfl) (by kernel_rfl) ((conv (B := vc Pr (bodyOf Try.f56) (argT [(.pointer a0)]) (zqc_q1 Q E) E H) (by kernel_rfl) (vc_seq (K := (zqc_25_M Q E)) (conv (B := vc Pr (sA (bodyOf Try.f56)) (argT [(.pointer a0)]) (xthen (zqc_25_M Q E) (zqc_q1 Q E)) E H) (by kernel_rfl) h) (zqc_27ok Q E))))

/-! (*jobmux/jobmuxref08.parser).fail -/
noncomputable def zqd_q1 (Q : QT) (E : ET)  : XT := (retQ Pr (Try.f57).results.toList Q)

def zqd (Q : QT) (E : ET) (a0 : OA) (a1 : Int) (H : Heap) : Prop :=
 ptr a0 fun q1 =>
 ldI .i64 (Addr.add q1 3) H fun n2 =>
 sel (n2 == 0)
 (ptr a0 fun q3 =>
 wr (Addr.add q3 3) [(.int .i64 a1)] H fun H4 =>
 Q (.tuple #[]) H4)
 (Q (.tuple #[]) H)

theorem zqd_fn (a0 : OA) (a1 : Int) (Q : QT) (E : ET) (H : Heap) (h : zqd Q E a0 a1 H)   : Does Pr 57 #[(.pointer a0), (.int .i64 a1)] H Q E :=
  Fn_of_vc (fn := Try.f57) (c := (bodyOf Try.f57)) (args := [(.pointer a0), (.int .i64 a1)]) mixed (by kernel_rfl) (by kernel_rfl) (by kernel_rfl) (by kernel_rfl) (by kernel_rfl) ((conv (B := vc Pr (bodyOf Try.f57) (argT [(.pointer a0), (.int .i64 a1)]) (zqd_q1 Q E) E H) (by kernel_rfl) h))

/-! jobmux/jobmuxref08.Has -/
noncomputable def zqe_q1 (Q : QT) (E : ET)  : XT := (retQ Pr (Try.f73).results.toList Q)

def zqe (Q : QT) (E : ET) (a0_0 : Int) (a0_1 : Int) (a0_2 : Int) (a0_3 : Int) (a1 : Int) (H : Heap) : Prop :=
 nw (.cells #[(.int .u64 a0_0), (.int .u64 a0_1), (.int .u64 a0_2), (.int .u64 a0_3)] 46 (0, 0)) H fun i1 H2 =>
 (64 : Int) ≠ 0 ∧ (0 ≤ ((IntKind.wrap .u8 (Int.tdiv a1 64)) : Int) ∧ ((IntKind.wrap .u8 (Int.tdiv a1 64)) : Int) < ((4 : Nat) : Int)) ∧ ldI .u64 (Addr.add ⟨i1, 0, none⟩ (((IntKind.wrap .u8 (Int.tdiv a1 64)) : Int).toNat * 1)) H2 fun n3 =>
 (64 : Int) ≠ 0 ∧ 0 ≤ ((Int.tmod a1 64) : Int) ∧ Q (.bool (((IntKind.wrap .u64 (BitVec.ofInt (IntKind.bits .u64) (Int.fdiv n3 (2 ^ min ((Int.tmod a1 64) : Int).toNat (IntKind.bits .u64))) &&& BitVec.ofInt (IntKind.bits .u64) 1).toNat) : Int) == 1)) H2

theorem zqe_fn (a0_0 : Int) (a0_1 : Int) (a0_2 : Int) (a0_3 : Int) (a1 : Int) (Q : QT) (E : ET) (H : Heap) (h : zqe Q E a0_0 a0_1 a0_2 a0_3 a1 H)   : Does Pr 73 #[(.agg #[(.int .u64 a0_0), (.int .u64 a0_1), (.int .u64 a0_2), (.int .u64 a0_3)]), (.int .u8 a1)] H Q E :=
  Fn_of_vc (fn := Try.f73) (c := (bodyOf Try.f73)) (args := [(.agg #[(.int .u64 a0_0), (.int .u64 a0_1), (.int .u64 a0_2), (.int .u64 a0_3)]), (.int .u8 a1)]) mixed (by kernel_rfl) (by kernel_rfl) (by kernel_rfl) (by kernel_rfl) (by kernel_rfl) ((conv (B := vc Pr (bodyOf Try.f73) (argT [(.agg #[(.int .u64 a0_0), (.int .u64 a0_1), (.int .u64 a0_2), (.int .u64 a0_3)]), (.int .u8 a1)]) (zqe_q1 Q E) E H) (by kernel_rfl) h))

/-! (*jobmux/jobmuxref08.parser).cat -/
noncomputable def zqf_q1 (Q : QT) (E : ET)  : XT := (retQ Pr (Try.f89).results.toList Q)

noncomputable def zqf_p1 : Code := sB (bodyOf Try.f89)

def zqf_1 (Q : QT) (E : ET) (x3 : OA) (l3 c3 : Nat) (H : Heap) : Prop :=
 Q (.slice x3 l3 c3) H

def zqf_1_M  (τ : Tau) (H : Heap) : Prop := mSl (τ 3) fun x3 l3 c3 => zqf_1 Q E x3 l3 c3 H

theorem zqf_2ok  : Ok Pr (zqf_1_M Q E) (sB (sB (sB zqf_p1))) (zqf_q1 Q E) E := fun τ H h =>
  wSl 3 h (fun x3 l3 c3 h => (conv (by kernel_rfl) h))

def zqf_3 (Q : QT) (E : ET) (x3 : OA) (l3 c3 : Nat) (H : Heap) : Prop :=
 sel (((l3 : Int) : Int) == 0)
 (Does Pr 101 #[(.int .i64 1), (.agg #[(.int .u64 0), (.int .u64 0), (.int .u64 0), (.int .u64 0)])] H (fun v29 H30 =>
 ∃ (p31 : OA) (l32 c33 : Nat), v29 = (.slice p31 l32 c33) ∧ Q (.slice p31 l32 c33) H30) E)
 (zqf_1 Q E x3 l3 c3 H)

def zqf_3_M  (τ : Tau) (H : Heap) : Prop := mSl (τ 3) fun x3 l3 c3 => zqf_3 Q E x3 l3 c3 H

theorem zqf_4ok  : Ok Pr (zqf_3_M Q E) (sA (sB (sB zqf_p1))) (xthen (zqf_1_M Q E) (zqf_q1 Q E)) E := fun τ H h =>
  wSl 3 h (fun x3 l3 c3 h => (conv (by kernel_rfl) h))

theorem zqf_5ok  : Ok Pr (zqf_3_M Q E) (sB (sB zqf_p1)) (zqf_q1 Q E) E := fun τ H h =>
  (conv (by kernel_rfl) (vc_seq (K := (zqf_1_M Q E)) (zqf_4ok Q E τ H h) (zqf_2ok Q E)))

noncomputable def zqf_q3  : XT := (xthen (zqf_3_M Q E) (zqf_q1 Q E))

noncomputable def zqf_p7 : Code := sI (sA (sB zqf_p1))

noncomputable def zqf_q5 (nx34 : OA → Nat → Nat → HP) : XT := (xthen (fun τ H => mSl (τ 3) fun x3' l3' c3' => nx34 x3' l3' c3' H) (xblock 0 (zqf_q3 Q E)))

noncomputable def zqf_p9 : Code := sB (sI zqf_p7)

noncomputable def zqf_q6 (nx34 : OA → Nat → Nat → HP) : XT := (xblock 1 (zqf_q5 Q E nx34))

def zqf_6 (nx34 : OA → Nat → Nat → HP) (Q : QT) (E : ET) (x0 x3 : OA) (l3 c3 : Nat) (x4 : OA) (l4 c4 : Nat) (H : Heap) : Prop :=
 sel (((l3 : Int) : Int) == 0)
 (nx34 x4 l4 c4 H)
 (Does Pr 91 #[(.int .i64 3), (.slice x3 l3 c3), (.slice x4 l4 c4)] H (fun v53 H54 =>
 ∃ (p55 : OA) (l56 c57 : Nat), v53 = (.slice p55 l56 c57) ∧ nx34 p55 l56 c57 H54) E)

def zqf_6_M (nx34 : OA → Nat → Nat → HP) (τ : Tau) (H : Heap) : Prop := mP (τ 0) fun x0 => mSl (τ 3) fun x3 l3 c3 => mSl (τ 4) fun x4 l4 c4 => zqf_6 nx34 Q E x0 x3 l3 c3 x4 l4 c4 H

theorem zqf_7ok (nx34 : OA → Nat → Nat → HP) : Ok Pr (zqf_6_M Q E nx34) (sB (sB (sI zqf_p9))) (zqf_q6 Q E nx34) E := fun τ H h =>
  wP 0 h (fun x0 h => wSl 3 h (fun x3 l3 c3 h => wSl 4 h (fun x4 l4 c4 h => (conv (by kernel_rfl) h))))

noncomputable def zqf_q7 (nx34 : OA → Nat → Nat → HP) : XT := (xthen (zqf_6_M Q E nx34) (zqf_q6 Q E nx34))

def zqf_8 (nx34 : OA → Nat → Nat → HP) (Q : QT) (E : ET) (x0 x3 : OA) (l3 c3 : Nat) (x4 : OA) (l4 c4 : Nat) (H : Heap) : Prop :=
 ptr x0 fun q58 =>
 ldI .i64 (Addr.add q58 3) H fun n59 =>
 sel (n59 != 0)
 (Q (.slice none 0 0) H)
 (zqf_6 nx34 Q E x0 x3 l3 c3 x4 l4 c4 H)

def zqf_8_M (nx34 : OA → Nat → Nat → HP) (τ : Tau) (H : Heap) : Prop := mP (τ 0) fun x0 => mSl (τ 3) fun x3 l3 c3 => mSl (τ 4) fun x4 l4 c4 => zqf_8 nx34 Q E x0 x3 l3 c3 x4 l4 c4 H

theorem zqf_9ok (nx34 : OA → Nat → Nat → HP) : Ok Pr (zqf_8_M Q E nx34) (sA (sB (sI zqf_p9))) (zqf_q7 Q E nx34) E := fun τ H h =>
  wP 0 h (fun x0 h => wSl 3 h (fun x3 l3 c3 h => wSl 4 h (fun x4 l4 c4 h => (conv (by kernel_rfl) h))))

theorem zqf_10ok (nx34 : OA → Nat → Nat → HP) : Ok Pr (zqf_8_M Q E nx34) (sB (sI zqf_p9)) (zqf_q6 Q E nx34) E := fun τ H h =>
  (conv (by kernel_rfl) (vc_seq (K := (zqf_6_M Q E nx34)) (zqf_9ok Q E nx34 τ H h) (zqf_7ok Q E nx34)))

def zqf_11 (nx34 : OA → Nat → Nat → HP) (Q : QT) (E : ET) (x0 x3 : OA) (l3 c3 : Nat) (H : Heap) : Prop :=
 Does Pr 100 #[(.pointer x0)] H (fun v60 H61 =>
 ∃ (p62 : OA) (l63 c64 : Nat), v60 = (.slice p62 l63 c64) ∧ zqf_8 nx34 Q E x0 x3 l3 c3 p62 l63 c64 H61) E

def zqf_11_M (nx34 : OA → Nat → Nat → HP) (τ : Tau) (H : Heap) : Prop := mP (τ 0) fun x0 => mSl (τ 3) fun x3 l3 c3 => zqf_11 nx34 Q E x0 x3 l3 c3 H

theorem zqf_12ok (nx34 : OA → Nat → Nat → HP) : Ok Pr (zqf_11_M Q E nx34) (sA (sI zqf_p9)) (xthen (zqf_8_M Q E nx34) (zqf_q6 Q E nx34)) E := fun τ H h =>
  wP 0 h (fun x0 h => wSl 3 h (fun x3 l3 c3 h => (conv (by kernel_rfl) h)))

theorem zqf_13ok (nx34 : OA → Nat → Nat → HP) : Ok Pr (zqf_11_M Q E nx34) (sI zqf_p9) (zqf_q6 Q E nx34) E := fun τ H h =>
  (conv (by kernel_rfl) (vc_seq (K := (zqf_8_M Q E nx34)) (zqf_12ok Q E nx34 τ H h) (zqf_10ok Q E nx34)))

theorem zqf_14ok (nx34 : OA → Nat → Nat → HP) : Ok Pr (zqf_11_M Q E nx34) zqf_p9 (zqf_q5 Q E nx34) E := fun τ H h =>
  (conv (by kernel_rfl) (zqf_13ok Q E nx34 τ H h))

noncomputable def zqf_q9 (nx34 : OA → Nat → Nat → HP) : XT := (xthen (zqf_11_M Q E nx34) (zqf_q5 Q E nx34))

def zqf_15 (nx34 : OA → Nat → Nat → HP) (Q : QT) (E : ET) (x0 x3 : OA) (l3 c3 : Nat) (x30 : Bool) (H : Heap) : Prop :=
 sel x30
 (zqf_11 nx34 Q E x0 x3 l3 c3 H)
 (zqf_3 Q E x3 l3 c3 H)

def zqf_15_M (nx34 : OA → Nat → Nat → HP) (τ : Tau) (H : Heap) : Prop := mP (τ 0) fun x0 => mSl (τ 3) fun x3 l3 c3 => mB (τ 30) fun x30 => zqf_15 nx34 Q E x0 x3 l3 c3 x30 H

theorem zqf_16ok (nx34 : OA → Nat → Nat → HP) : Ok Pr (zqf_15_M Q E nx34) (sB (sA (sI zqf_p7))) (zqf_q9 Q E nx34) E := fun τ H h =>
  wP 0 h (fun x0 h => wSl 3 h (fun x3 l3 c3 h => wB 30 h (fun x30 h => (conv (by kernel_rfl) h))))

def zqf_17 (nx34 : OA → Nat → Nat → HP) (Q : QT) (E : ET) (x0 x3 : OA) (l3 c3 : Nat) (H : Heap) : Prop :=
 Does Pr 90 #[(.pointer x0)] H (fun v76 H77 =>
 ∃ b78 : Bool, v76 = (.bool b78) ∧ sel b78
 (ptr x0 fun q79 =>
 ldS q79 H77 fun s80 =>
 ptr x0 fun q81 =>
 ldI .i64 (Addr.add q81 1) H77 fun n82 =>
 (0 ≤ n82 ∧ n82 < ((ByteArray.size s80 : Nat) : Int)) ∧ sel (((sAt s80 n82) : Int) != 124)
 (ptr x0 fun q83 =>
 ldS q83 H77 fun s84 =>
 ptr x0 fun q85 =>
 ldI .i64 (Addr.add q85 1) H77 fun n86 =>
 (0 ≤ n86 ∧ n86 < ((ByteArray.size s84 : Nat) : Int)) ∧ zqf_15 nx34 Q E x0 x3 l3 c3 (((sAt s84 n86) : Int) != 41) H77)
 (zqf_15 nx34 Q E x0 x3 l3 c3 false H77))
 (zqf_15 nx34 Q E x0 x3 l3 c3 false H77)) (fun _ _ => False)

def zqf_17_M (nx34 : OA → Nat → Nat → HP) (τ : Tau) (H : Heap) : Prop := mP (τ 0) fun x0 => mSl (τ 3) fun x3 l3 c3 => zqf_17 nx34 Q E x0 x3 l3 c3 H

theorem zqf_18ok (nx34 : OA → Nat → Nat → HP) : Ok Pr (zqf_17_M Q E nx34) (sA (sA (sI zqf_p7))) (xthen (zqf_15_M Q E nx34) (zqf_q9 Q E nx34)) E := fun τ H h =>
  wP 0 h (fun x0 h => wSl 3 h (fun x3 l3 c3 h => (conv (by kernel_rfl) h)))

theorem zqf_19ok (nx34 : OA → Nat → Nat → HP) : Ok Pr (zqf_17_M Q E nx34) (sA (sI zqf_p7)) (zqf_q9 Q E nx34) E := fun τ H h =>
  (conv (by kernel_rfl) (vc_seq (K := (zqf_15_M Q E nx34)) (zqf_18ok Q E nx34 τ H h) (zqf_16ok Q E nx34)))

theorem zqf_20ok (nx34 : OA → Nat → Nat → HP) : Ok Pr (zqf_17_M Q E nx34) (sI zqf_p7) (zqf_q5 Q E nx34) E := fun τ H h =>
  (conv (by kernel_rfl) (vc_seq (K := (zqf_11_M Q E nx34)) (zqf_19ok Q E nx34 τ H h) (zqf_14ok Q E nx34)))

def zqf_21 (Q : QT) (E : ET) (x0 x3 : OA) (l3 c3 : Nat) (H : Heap) : Prop :=
 ∃ (I : OA → Nat → Nat → HP) (μ : OA → Nat → Nat → Heap → Nat), I x3 l3 c3 H ∧ ∀ (x3 : OA) (l3 c3 : Nat) (H : Heap), I x3 l3 c3 H →
 zqf_17 (fun x3' l3' c3' H1 => I x3' l3' c3' H1 ∧ μ x3' l3' c3' H1 < μ x3 l3 c3 H) Q E x0 x3 l3 c3 H

def zqf_21_M  (τ : Tau) (H : Heap) : Prop := mP (τ 0) fun x0 => mSl (τ 3) fun x3 l3 c3 => zqf_21 Q E x0 x3 l3 c3 H

theorem zqf_22ok  : Ok Pr (zqf_21_M Q E) zqf_p7 (xblock 0 (zqf_q3 Q E)) E := fun τ H h =>
  wP 0 h (fun x0 h => wSl 3 h (fun x3 l3 c3 h => match h with | ⟨I, μ, h0, hr⟩ => (conv (by kernel_rfl) (vc_loopG (c := sI zqf_p7) (τ := (Tau.upd (Tau.upd τ 0 (.pointer x0)) 3 (.slice x3 l3 c3))) [0] (fun τ H => mSl (τ 3) fun x3' l3' c3' => I x3' l3' c3' H) (fun τ H => μ (gL1 (τ 3)) (gL2 (τ 3)) (gL3 (τ 3)) H) (by kernel_rfl) h0 (fun τ1 H1 hf hI => uF 0 (.pointer x0) (hf 0 (by simp)) (uSl 3 hI (fun x3r l3r c3r h => lgx (zqf_20ok Q E (fun x3' l3' c3' H2 => I x3' l3' c3' H2 ∧ μ x3' l3' c3' H2 < μ x3r l3r c3r H1) (Tau.upd (Tau.upd τ1 0 (.pointer x0)) 3 (.slice x3r l3r c3r)) H1 (conv (by kernel_rfl) (hr x3r l3r c3r H1 h))) (fun τ2 H2 hk => kSl 3 hk (fun x3' l3' c3' h => conv (by kernel_rfl) h)))))))))

theorem zqf_23ok  : Ok Pr (zqf_21_M Q E) (sA (sB zqf_p1)) (zqf_q3 Q E) E := fun τ H h =>
  (conv (by kernel_rfl) (zqf_22ok Q E τ H h))

theorem zqf_24ok  : Ok Pr (zqf_21_M Q E) (sB zqf_p1) (zqf_q1 Q E) E := fun τ H h =>
  (conv (by kernel_rfl) (vc_seq (K := (zqf_3_M Q E)) (zqf_23ok Q E τ H h) (zqf_5ok Q E)))

def zqf_25 (Q : QT) (E : ET) (x0 : OA) (H : Heap) : Prop :=
 zqf_21 Q E x0 none 0 0 H

def zqf_25_M  (τ : Tau) (H : Heap) : Prop := mP (τ 0) fun x0 => zqf_25 Q E x0 H

theorem zqf_26ok  : Ok Pr (zqf_25_M Q E) (sA zqf_p1) (xthen (zqf_21_M Q E) (zqf_q1 Q E)) E := fun τ H h =>
  wP 0 h (fun x0 h => (conv (by kernel_rfl) h))

theorem zqf_27ok  : Ok Pr (zqf_25_M Q E) zqf_p1 (zqf_q1 Q E) E := fun τ H h =>
  (conv (by kernel_rfl) (vc_seq (K := (zqf_21_M Q E)) (zqf_26ok Q E τ H h) (zqf_24ok Q E)))

def zqf (Q : QT) (E : ET) (a0 : OA) (H : Heap) : Prop :=
 zqf_25 Q E a0 H

theorem zqf_fn (a0 : OA) (Q : QT) (E : ET) (H : Heap) (h : zqf Q E a0 H)   : Does Pr 89 #[(.pointer a0)] H Q E :=
  Fn_of_vc (fn := Try.f89) (c := (bodyOf Try.f89)) (args := [(.pointer a0)]) mixed (by kernel_rfl) (by kernel_rfl) (by kernel_rfl) (by kernel_rfl) (by kernel_rfl) ((conv (B := vc Pr (bodyOf Try.f89) (argT [(.pointer a0)]) (zqf_q1 Q E) E H) (by kernel_rfl) (vc_seq (K := (zqf_25_M Q E)) (conv (B := vc Pr (sA (bodyOf Try.f89)) (argT [(.pointer a0)]) (xthen (zqf_25_M Q E) (zqf_q1 Q E)) E H) (by kernel_rfl) h) (zqf_27ok Q E))))

/-! (*jobmux/jobmuxref08.parser).more -/
noncomputable def zqg_q1 (Q : QT) (E : ET)  : XT := (retQ Pr (Try.f90).results.toList Q)

def zqg (Q : QT) (E : ET) (a0 : OA) (H : Heap) : Prop :=
 ptr a0 fun q1 =>
 ldI .i64 (Addr.add q1 3) H fun n2 =>
 sel (n2 == 0)
 (ptr a0 fun q3 =>
 ldI .i64 (Addr.add q3 1) H fun n4 =>
 ptr a0 fun q5 =>
 ldS q5 H fun s6 =>
 Q (.bool (decide (n4 < ((ByteArray.size s6 : Nat) : Int)))) H)
 (Q (.bool false) H)

theorem zqg_fn (a0 : OA) (Q : QT) (E : ET) (H : Heap) (h : zqg Q E a0 H)   : Does Pr 90 #[(.pointer a0)] H Q E :=
  Fn_of_vc (fn := Try.f90) (c := (bodyOf Try.f90)) (args := [(.pointer a0)]) mixed (by kernel_rfl) (by kernel_rfl) (by kernel_rfl) (by kernel_rfl) (by kernel_rfl) ((conv (B := vc Pr (bodyOf Try.f90) (argT [(.pointer a0)]) (zqg_q1 Q E) E H) (by kernel_rfl) h))

/-! jobmux/jobmuxref08.join -/
noncomputable def zqh_q1 (Q : QT) (E : ET)  : XT := (retQ Pr (Try.f91).results.toList Q)

noncomputable def zqh_p0 : Code := bodyOf Try.f91

noncomputable def zqh_p3 : Code := sB (sB (sB zqh_p0))

def zqh_1 (Q : QT) (E : ET) (x7 : OA) (l7 c7 : Nat) (x10 : OA) (H : Heap) : Prop :=
 ptr x10 fun q48 =>
 ∃ n49 n50 n51 n52 n53 n54 n55 : Int, Heap.rd H q48 0 [(.int .i64 n49), (.int .i64 n50), (.int .i64 n51), (.int .u64 n52), (.int .u64 n53), (.int .u64 n54), (.int .u64 n55)] ∧ nw (.cells #[(.int .i64 n49), (.int .i64 n50), (.int .i64 n51), (.int .u64 n52), (.int .u64 n53), (.int .u64 n54), (.int .u64 n55)] 48 (0, 0)) H fun i56 H57 =>
 app Pr 23 x7 l7 c7 (.slice (some ⟨i56, 0, none⟩) 1 1) H57 fun p58 l59 c60 H61 =>
 Q (.slice p58 l59 c60) H61

def zqh_1_M  (τ : Tau) (H : Heap) : Prop := mSl (τ 7) fun x7 l7 c7 => mP (τ 10) fun x10 => zqh_1 Q E x7 l7 c7 x10 H

theorem zqh_2ok  : Ok Pr (zqh_1_M Q E) (sB (sB zqh_p3)) (zqh_q1 Q E) E := fun τ H h =>
  wSl 7 h (fun x7 l7 c7 h => wP 10 h (fun x10 h => (conv (by kernel_rfl) h)))

noncomputable def zqh_q2  : XT := (xthen (zqh_1_M Q E) (zqh_q1 Q E))

def zqh_3 (Q : QT) (E : ET) (x1 : OA) (l1 c1 : Nat) (x2 : OA) (l2 c2 : Nat) (x7 : OA) (l7 c7 : Nat) (x10 : OA) (H : Heap) : Prop :=
 sel (decide (((l2 : Int) : Int) > 0))
 (ptr x10 fun q62 =>
 wr (Addr.add q62 2) [(.int .i64 (IntKind.wrap .i64 ((IntKind.wrap .i64 ((l1 : Int) + (l2 : Int))) - 1)))] H fun H63 =>
 zqh_1 Q E x7 l7 c7 x10 H63)
 (zqh_1 Q E x7 l7 c7 x10 H)

def zqh_3_M  (τ : Tau) (H : Heap) : Prop := mSl (τ 1) fun x1 l1 c1 => mSl (τ 2) fun x2 l2 c2 => mSl (τ 7) fun x7 l7 c7 => mP (τ 10) fun x10 => zqh_3 Q E x1 l1 c1 x2 l2 c2 x7 l7 c7 x10 H

theorem zqh_4ok  : Ok Pr (zqh_3_M Q E) (sA (sB zqh_p3)) (zqh_q2 Q E) E := fun τ H h =>
  wSl 1 h (fun x1 l1 c1 h => wSl 2 h (fun x2 l2 c2 h => wSl 7 h (fun x7 l7 c7 h => wP 10 h (fun x10 h => (conv (by kernel_rfl) h)))))

theorem zqh_5ok  : Ok Pr (zqh_3_M Q E) (sB zqh_p3) (zqh_q1 Q E) E := fun τ H h =>
  (conv (by kernel_rfl) (vc_seq (K := (zqh_1_M Q E)) (zqh_4ok Q E τ H h) (zqh_2ok Q E)))

noncomputable def zqh_q3  : XT := (xthen (zqh_3_M Q E) (zqh_q1 Q E))

def zqh_6 (Q : QT) (E : ET) (x0 : Int) (x1 : OA) (l1 c1 : Nat) (x2 : OA) (l2 c2 : Nat) (x7 : OA) (l7 c7 : Nat) (H : Heap) : Prop :=
 nw (.cells #[(.int .i64 0), (.int .i64 0), (.int .i64 0), (.int .u64 0), (.int .u64 0), (.int .u64 0), (.int .u64 0)] 48 (0, 0)) H fun i64 H65 =>
 wr ⟨i64, 0, none⟩ [(.int .i64 x0), (.int .i64 (IntKind.wrap .i64 ((l1 : Int) - 1))), (.int .i64 0), (.int .u64 0), (.int .u64 0), (.int .u64 0), (.int .u64 0)] H65 fun H66 =>
 zqh_3 Q E x1 l1 c1 x2 l2 c2 x7 l7 c7 (some ⟨i64, 0, none⟩) H66

def zqh_6_M  (τ : Tau) (H : Heap) : Prop := mI .i64 (τ 0) fun x0 => mSl (τ 1) fun x1 l1 c1 => mSl (τ 2) fun x2 l2 c2 => mSl (τ 7) fun x7 l7 c7 => zqh_6 Q E x0 x1 l1 c1 x2 l2 c2 x7 l7 c7 H

theorem zqh_7ok  : Ok Pr (zqh_6_M Q E) (sA zqh_p3) (zqh_q3 Q E) E := fun τ H h =>
  wI 0 h (fun x0 h => wSl 1 h (fun x1 l1 c1 h => wSl 2 h (fun x2 l2 c2 h => wSl 7 h (fun x7 l7 c7 h => (conv (by kernel_rfl) h)))))

theorem zqh_8ok  : Ok Pr (zqh_6_M Q E) zqh_p3 (zqh_q1 Q E) E := fun τ H h =>
  (conv (by kernel_rfl) (vc_seq (K := (zqh_3_M Q E)) (zqh_7ok Q E τ H h) (zqh_5ok Q E)))

noncomputable def zqh_q4  : XT := (xthen (zqh_6_M Q E) (zqh_q1 Q E))

noncomputable def zqh_p8 : Code := sA (sB (sB zqh_p0))

noncomputable def zqh_q5  : XT := (xblock 0 (zqh_q4 Q E))

noncomputable def zqh_q6 (nx67 : OA → Nat → Nat → Int → HP) : XT := (xthen (fun τ H => mSl (τ 7) fun x7' l7' c7' => mI .i64 (τ 8) fun x8' => nx67 x7' l7' c7' x8' H) (zqh_q5 Q E))

noncomputable def zqh_p11 : Code := sI (sI (sB zqh_p8))

def zqh_9 (nx67 : OA → Nat → Nat → Int → HP) (Q : QT) (E : ET) (x0 : Int) (x1 : OA) (l1 c1 : Nat) (x2 : OA) (l2 c2 : Nat) (x7 : OA) (l7 c7 : Nat) (x8 : Int) (H : Heap) : Prop :=
 (0 ≤ x8 ∧ x8 < (l2 : Int)) ∧ ptr x2 fun q68 =>
 ∃ n69 n70 n71 n72 n73 n74 n75 : Int, Heap.rd H (Addr.add q68 (x8.toNat * 7)) 0 [(.int .i64 n69), (.int .i64 n70), (.int .i64 n71), (.int .u64 n72), (.int .u64 n73), (.int .u64 n74), (.int .u64 n75)] ∧ nw (.cells #[(.int .i64 0), (.int .i64 0), (.int .i64 0), (.int .u64 0), (.int .u64 0), (.int .u64 0), (.int .u64 0)] 48 (0, 0)) H fun i76 H77 =>
 wr ⟨i76, 0, none⟩ [(.int .i64 n69), (.int .i64 n70), (.int .i64 n71), (.int .u64 n72), (.int .u64 n73), (.int .u64 n74), (.int .u64 n75)] H77 fun H78 =>
 ∃ Z79 : Nat → Prop,
 ldI .i64 ⟨i76, 0, none⟩ H78 fun n80 =>
 ldI .i64 ⟨i76, 1, none⟩ H78 fun n81 =>
 Z79 (Addr.block ⟨i76, 0, none⟩) ∧ ldI .i64 ⟨i76, 0, none⟩ H78 fun n82 =>
 Z79 (Addr.block ⟨i76, 2, none⟩) ∧ ldI .i64 ⟨i76, 2, none⟩ H78 fun n83 =>
 Does Pr 102 #[(.int .i64 n80), (.int .i64 0), (.int .i64 n81), (.int .i64 (l1 : Int))] H78 (fun v84 H85 =>
 ∃ n86 : Int, v84 = (.int .i64 n86) ∧ (∀ z, Z79 z → H78 z ≠ none → H85 z = H78 z) ∧ Does Pr 102 #[(.int .i64 n82), (.int .i64 1), (.int .i64 n83), (.int .i64 (l1 : Int))] H85 (fun v87 H88 =>
 ∃ n89 : Int, v87 = (.int .i64 n89) ∧ wr ⟨i76, 1, none⟩ [(.int .i64 n86)] H88 fun H90 =>
 wr ⟨i76, 2, none⟩ [(.int .i64 n89)] H90 fun H91 =>
 ∃ n92 n93 n94 n95 n96 n97 n98 : Int, Heap.rd H91 ⟨i76, 0, none⟩ 0 [(.int .i64 n92), (.int .i64 n93), (.int .i64 n94), (.int .u64 n95), (.int .u64 n96), (.int .u64 n97), (.int .u64 n98)] ∧ nw (.cells #[(.int .i64 n92), (.int .i64 n93), (.int .i64 n94), (.int .u64 n95), (.int .u64 n96), (.int .u64 n97), (.int .u64 n98)] 48 (0, 0)) H91 fun i99 H100 =>
 app Pr 23 x7 l7 c7 (.slice (some ⟨i99, 0, none⟩) 1 1) H100 fun p101 l102 c103 H104 =>
 nx67 p101 l102 c103 (IntKind.wrap .i64 (x8 + 1)) H104) (fun _ _ => False)) (fun _ _ => False)

def zqh_9_M (nx67 : OA → Nat → Nat → Int → HP) (τ : Tau) (H : Heap) : Prop := mI .i64 (τ 0) fun x0 => mSl (τ 1) fun x1 l1 c1 => mSl (τ 2) fun x2 l2 c2 => mSl (τ 7) fun x7 l7 c7 => mI .i64 (τ 8) fun x8 => zqh_9 nx67 Q E x0 x1 l1 c1 x2 l2 c2 x7 l7 c7 x8 H

theorem zqh_10ok (nx67 : OA → Nat → Nat → Int → HP) : Ok Pr (zqh_9_M Q E nx67) (sB zqh_p11) (zqh_q6 Q E nx67) E := fun τ H h =>
  wI 0 h (fun x0 h => wSl 1 h (fun x1 l1 c1 h => wSl 2 h (fun x2 l2 c2 h => wSl 7 h (fun x7 l7 c7 h => wI 8 h (fun x8 h => (conv (by kernel_rfl) h))))))

noncomputable def zqh_q7 (nx67 : OA → Nat → Nat → Int → HP) : XT := (xthen (zqh_9_M Q E nx67) (zqh_q6 Q E nx67))

def zqh_11 (nx67 : OA → Nat → Nat → Int → HP) (Q : QT) (E : ET) (x0 : Int) (x1 : OA) (l1 c1 : Nat) (x2 : OA) (l2 c2 : Nat) (x7 : OA) (l7 c7 : Nat) (x8 : Int) (H : Heap) : Prop :=
 sel (decide (x8 < (l2 : Int)))
 (zqh_9 nx67 Q E x0 x1 l1 c1 x2 l2 c2 x7 l7 c7 x8 H)
 (zqh_6 Q E x0 x1 l1 c1 x2 l2 c2 x7 l7 c7 H)

def zqh_11_M (nx67 : OA → Nat → Nat → Int → HP) (τ : Tau) (H : Heap) : Prop := mI .i64 (τ 0) fun x0 => mSl (τ 1) fun x1 l1 c1 => mSl (τ 2) fun x2 l2 c2 => mSl (τ 7) fun x7 l7 c7 => mI .i64 (τ 8) fun x8 => zqh_11 nx67 Q E x0 x1 l1 c1 x2 l2 c2 x7 l7 c7 x8 H

theorem zqh_12ok (nx67 : OA → Nat → Nat → Int → HP) : Ok Pr (zqh_11_M Q E nx67) (sA zqh_p11) (zqh_q7 Q E nx67) E := fun τ H h =>
  wI 0 h (fun x0 h => wSl 1 h (fun x1 l1 c1 h => wSl 2 h (fun x2 l2 c2 h => wSl 7 h (fun x7 l7 c7 h => wI 8 h (fun x8 h => (conv (by kernel_rfl) h))))))

theorem zqh_13ok (nx67 : OA → Nat → Nat → Int → HP) : Ok Pr (zqh_11_M Q E nx67) zqh_p11 (zqh_q6 Q E nx67) E := fun τ H h =>
  (conv (by kernel_rfl) (vc_seq (K := (zqh_9_M Q E nx67)) (zqh_12ok Q E nx67 τ H h) (zqh_10ok Q E nx67)))

def zqh_14 (Q : QT) (E : ET) (x0 : Int) (x1 : OA) (l1 c1 : Nat) (x2 : OA) (l2 c2 : Nat) (x7 : OA) (l7 c7 : Nat) (x8 : Int) (H : Heap) : Prop :=
 ∃ (I : OA → Nat → Nat → Int → HP) (μ : OA → Nat → Nat → Int → Heap → Nat), I x7 l7 c7 x8 H ∧ ∀ (x7 : OA) (l7 c7 : Nat) (x8 : Int) (H : Heap), I x7 l7 c7 x8 H →
 zqh_11 (fun x7' l7' c7' x8' H1 => I x7' l7' c7' x8' H1 ∧ μ x7' l7' c7' x8' H1 < μ x7 l7 c7 x8 H) Q E x0 x1 l1 c1 x2 l2 c2 x7 l7 c7 x8 H

def zqh_14_M  (τ : Tau) (H : Heap) : Prop := mI .i64 (τ 0) fun x0 => mSl (τ 1) fun x1 l1 c1 => mSl (τ 2) fun x2 l2 c2 => mSl (τ 7) fun x7 l7 c7 => mI .i64 (τ 8) fun x8 => zqh_14 Q E x0 x1 l1 c1 x2 l2 c2 x7 l7 c7 x8 H

theorem zqh_15ok  : Ok Pr (zqh_14_M Q E) (sI (sB zqh_p8)) (zqh_q5 Q E) E := fun τ H h =>
  wI 0 h (fun x0 h => wSl 1 h (fun x1 l1 c1 h => wSl 2 h (fun x2 l2 c2 h => wSl 7 h (fun x7 l7 c7 h => wI 8 h (fun x8 h => match h with | ⟨I, μ, h0, hr⟩ => (conv (by kernel_rfl) (vc_loopG (c := sI (sI (sB zqh_p8))) (τ := (Tau.upd (Tau.upd (Tau.upd (Tau.upd (Tau.upd τ 0 (.int .i64 x0)) 1 (.slice x1 l1 c1)) 2 (.slice x2 l2 c2)) 7 (.slice x7 l7 c7)) 8 (.int .i64 x8))) [0, 1, 2] (fun τ H => mSl (τ 7) fun x7' l7' c7' => mI .i64 (τ 8) fun x8' => I x7' l7' c7' x8' H) (fun τ H => μ (gL1 (τ 7)) (gL2 (τ 7)) (gL3 (τ 7)) (gI (τ 8)) H) (by kernel_rfl) h0 (fun τ1 H1 hf hI => uF 0 (.int .i64 x0) (hf 0 (by simp)) (uF 1 (.slice x1 l1 c1) (hf 1 (by simp)) (uF 2 (.slice x2 l2 c2) (hf 2 (by simp)) (uSl 7 hI (fun x7r l7r c7r h => uI 8 h (fun x8r h => lgx (zqh_13ok Q E (fun x7' l7' c7' x8' H2 => I x7' l7' c7' x8' H2 ∧ μ x7' l7' c7' x8' H2 < μ x7r l7r c7r x8r H1) (Tau.upd (Tau.upd (Tau.upd (Tau.upd (Tau.upd τ1 0 (.int .i64 x0)) 1 (.slice x1 l1 c1)) 2 (.slice x2 l2 c2)) 7 (.slice x7r l7r c7r)) 8 (.int .i64 x8r)) H1 (conv (by kernel_rfl) (hr x7r l7r c7r x8r H1 h))) (fun τ2 H2 hk => kSl 7 hk (fun x7' l7' c7' h => kI 8 h (fun x8' h => conv (by kernel_rfl) h))))))))))))))))

theorem zqh_16ok  : Ok Pr (zqh_14_M Q E) (sB zqh_p8) (zqh_q4 Q E) E := fun τ H h =>
  (conv (by kernel_rfl) (zqh_15ok Q E τ H h))

noncomputable def zqh_q8  : XT := (xthen (zqh_14_M Q E) (zqh_q4 Q E))

def zqh_17 (Q : QT) (E : ET) (x0 : Int) (x1 : OA) (l1 c1 : Nat) (x2 : OA) (l2 c2 : Nat) (x7 : OA) (l7 c7 : Nat) (H : Heap) : Prop :=
 zqh_14 Q E x0 x1 l1 c1 x2 l2 c2 x7 l7 c7 0 H

def zqh_17_M  (τ : Tau) (H : Heap) : Prop := mI .i64 (τ 0) fun x0 => mSl (τ 1) fun x1 l1 c1 => mSl (τ 2) fun x2 l2 c2 => mSl (τ 7) fun x7 l7 c7 => zqh_17 Q E x0 x1 l1 c1 x2 l2 c2 x7 l7 c7 H

theorem zqh_18ok  : Ok Pr (zqh_17_M Q E) (sA zqh_p8) (zqh_q8 Q E) E := fun τ H h =>
  wI 0 h (fun x0 h => wSl 1 h (fun x1 l1 c1 h => wSl 2 h (fun x2 l2 c2 h => wSl 7 h (fun x7 l7 c7 h => (conv (by kernel_rfl) h)))))

theorem zqh_19ok  : Ok Pr (zqh_17_M Q E) zqh_p8 (zqh_q4 Q E) E := fun τ H h =>
  (conv (by kernel_rfl) (vc_seq (K := (zqh_14_M Q E)) (zqh_18ok Q E τ H h) (zqh_16ok Q E)))

theorem zqh_20ok  : Ok Pr (zqh_17_M Q E) (sB (sB zqh_p0)) (zqh_q1 Q E) E := fun τ H h =>
  (conv (by kernel_rfl) (vc_seq (K := (zqh_6_M Q E)) (zqh_19ok Q E τ H h) (zqh_8ok Q E)))

noncomputable def zqh_q9  : XT := (xthen (zqh_17_M Q E) (zqh_q1 Q E))

def zqh_21 (Q : QT) (E : ET) (x0 : Int) (x1 : OA) (l1 c1 : Nat) (x2 : OA) (l2 c2 : Nat) (H : Heap) : Prop :=
 nw (.cells #[] 48 (0, 0)) H fun i105 H106 =>
 app Pr 23 (some ⟨i105, 0, none⟩) 0 0 (.slice x1 l1 c1) H106 fun p107 l108 c109 H110 =>
 zqh_17 Q E x0 x1 l1 c1 x2 l2 c2 p107 l108 c109 H110

def zqh_21_M  (τ : Tau) (H : Heap) : Prop := mI .i64 (τ 0) fun x0 => mSl (τ 1) fun x1 l1 c1 => mSl (τ 2) fun x2 l2 c2 => zqh_21 Q E x0 x1 l1 c1 x2 l2 c2 H

theorem zqh_22ok  : Ok Pr (zqh_21_M Q E) (sA (sB zqh_p0)) (zqh_q9 Q E) E := fun τ H h =>
  wI 0 h (fun x0 h => wSl 1 h (fun x1 l1 c1 h => wSl 2 h (fun x2 l2 c2 h => (conv (by kernel_rfl) h))))

theorem zqh_23ok  : Ok Pr (zqh_21_M Q E) (sB zqh_p0) (zqh_q1 Q E) E := fun τ H h =>
  (conv (by kernel_rfl) (vc_seq (K := (zqh_17_M Q E)) (zqh_22ok Q E τ H h) (zqh_20ok Q E)))

def zqh (Q : QT) (E : ET) (a0 : Int) (a1 : OA) (a1l : Nat) (a1c : Nat) (a2 : OA) (a2l : Nat) (a2c : Nat) (H : Heap) : Prop :=
 zqh_21 Q E a0 a1 a1l a1c a2 a2l a2c H

theorem zqh_fn (a0 : Int) (a1 : OA) (a1l : Nat) (a1c : Nat) (a2 : OA) (a2l : Nat) (a2c : Nat) (Q : QT) (E : ET) (H : Heap) (h : zqh Q E a0 a1 a1l a1c a2 a2l a2c H)   : Does Pr 91 #[(.int .i64 a0), (.slice a1 a1l a1c), (.slice a2 a2l a2c)] H Q E :=
  Fn_of_vc (fn := Try.f91) (c := zqh_p0) (args := [(.int .i64 a0), (.slice a1 a1l a1c), (.slice a2 a2l a2c)]) mixed (by kernel_rfl) (by kernel_rfl) (by kernel_rfl) (by kernel_rfl) (by kernel_rfl) ((conv (B := vc Pr zqh_p0 (argT [(.int .i64 a0), (.slice a1 a1l a1c), (.slice a2 a2l a2c)]) (zqh_q1 Q E) E H) (by kernel_rfl) (vc_seq (K := (zqh_21_M Q E)) (conv (B := vc Pr (sA zqh_p0) (argT [(.int .i64 a0), (.slice a1 a1l a1c), (.slice a2 a2l a2c)]) (xthen (zqh_21_M Q E) (zqh_q1 Q E)) E H) (by kernel_rfl) h) (zqh_23ok Q E))))

/-! (*jobmux/jobmuxref08.parser).part -/
noncomputable def zqi_q1 (Q : QT) (E : ET)  : XT := (retQ Pr (Try.f100).results.toList Q)

noncomputable def zqi_p1 : Code := sB (bodyOf Try.f100)

def zqi_1 (Q : QT) (E : ET) (x3 : OA) (l3 c3 : Nat) (H : Heap) : Prop :=
 Q (.slice x3 l3 c3) H

def zqi_1_M  (τ : Tau) (H : Heap) : Prop := mSl (τ 3) fun x3 l3 c3 => zqi_1 Q E x3 l3 c3 H

theorem zqi_2ok  : Ok Pr (zqi_1_M Q E) (sB (sB zqi_p1)) (zqi_q1 Q E) E := fun τ H h =>
  wSl 3 h (fun x3 l3 c3 h => (conv (by kernel_rfl) h))

noncomputable def zqi_q2  : XT := (xthen (zqi_1_M Q E) (zqi_q1 Q E))

noncomputable def zqi_q4 (nx32 : OA → Nat → Nat → HP) : XT := (xthen (fun τ H => mSl (τ 3) fun x3' l3' c3' => nx32 x3' l3' c3' H) (xblock 0 (zqi_q2 Q E)))

noncomputable def zqi_p6 : Code := sI (sI (sA (sB zqi_p1)))

def zqi_3 (nx32 : OA → Nat → Nat → HP) (Q : QT) (E : ET) (x0 x3 : OA) (l3 c3 : Nat) (H : Heap) : Prop :=
 ptr x0 fun q55 =>
 ldI .i64 (Addr.add q55 1) H fun n56 =>
 ptr x0 fun q57 =>
 wr (Addr.add q57 1) [(.int .i64 (IntKind.wrap .i64 (n56 + 1)))] H fun H58 =>
 nx32 x3 l3 c3 H58

def zqi_3_M (nx32 : OA → Nat → Nat → HP) (τ : Tau) (H : Heap) : Prop := mP (τ 0) fun x0 => mSl (τ 3) fun x3 l3 c3 => zqi_3 nx32 Q E x0 x3 l3 c3 H

theorem zqi_4ok (nx32 : OA → Nat → Nat → HP) : Ok Pr (zqi_3_M Q E nx32) (sB (sI (sB zqi_p6))) (xblock 1 (zqi_q4 Q E nx32)) E := fun τ H h =>
  wP 0 h (fun x0 h => wSl 3 h (fun x3 l3 c3 h => (conv (by kernel_rfl) h)))

def zqi_5 (nx32 : OA → Nat → Nat → HP) (Q : QT) (E : ET) (x0 x3 : OA) (l3 c3 : Nat) (H : Heap) : Prop :=
 ptr x0 fun q59 =>
 ldS q59 H fun s60 =>
 ptr x0 fun q61 =>
 ldI .i64 (Addr.add q61 1) H fun n62 =>
 (0 ≤ n62 ∧ n62 < ((ByteArray.size s60 : Nat) : Int)) ∧ sel (((sAt s60 n62) : Int) == 42)
 (Does Pr 91 #[(.int .i64 5), (.slice x3 l3 c3), (.slice none 0 0)] H (fun v63 H64 =>
 ∃ (p65 : OA) (l66 c67 : Nat), v63 = (.slice p65 l66 c67) ∧ zqi_3 nx32 Q E x0 p65 l66 c67 H64) E)
 (sel (((sAt s60 n62) : Int) == 43)
 (Does Pr 91 #[(.int .i64 6), (.slice x3 l3 c3), (.slice none 0 0)] H (fun v68 H69 =>
 ∃ (p70 : OA) (l71 c72 : Nat), v68 = (.slice p70 l71 c72) ∧ zqi_3 nx32 Q E x0 p70 l71 c72 H69) E)
 (sel (((sAt s60 n62) : Int) == 63)
 (Does Pr 91 #[(.int .i64 7), (.slice x3 l3 c3), (.slice none 0 0)] H (fun v73 H74 =>
 ∃ (p75 : OA) (l76 c77 : Nat), v73 = (.slice p75 l76 c77) ∧ zqi_3 nx32 Q E x0 p75 l76 c77 H74) E)
 (Q (.slice x3 l3 c3) H)))

def zqi_5_M (nx32 : OA → Nat → Nat → HP) (τ : Tau) (H : Heap) : Prop := mP (τ 0) fun x0 => mSl (τ 3) fun x3 l3 c3 => zqi_5 nx32 Q E x0 x3 l3 c3 H

theorem zqi_6ok (nx32 : OA → Nat → Nat → HP) : Ok Pr (zqi_5_M Q E nx32) (sA (sI (sB zqi_p6))) (xthen (zqi_3_M Q E nx32) (xblock 1 (zqi_q4 Q E nx32))) E := fun τ H h =>
  wP 0 h (fun x0 h => wSl 3 h (fun x3 l3 c3 h => (conv (by kernel_rfl) h)))

theorem zqi_7ok (nx32 : OA → Nat → Nat → HP) : Ok Pr (zqi_5_M Q E nx32) (sI (sB zqi_p6)) (xblock 1 (zqi_q4 Q E nx32)) E := fun τ H h =>
  (conv (by kernel_rfl) (vc_seq (K := (zqi_3_M Q E nx32)) (zqi_6ok Q E nx32 τ H h) (zqi_4ok Q E nx32)))

theorem zqi_8ok (nx32 : OA → Nat → Nat → HP) : Ok Pr (zqi_5_M Q E nx32) (sB zqi_p6) (zqi_q4 Q E nx32) E := fun τ H h =>
  (conv (by kernel_rfl) (zqi_7ok Q E nx32 τ H h))

def zqi_9 (nx32 : OA → Nat → Nat → HP) (Q : QT) (E : ET) (x0 x3 : OA) (l3 c3 : Nat) (H : Heap) : Prop :=
 Does Pr 90 #[(.pointer x0)] H (fun v78 H79 =>
 ∃ b80 : Bool, v78 = (.bool b80) ∧ sel b80
 (zqi_5 nx32 Q E x0 x3 l3 c3 H79)
 (zqi_1 Q E x3 l3 c3 H79)) E

def zqi_9_M (nx32 : OA → Nat → Nat → HP) (τ : Tau) (H : Heap) : Prop := mP (τ 0) fun x0 => mSl (τ 3) fun x3 l3 c3 => zqi_9 nx32 Q E x0 x3 l3 c3 H

theorem zqi_10ok (nx32 : OA → Nat → Nat → HP) : Ok Pr (zqi_9_M Q E nx32) (sA zqi_p6) (xthen (zqi_5_M Q E nx32) (zqi_q4 Q E nx32)) E := fun τ H h =>
  wP 0 h (fun x0 h => wSl 3 h (fun x3 l3 c3 h => (conv (by kernel_rfl) h)))

theorem zqi_11ok (nx32 : OA → Nat → Nat → HP) : Ok Pr (zqi_9_M Q E nx32) zqi_p6 (zqi_q4 Q E nx32) E := fun τ H h =>
  (conv (by kernel_rfl) (vc_seq (K := (zqi_5_M Q E nx32)) (zqi_10ok Q E nx32 τ H h) (zqi_8ok Q E nx32)))

def zqi_12 (Q : QT) (E : ET) (x0 x3 : OA) (l3 c3 : Nat) (H : Heap) : Prop :=
 ∃ (I : OA → Nat → Nat → HP) (μ : OA → Nat → Nat → Heap → Nat), I x3 l3 c3 H ∧ ∀ (x3 : OA) (l3 c3 : Nat) (H : Heap), I x3 l3 c3 H →
 zqi_9 (fun x3' l3' c3' H1 => I x3' l3' c3' H1 ∧ μ x3' l3' c3' H1 < μ x3 l3 c3 H) Q E x0 x3 l3 c3 H

def zqi_12_M  (τ : Tau) (H : Heap) : Prop := mP (τ 0) fun x0 => mSl (τ 3) fun x3 l3 c3 => zqi_12 Q E x0 x3 l3 c3 H

theorem zqi_13ok  : Ok Pr (zqi_12_M Q E) (sI (sA (sB zqi_p1))) (xblock 0 (zqi_q2 Q E)) E := fun τ H h =>
  wP 0 h (fun x0 h => wSl 3 h (fun x3 l3 c3 h => match h with | ⟨I, μ, h0, hr⟩ => (conv (by kernel_rfl) (vc_loopG (c := sI (sI (sA (sB zqi_p1)))) (τ := (Tau.upd (Tau.upd τ 0 (.pointer x0)) 3 (.slice x3 l3 c3))) [0] (fun τ H => mSl (τ 3) fun x3' l3' c3' => I x3' l3' c3' H) (fun τ H => μ (gL1 (τ 3)) (gL2 (τ 3)) (gL3 (τ 3)) H) (by kernel_rfl) h0 (fun τ1 H1 hf hI => uF 0 (.pointer x0) (hf 0 (by simp)) (uSl 3 hI (fun x3r l3r c3r h => lgx (zqi_11ok Q E (fun x3' l3' c3' H2 => I x3' l3' c3' H2 ∧ μ x3' l3' c3' H2 < μ x3r l3r c3r H1) (Tau.upd (Tau.upd τ1 0 (.pointer x0)) 3 (.slice x3r l3r c3r)) H1 (conv (by kernel_rfl) (hr x3r l3r c3r H1 h))) (fun τ2 H2 hk => kSl 3 hk (fun x3' l3' c3' h => conv (by kernel_rfl) h)))))))))

theorem zqi_14ok  : Ok Pr (zqi_12_M Q E) (sA (sB zqi_p1)) (zqi_q2 Q E) E := fun τ H h =>
  (conv (by kernel_rfl) (zqi_13ok Q E τ H h))

theorem zqi_15ok  : Ok Pr (zqi_12_M Q E) (sB zqi_p1) (zqi_q1 Q E) E := fun τ H h =>
  (conv (by kernel_rfl) (vc_seq (K := (zqi_1_M Q E)) (zqi_14ok Q E τ H h) (zqi_2ok Q E)))

def zqi_16 (Q : QT) (E : ET) (x0 : OA) (H : Heap) : Prop :=
 Does Pr 105 #[(.pointer x0)] H (fun v81 H82 =>
 ∃ (p83 : OA) (l84 c85 : Nat), v81 = (.slice p83 l84 c85) ∧ zqi_12 Q E x0 p83 l84 c85 H82) E

def zqi_16_M  (τ : Tau) (H : Heap) : Prop := mP (τ 0) fun x0 => zqi_16 Q E x0 H

theorem zqi_17ok  : Ok Pr (zqi_16_M Q E) (sA zqi_p1) (xthen (zqi_12_M Q E) (zqi_q1 Q E)) E := fun τ H h =>
  wP 0 h (fun x0 h => (conv (by kernel_rfl) h))

theorem zqi_18ok  : Ok Pr (zqi_16_M Q E) zqi_p1 (zqi_q1 Q E) E := fun τ H h =>
  (conv (by kernel_rfl) (vc_seq (K := (zqi_12_M Q E)) (zqi_17ok Q E τ H h) (zqi_15ok Q E)))

def zqi (Q : QT) (E : ET) (a0 : OA) (H : Heap) : Prop :=
 zqi_16 Q E a0 H

theorem zqi_fn (a0 : OA) (Q : QT) (E : ET) (H : Heap) (h : zqi Q E a0 H)   : Does Pr 100 #[(.pointer a0)] H Q E :=
  Fn_of_vc (fn := Try.f100) (c := (bodyOf Try.f100)) (args := [(.pointer a0)]) mixed (by kernel_rfl) (by kernel_rfl) (by kernel_rfl) (by kernel_rfl) (by kernel_rfl) ((conv (B := vc Pr (bodyOf Try.f100) (argT [(.pointer a0)]) (zqi_q1 Q E) E H) (by kernel_rfl) (vc_seq (K := (zqi_16_M Q E)) (conv (B := vc Pr (sA (bodyOf Try.f100)) (argT [(.pointer a0)]) (xthen (zqi_16_M Q E) (zqi_q1 Q E)) E H) (by kernel_rfl) h) (zqi_18ok Q E))))

/-! jobmux/jobmuxref08.leaf -/
noncomputable def zqj_q1 (Q : QT) (E : ET)  : XT := (retQ Pr (Try.f101).results.toList Q)

def zqj (Q : QT) (E : ET) (a0 : Int) (a1_0 : Int) (a1_1 : Int) (a1_2 : Int) (a1_3 : Int) (H : Heap) : Prop :=
 nw (.cells #[(.int .u64 a1_0), (.int .u64 a1_1), (.int .u64 a1_2), (.int .u64 a1_3)] 46 (0, 0)) H fun i1 H2 =>
 ∃ n3 n4 n5 n6 : Int, Heap.rd H2 ⟨i1, 0, none⟩ 0 [(.int .u64 n3), (.int .u64 n4), (.int .u64 n5), (.int .u64 n6)] ∧ nw (.cells #[(.int .i64 a0), (.int .i64 0), (.int .i64 0), (.int .u64 n3), (.int .u64 n4), (.int .u64 n5), (.int .u64 n6)] 48 (0, 0)) H2 fun i7 H8 =>
 Q (.slice (some ⟨i7, 0, none⟩) 1 1) H8

theorem zqj_fn (a0 : Int) (a1_0 : Int) (a1_1 : Int) (a1_2 : Int) (a1_3 : Int) (Q : QT) (E : ET) (H : Heap) (h : zqj Q E a0 a1_0 a1_1 a1_2 a1_3 H)   : Does Pr 101 #[(.int .i64 a0), (.agg #[(.int .u64 a1_0), (.int .u64 a1_1), (.int .u64 a1_2), (.int .u64 a1_3)])] H Q E :=
  Fn_of_vc (fn := Try.f101) (c := (bodyOf Try.f101)) (args := [(.int .i64 a0), (.agg #[(.int .u64 a1_0), (.int .u64 a1_1), (.int .u64 a1_2), (.int .u64 a1_3)])]) mixed (by kernel_rfl) (by kernel_rfl) (by kernel_rfl) (by kernel_rfl) (by kernel_rfl) ((conv (B := vc Pr (bodyOf Try.f101) (argT [(.int .i64 a0), (.agg #[(.int .u64 a1_0), (.int .u64 a1_1), (.int .u64 a1_2), (.int .u64 a1_3)])]) (zqj_q1 Q E) E H) (by kernel_rfl) h))

/-! jobmux/jobmuxref08.shifted -/
noncomputable def zqk_q1 (Q : QT) (E : ET)  : XT := (retQ Pr (Try.f102).results.toList Q)

def zqk_1 (Q : QT) (E : ET)  (H : Heap) : Prop :=
 Q (.int .i64 0) H

def zqk_1_M  (τ : Tau) (H : Heap) : Prop := zqk_1 Q E  H

theorem zqk_2ok  : Ok Pr (zqk_1_M Q E) (sB (sB (bodyOf Try.f102))) (zqk_q1 Q E) E := fun τ H h =>
  (conv (by kernel_rfl) h)

noncomputable def zqk_q2  : XT := (xthen (zqk_1_M Q E) (zqk_q1 Q E))

def zqk_3 (Q : QT) (E : ET) (x0 x1 x2 x3 : Int) (H : Heap) : Prop :=
 Does Pr 42 #[(.int .i64 x0)] H (fun v4 H5 =>
 ∃ n6 : Int, v4 = (.int .i64 n6) ∧ sel (decide (x1 < n6))
 (Q (.int .i64 (IntKind.wrap .i64 (x2 + x3))) H5)
 (zqk_1 Q E  H5)) E

def zqk_3_M  (τ : Tau) (H : Heap) : Prop := mI .i64 (τ 0) fun x0 => mI .i64 (τ 1) fun x1 => mI .i64 (τ 2) fun x2 => mI .i64 (τ 3) fun x3 => zqk_3 Q E x0 x1 x2 x3 H

theorem zqk_4ok  : Ok Pr (zqk_3_M Q E) (sA (sB (bodyOf Try.f102))) (zqk_q2 Q E) E := fun τ H h =>
  wI 0 h (fun x0 h => wI 1 h (fun x1 h => wI 2 h (fun x2 h => wI 3 h (fun x3 h => (conv (by kernel_rfl) h)))))

theorem zqk_5ok  : Ok Pr (zqk_3_M Q E) (sB (bodyOf Try.f102)) (zqk_q1 Q E) E := fun τ H h =>
  (conv (by kernel_rfl) (vc_seq (K := (zqk_1_M Q E)) (zqk_4ok Q E τ H h) (zqk_2ok Q E)))

def zqk (Q : QT) (E : ET) (a0 : Int) (a1 : Int) (a2 : Int) (a3 : Int) (H : Heap) : Prop :=
 zqk_3 Q E a0 a1 a2 a3 H

theorem zqk_fn (a0 : Int) (a1 : Int) (a2 : Int) (a3 : Int) (Q : QT) (E : ET) (H : Heap) (h : zqk Q E a0 a1 a2 a3 H)   : Does Pr 102 #[(.int .i64 a0), (.int .i64 a1), (.int .i64 a2), (.int .i64 a3)] H Q E :=
  Fn_of_vc (fn := Try.f102) (c := (bodyOf Try.f102)) (args := [(.int .i64 a0), (.int .i64 a1), (.int .i64 a2), (.int .i64 a3)]) mixed (by kernel_rfl) (by kernel_rfl) (by kernel_rfl) (by kernel_rfl) (by kernel_rfl) ((conv (B := vc Pr (bodyOf Try.f102) (argT [(.int .i64 a0), (.int .i64 a1), (.int .i64 a2), (.int .i64 a3)]) (zqk_q1 Q E) E H) (by kernel_rfl) (vc_seq (K := (zqk_3_M Q E)) (conv (B := vc Pr (sA (bodyOf Try.f102)) (argT [(.int .i64 a0), (.int .i64 a1), (.int .i64 a2), (.int .i64 a3)]) (xthen (zqk_3_M Q E) (zqk_q1 Q E)) E H) (by kernel_rfl) h) (zqk_5ok Q E))))

/-! (*jobmux/jobmuxref08.parser).atom -/
noncomputable def zql_q1 (Q : QT) (E : ET)  : XT := (retQ Pr (Try.f105).results.toList Q)

noncomputable def zql_p3 : Code := sB (sB (sB (bodyOf Try.f105)))

def zql_1 (Q : QT) (E : ET) (x3 : Int) (H : Heap) : Prop :=
 Does Pr 108 #[(.agg #[(.int .u64 0), (.int .u64 0), (.int .u64 0), (.int .u64 0)]), (.int .u8 x3)] H (fun v99 H100 =>
 ∃ n101 n102 n103 n104 : Int, v99 = (.agg #[(.int .u64 n101), (.int .u64 n102), (.int .u64 n103), (.int .u64 n104)]) ∧ Does Pr 101 #[(.int .i64 2), (.agg #[(.int .u64 n101), (.int .u64 n102), (.int .u64 n103), (.int .u64 n104)])] H100 (fun v105 H106 =>
 ∃ (p107 : OA) (l108 c109 : Nat), v105 = (.slice p107 l108 c109) ∧ Q (.slice p107 l108 c109) H106) E) E

def zql_1_M  (τ : Tau) (H : Heap) : Prop := mI .u8 (τ 3) fun x3 => zql_1 Q E x3 H

theorem zql_2ok  : Ok Pr (zql_1_M Q E) (sB zql_p3) (zql_q1 Q E) E := fun τ H h =>
  wI 3 h (fun x3 h => (conv (by kernel_rfl) h))

noncomputable def zql_q2  : XT := (xthen (zql_1_M Q E) (zql_q1 Q E))

noncomputable def zql_q3  : XT := (xblock 0 (zql_q2 Q E))

noncomputable def zql_p8 : Code := sB (sI (sB (sA zql_p3)))

def zql_3 (Q : QT) (E : ET)  (H : Heap) : Prop :=
 Does Pr 108 #[(.agg #[(.int .u64 0), (.int .u64 0), (.int .u64 0), (.int .u64 0)]), (.int .u8 10)] H (fun v110 H111 =>
 ∃ n112 n113 n114 n115 : Int, v110 = (.agg #[(.int .u64 n112), (.int .u64 n113), (.int .u64 n114), (.int .u64 n115)]) ∧ Does Pr 107 #[(.agg #[(.int .u64 n112), (.int .u64 n113), (.int .u64 n114), (.int .u64 n115)])] H111 (fun v116 H117 =>
 ∃ n118 n119 n120 n121 : Int, v116 = (.agg #[(.int .u64 n118), (.int .u64 n119), (.int .u64 n120), (.int .u64 n121)]) ∧ Does Pr 101 #[(.int .i64 2), (.agg #[(.int .u64 n118), (.int .u64 n119), (.int .u64 n120), (.int .u64 n121)])] H117 (fun v122 H123 =>
 ∃ (p124 : OA) (l125 c126 : Nat), v122 = (.slice p124 l125 c126) ∧ Q (.slice p124 l125 c126) H123) E) E) E

def zql_3_M  (τ : Tau) (H : Heap) : Prop := zql_3 Q E  H

theorem zql_4ok  : Ok Pr (zql_3_M Q E) (sT zql_p8) (zql_q3 Q E) E := fun τ H h =>
  (conv (by kernel_rfl) h)

def zql_5 (Q : QT) (E : ET)  (H : Heap) : Prop :=
 Does Pr 101 #[(.int .i64 8), (.agg #[(.int .u64 0), (.int .u64 0), (.int .u64 0), (.int .u64 0)])] H (fun v127 H128 =>
 ∃ (p129 : OA) (l130 c131 : Nat), v127 = (.slice p129 l130 c131) ∧ Q (.slice p129 l130 c131) H128) E

def zql_5_M  (τ : Tau) (H : Heap) : Prop := zql_5 Q E  H

theorem zql_6ok  : Ok Pr (zql_5_M Q E) (sT (sB (sE zql_p8))) (zql_q3 Q E) E := fun τ H h =>
  (conv (by kernel_rfl) h)

noncomputable def zql_p13 : Code := sE (sB (sE zql_p8))

def zql_7 (Q : QT) (E : ET)  (H : Heap) : Prop :=
 Does Pr 101 #[(.int .i64 9), (.agg #[(.int .u64 0), (.int .u64 0), (.int .u64 0), (.int .u64 0)])] H (fun v132 H133 =>
 ∃ (p134 : OA) (l135 c136 : Nat), v132 = (.slice p134 l135 c136) ∧ Q (.slice p134 l135 c136) H133) E

def zql_7_M  (τ : Tau) (H : Heap) : Prop := zql_7 Q E  H

theorem zql_8ok  : Ok Pr (zql_7_M Q E) (sT (sB zql_p13)) (zql_q3 Q E) E := fun τ H h =>
  (conv (by kernel_rfl) h)

noncomputable def zql_p17 : Code := sB (sE (sB zql_p13))

def zql_9 (Q : QT) (E : ET) (x0 : OA) (H : Heap) : Prop :=
 Does Pr 109 #[(.pointer x0)] H (fun v137 H138 =>
 ∃ n139 n140 n141 n142 : Int, ∃ b143 : Bool, v137 = (.tuple #[(.agg #[(.int .u64 n139), (.int .u64 n140), (.int .u64 n141), (.int .u64 n142)]), (.bool b143)]) ∧ nw (.cells #[(.int .u64 0), (.int .u64 0), (.int .u64 0), (.int .u64 0)] 46 (0, 0)) H138 fun i144 H145 =>
 wr ⟨i144, 0, none⟩ [(.int .u64 n139), (.int .u64 n140), (.int .u64 n141), (.int .u64 n142)] H145 fun H146 =>
 ∃ n147 n148 n149 n150 : Int, Heap.rd H146 ⟨i144, 0, none⟩ 0 [(.int .u64 n147), (.int .u64 n148), (.int .u64 n149), (.int .u64 n150)] ∧ Does Pr 101 #[(.int .i64 2), (.agg #[(.int .u64 n147), (.int .u64 n148), (.int .u64 n149), (.int .u64 n150)])] H146 (fun v151 H152 =>
 ∃ (p153 : OA) (l154 c155 : Nat), v151 = (.slice p153 l154 c155) ∧ Q (.slice p153 l154 c155) H152) E) E

def zql_9_M  (τ : Tau) (H : Heap) : Prop := mP (τ 0) fun x0 => zql_9 Q E x0 H

theorem zql_10ok  : Ok Pr (zql_9_M Q E) (sT zql_p17) (zql_q3 Q E) E := fun τ H h =>
  wP 0 h (fun x0 h => (conv (by kernel_rfl) h))

noncomputable def zql_p20 : Code := sB (sE zql_p17)

def zql_11 (Q : QT) (E : ET) (x0 : OA) (H : Heap) : Prop :=
 Does Pr 110 #[(.pointer x0)] H (fun v156 H157 =>
 ∃ n158 n159 n160 n161 : Int, v156 = (.agg #[(.int .u64 n158), (.int .u64 n159), (.int .u64 n160), (.int .u64 n161)]) ∧ Does Pr 101 #[(.int .i64 2), (.agg #[(.int .u64 n158), (.int .u64 n159), (.int .u64 n160), (.int .u64 n161)])] H157 (fun v162 H163 =>
 ∃ (p164 : OA) (l165 c166 : Nat), v162 = (.slice p164 l165 c166) ∧ Q (.slice p164 l165 c166) H163) E) E

def zql_11_M  (τ : Tau) (H : Heap) : Prop := mP (τ 0) fun x0 => zql_11 Q E x0 H

theorem zql_12ok  : Ok Pr (zql_11_M Q E) (sT zql_p20) (zql_q3 Q E) E := fun τ H h =>
  wP 0 h (fun x0 h => (conv (by kernel_rfl) h))

noncomputable def zql_p23 : Code := sB (sE zql_p20)

def zql_13 (Q : QT) (E : ET) (x0 : OA) (x3 : Int) (H : Heap) : Prop :=
 Does Pr 57 #[(.pointer x0), (.int .i64 80)] H (fun v167 H168 =>
 zql_1 Q E x3 H168) E

def zql_13_M  (τ : Tau) (H : Heap) : Prop := mP (τ 0) fun x0 => mI .u8 (τ 3) fun x3 => zql_13 Q E x0 x3 H

theorem zql_14ok  : Ok Pr (zql_13_M Q E) (sT zql_p23) (zql_q3 Q E) E := fun τ H h =>
  wP 0 h (fun x0 h => wI 3 h (fun x3 h => (conv (by kernel_rfl) h)))

noncomputable def zql_p26 : Code := sB (sE zql_p23)

def zql_15 (Q : QT) (E : ET) (x0 : OA) (x3 : Int) (H : Heap) : Prop :=
 Does Pr 57 #[(.pointer x0), (.int .i64 81)] H (fun v169 H170 =>
 zql_1 Q E x3 H170) E

def zql_15_M  (τ : Tau) (H : Heap) : Prop := mP (τ 0) fun x0 => mI .u8 (τ 3) fun x3 => zql_15 Q E x0 x3 H

theorem zql_16ok  : Ok Pr (zql_15_M Q E) (sT zql_p26) (zql_q3 Q E) E := fun τ H h =>
  wP 0 h (fun x0 h => wI 3 h (fun x3 h => (conv (by kernel_rfl) h)))

noncomputable def zql_p29 : Code := sB (sE zql_p26)

noncomputable def zql_p32 : Code := sB (sB (sT zql_p29))

def zql_17 (Q : QT) (E : ET) (x0 x6 : OA) (l6 c6 : Nat) (H : Heap) : Prop :=
 ptr x0 fun q192 =>
 ldI .i64 (Addr.add q192 1) H fun n193 =>
 ptr x0 fun q194 =>
 wr (Addr.add q194 1) [(.int .i64 (IntKind.wrap .i64 (n193 + 1)))] H fun H195 =>
 ptr x0 fun q196 =>
 ldI .i64 (Addr.add q196 2) H195 fun n197 =>
 ptr x0 fun q198 =>
 wr (Addr.add q198 2) [(.int .i64 (IntKind.wrap .i64 (n197 - 1)))] H195 fun H199 =>
 Q (.slice x6 l6 c6) H199

def zql_17_M  (τ : Tau) (H : Heap) : Prop := mP (τ 0) fun x0 => mSl (τ 6) fun x6 l6 c6 => zql_17 Q E x0 x6 l6 c6 H

theorem zql_18ok  : Ok Pr (zql_17_M Q E) (sB zql_p32) (zql_q3 Q E) E := fun τ H h =>
  wP 0 h (fun x0 h => wSl 6 h (fun x6 l6 c6 h => (conv (by kernel_rfl) h)))

noncomputable def zql_q4  : XT := (xthen (zql_17_M Q E) (zql_q3 Q E))

def zql_19 (Q : QT) (E : ET) (x0 x6 : OA) (l6 c6 : Nat) (x96 : Bool) (H : Heap) : Prop :=
 sel x96
 (Does Pr 57 #[(.pointer x0), (.int .i64 83)] H (fun v206 H207 =>
 zql_17 Q E x0 x6 l6 c6 H207) E)
 (zql_17 Q E x0 x6 l6 c6 H)

def zql_19_M  (τ : Tau) (H : Heap) : Prop := mP (τ 0) fun x0 => mSl (τ 6) fun x6 l6 c6 => mB (τ 96) fun x96 => zql_19 Q E x0 x6 l6 c6 x96 H

theorem zql_20ok  : Ok Pr (zql_19_M Q E) (sB (sA zql_p32)) (zql_q4 Q E) E := fun τ H h =>
  wP 0 h (fun x0 h => wSl 6 h (fun x6 l6 c6 h => wB 96 h (fun x96 h => (conv (by kernel_rfl) h))))

noncomputable def zql_q5  : XT := (xthen (zql_19_M Q E) (zql_q4 Q E))

def zql_21 (Q : QT) (E : ET) (x0 x6 : OA) (l6 c6 : Nat) (H : Heap) : Prop :=
 ptr x0 fun q208 =>
 ldI .i64 (Addr.add q208 3) H fun n209 =>
 sel (n209 == 0)
 (ptr x0 fun q210 =>
 ldI .i64 (Addr.add q210 1) H fun n211 =>
 ptr x0 fun q212 =>
 ldS q212 H fun s213 =>
 zql_19 Q E x0 x6 l6 c6 (decide (n211 ≥ ((ByteArray.size s213 : Nat) : Int))) H)
 (zql_19 Q E x0 x6 l6 c6 false H)

def zql_21_M  (τ : Tau) (H : Heap) : Prop := mP (τ 0) fun x0 => mSl (τ 6) fun x6 l6 c6 => zql_21 Q E x0 x6 l6 c6 H

theorem zql_22ok  : Ok Pr (zql_21_M Q E) (sA (sA zql_p32)) (zql_q5 Q E) E := fun τ H h =>
  wP 0 h (fun x0 h => wSl 6 h (fun x6 l6 c6 h => (conv (by kernel_rfl) h)))

theorem zql_23ok  : Ok Pr (zql_21_M Q E) (sA zql_p32) (zql_q4 Q E) E := fun τ H h =>
  (conv (by kernel_rfl) (vc_seq (K := (zql_19_M Q E)) (zql_22ok Q E τ H h) (zql_20ok Q E)))

theorem zql_24ok  : Ok Pr (zql_21_M Q E) zql_p32 (zql_q3 Q E) E := fun τ H h =>
  (conv (by kernel_rfl) (vc_seq (K := (zql_17_M Q E)) (zql_23ok Q E τ H h) (zql_18ok Q E)))

def zql_25 (Q : QT) (E : ET) (x0 : OA) (H : Heap) : Prop :=
 Does Pr 56 #[(.pointer x0)] H (fun v214 H215 =>
 ∃ (p216 : OA) (l217 c218 : Nat), v214 = (.slice p216 l217 c218) ∧ zql_21 Q E x0 p216 l217 c218 H215) E

def zql_25_M  (τ : Tau) (H : Heap) : Prop := mP (τ 0) fun x0 => zql_25 Q E x0 H

theorem zql_26ok  : Ok Pr (zql_25_M Q E) (sA (sB (sT zql_p29))) (xthen (zql_21_M Q E) (zql_q3 Q E)) E := fun τ H h =>
  wP 0 h (fun x0 h => (conv (by kernel_rfl) h))

theorem zql_27ok  : Ok Pr (zql_25_M Q E) (sB (sT zql_p29)) (zql_q3 Q E) E := fun τ H h =>
  (conv (by kernel_rfl) (vc_seq (K := (zql_21_M Q E)) (zql_26ok Q E τ H h) (zql_24ok Q E)))

def zql_28 (Q : QT) (E : ET) (x0 : OA) (H : Heap) : Prop :=
 ptr x0 fun q219 =>
 ldI .i64 (Addr.add q219 2) H fun n220 =>
 ptr x0 fun q221 =>
 wr (Addr.add q221 2) [(.int .i64 (IntKind.wrap .i64 (n220 + 1)))] H fun H222 =>
 ptr x0 fun q223 =>
 ldI .i64 (Addr.add q223 2) H222 fun n224 =>
 sel (decide (n224 > 24))
 (Does Pr 57 #[(.pointer x0), (.int .i64 84)] H222 (fun v225 H226 =>
 Q (.slice none 0 0) H226) E)
 (zql_25 Q E x0 H222)

def zql_28_M  (τ : Tau) (H : Heap) : Prop := mP (τ 0) fun x0 => zql_28 Q E x0 H

theorem zql_29ok  : Ok Pr (zql_28_M Q E) (sA (sT zql_p29)) (xthen (zql_25_M Q E) (zql_q3 Q E)) E := fun τ H h =>
  wP 0 h (fun x0 h => (conv (by kernel_rfl) h))

theorem zql_30ok  : Ok Pr (zql_28_M Q E) (sT zql_p29) (zql_q3 Q E) E := fun τ H h =>
  (conv (by kernel_rfl) (vc_seq (K := (zql_25_M Q E)) (zql_29ok Q E τ H h) (zql_27ok Q E)))

def zql_31 (Q : QT) (E : ET) (x3 : Int) (H : Heap) : Prop :=
 zql_1 Q E x3 H

def zql_31_M  (τ : Tau) (H : Heap) : Prop := mI .u8 (τ 3) fun x3 => zql_31 Q E x3 H

theorem zql_32ok  : Ok Pr (zql_31_M Q E) (sE zql_p29) (zql_q3 Q E) E := fun τ H h =>
  wI 3 h (fun x3 h => (conv (by kernel_rfl) h))

def zql_33 (Q : QT) (E : ET) (x0 : OA) (x3 : Int) (x62 : Bool) (H : Heap) : Prop :=
 sel x62
 (zql_28 Q E x0 H)
 (zql_31 Q E x3 H)

def zql_33_M  (τ : Tau) (H : Heap) : Prop := mP (τ 0) fun x0 => mI .u8 (τ 3) fun x3 => mB (τ 62) fun x62 => zql_33 Q E x0 x3 x62 H

theorem zql_34ok  : Ok Pr (zql_33_M Q E) zql_p29 (zql_q3 Q E) E := fun τ H h =>
  wP 0 h (fun x0 h => wI 3 h (fun x3 h => wB 62 h (fun x62 h => (conv (by kernel_rfl) (sel_mapT (b := x62) (τ := (Tau.upd (Tau.upd (Tau.upd τ 0 (.pointer x0)) 3 (.int .u8 x3)) 62 (.bool x62))) (H := H) (zql_30ok Q E) (zql_32ok Q E) (conv (by kernel_rfl) h))))))

noncomputable def zql_q8  : XT := (xthen (zql_33_M Q E) (zql_q3 Q E))

def zql_35 (Q : QT) (E : ET) (x0 : OA) (x3 x23 : Int) (H : Heap) : Prop :=
 zql_33 Q E x0 x3 (x23 == 40) H

def zql_35_M  (τ : Tau) (H : Heap) : Prop := mP (τ 0) fun x0 => mI .u8 (τ 3) fun x3 => mI .u8 (τ 23) fun x23 => zql_35 Q E x0 x3 x23 H

theorem zql_36ok  : Ok Pr (zql_35_M Q E) (sA (sE zql_p26)) (zql_q8 Q E) E := fun τ H h =>
  wP 0 h (fun x0 h => wI 3 h (fun x3 h => wI 23 h (fun x23 h => (conv (by kernel_rfl) h))))

theorem zql_37ok  : Ok Pr (zql_35_M Q E) (sE zql_p26) (zql_q3 Q E) E := fun τ H h =>
  (conv (by kernel_rfl) (vc_seq (K := (zql_33_M Q E)) (zql_36ok Q E τ H h) (zql_34ok Q E)))

def zql_38 (Q : QT) (E : ET) (x0 : OA) (x3 x23 : Int) (x56 : Bool) (H : Heap) : Prop :=
 sel x56
 (zql_15 Q E x0 x3 H)
 (zql_35 Q E x0 x3 x23 H)

def zql_38_M  (τ : Tau) (H : Heap) : Prop := mP (τ 0) fun x0 => mI .u8 (τ 3) fun x3 => mI .u8 (τ 23) fun x23 => mB (τ 56) fun x56 => zql_38 Q E x0 x3 x23 x56 H

theorem zql_39ok  : Ok Pr (zql_38_M Q E) zql_p26 (zql_q3 Q E) E := fun τ H h =>
  wP 0 h (fun x0 h => wI 3 h (fun x3 h => wI 23 h (fun x23 h => wB 56 h (fun x56 h => (conv (by kernel_rfl) (sel_mapT (b := x56) (τ := (Tau.upd (Tau.upd (Tau.upd (Tau.upd τ 0 (.pointer x0)) 3 (.int .u8 x3)) 23 (.int .u8 x23)) 56 (.bool x56))) (H := H) (zql_16ok Q E) (zql_37ok Q E) (conv (by kernel_rfl) h)))))))

noncomputable def zql_q9  : XT := (xthen (zql_38_M Q E) (zql_q3 Q E))

def zql_40 (Q : QT) (E : ET) (x0 : OA) (x3 x23 : Int) (H : Heap) : Prop :=
 sel (x23 == 42)
 (zql_38 Q E x0 x3 x23 (x23 == 42) H)
 (sel (x23 == 43)
 (zql_38 Q E x0 x3 x23 (x23 == 43) H)
 (zql_38 Q E x0 x3 x23 (x23 == 63) H))

def zql_40_M  (τ : Tau) (H : Heap) : Prop := mP (τ 0) fun x0 => mI .u8 (τ 3) fun x3 => mI .u8 (τ 23) fun x23 => zql_40 Q E x0 x3 x23 H

theorem zql_41ok  : Ok Pr (zql_40_M Q E) (sA (sE zql_p23)) (zql_q9 Q E) E := fun τ H h =>
  wP 0 h (fun x0 h => wI 3 h (fun x3 h => wI 23 h (fun x23 h => (conv (by kernel_rfl) h))))

theorem zql_42ok  : Ok Pr (zql_40_M Q E) (sE zql_p23) (zql_q3 Q E) E := fun τ H h =>
  (conv (by kernel_rfl) (vc_seq (K := (zql_38_M Q E)) (zql_41ok Q E τ H h) (zql_39ok Q E)))

def zql_43 (Q : QT) (E : ET) (x0 : OA) (x3 x23 : Int) (x52 : Bool) (H : Heap) : Prop :=
 sel x52
 (zql_13 Q E x0 x3 H)
 (zql_40 Q E x0 x3 x23 H)

def zql_43_M  (τ : Tau) (H : Heap) : Prop := mP (τ 0) fun x0 => mI .u8 (τ 3) fun x3 => mI .u8 (τ 23) fun x23 => mB (τ 52) fun x52 => zql_43 Q E x0 x3 x23 x52 H

theorem zql_44ok  : Ok Pr (zql_43_M Q E) zql_p23 (zql_q3 Q E) E := fun τ H h =>
  wP 0 h (fun x0 h => wI 3 h (fun x3 h => wI 23 h (fun x23 h => wB 52 h (fun x52 h => (conv (by kernel_rfl) (sel_mapT (b := x52) (τ := (Tau.upd (Tau.upd (Tau.upd (Tau.upd τ 0 (.pointer x0)) 3 (.int .u8 x3)) 23 (.int .u8 x23)) 52 (.bool x52))) (H := H) (zql_14ok Q E) (zql_42ok Q E) (conv (by kernel_rfl) h)))))))

noncomputable def zql_q10  : XT := (xthen (zql_43_M Q E) (zql_q3 Q E))

def zql_45 (Q : QT) (E : ET) (x0 : OA) (x3 x23 : Int) (H : Heap) : Prop :=
 zql_43 Q E x0 x3 x23 (x23 == 93) H

def zql_45_M  (τ : Tau) (H : Heap) : Prop := mP (τ 0) fun x0 => mI .u8 (τ 3) fun x3 => mI .u8 (τ 23) fun x23 => zql_45 Q E x0 x3 x23 H

theorem zql_46ok  : Ok Pr (zql_45_M Q E) (sA (sE zql_p20)) (zql_q10 Q E) E := fun τ H h =>
  wP 0 h (fun x0 h => wI 3 h (fun x3 h => wI 23 h (fun x23 h => (conv (by kernel_rfl) h))))

theorem zql_47ok  : Ok Pr (zql_45_M Q E) (sE zql_p20) (zql_q3 Q E) E := fun τ H h =>
  (conv (by kernel_rfl) (vc_seq (K := (zql_43_M Q E)) (zql_46ok Q E τ H h) (zql_44ok Q E)))

def zql_48 (Q : QT) (E : ET) (x0 : OA) (x3 x23 : Int) (x47 : Bool) (H : Heap) : Prop :=
 sel x47
 (zql_11 Q E x0 H)
 (zql_45 Q E x0 x3 x23 H)

def zql_48_M  (τ : Tau) (H : Heap) : Prop := mP (τ 0) fun x0 => mI .u8 (τ 3) fun x3 => mI .u8 (τ 23) fun x23 => mB (τ 47) fun x47 => zql_48 Q E x0 x3 x23 x47 H

theorem zql_49ok  : Ok Pr (zql_48_M Q E) zql_p20 (zql_q3 Q E) E := fun τ H h =>
  wP 0 h (fun x0 h => wI 3 h (fun x3 h => wI 23 h (fun x23 h => wB 47 h (fun x47 h => (conv (by kernel_rfl) (sel_mapT (b := x47) (τ := (Tau.upd (Tau.upd (Tau.upd (Tau.upd τ 0 (.pointer x0)) 3 (.int .u8 x3)) 23 (.int .u8 x23)) 47 (.bool x47))) (H := H) (zql_12ok Q E) (zql_47ok Q E) (conv (by kernel_rfl) h)))))))

noncomputable def zql_q11  : XT := (xthen (zql_48_M Q E) (zql_q3 Q E))

def zql_50 (Q : QT) (E : ET) (x0 : OA) (x3 x23 : Int) (H : Heap) : Prop :=
 zql_48 Q E x0 x3 x23 (x23 == 91) H

def zql_50_M  (τ : Tau) (H : Heap) : Prop := mP (τ 0) fun x0 => mI .u8 (τ 3) fun x3 => mI .u8 (τ 23) fun x23 => zql_50 Q E x0 x3 x23 H

theorem zql_51ok  : Ok Pr (zql_50_M Q E) (sA (sE zql_p17)) (zql_q11 Q E) E := fun τ H h =>
  wP 0 h (fun x0 h => wI 3 h (fun x3 h => wI 23 h (fun x23 h => (conv (by kernel_rfl) h))))

theorem zql_52ok  : Ok Pr (zql_50_M Q E) (sE zql_p17) (zql_q3 Q E) E := fun τ H h =>
  (conv (by kernel_rfl) (vc_seq (K := (zql_48_M Q E)) (zql_51ok Q E τ H h) (zql_49ok Q E)))

def zql_53 (Q : QT) (E : ET) (x0 : OA) (x3 x23 : Int) (x38 : Bool) (H : Heap) : Prop :=
 sel x38
 (zql_9 Q E x0 H)
 (zql_50 Q E x0 x3 x23 H)

def zql_53_M  (τ : Tau) (H : Heap) : Prop := mP (τ 0) fun x0 => mI .u8 (τ 3) fun x3 => mI .u8 (τ 23) fun x23 => mB (τ 38) fun x38 => zql_53 Q E x0 x3 x23 x38 H

theorem zql_54ok  : Ok Pr (zql_53_M Q E) zql_p17 (zql_q3 Q E) E := fun τ H h =>
  wP 0 h (fun x0 h => wI 3 h (fun x3 h => wI 23 h (fun x23 h => wB 38 h (fun x38 h => (conv (by kernel_rfl) (sel_mapT (b := x38) (τ := (Tau.upd (Tau.upd (Tau.upd (Tau.upd τ 0 (.pointer x0)) 3 (.int .u8 x3)) 23 (.int .u8 x23)) 38 (.bool x38))) (H := H) (zql_10ok Q E) (zql_52ok Q E) (conv (by kernel_rfl) h)))))))

noncomputable def zql_q12  : XT := (xthen (zql_53_M Q E) (zql_q3 Q E))

def zql_55 (Q : QT) (E : ET) (x0 : OA) (x3 x23 : Int) (H : Heap) : Prop :=
 zql_53 Q E x0 x3 x23 (x23 == 92) H

def zql_55_M  (τ : Tau) (H : Heap) : Prop := mP (τ 0) fun x0 => mI .u8 (τ 3) fun x3 => mI .u8 (τ 23) fun x23 => zql_55 Q E x0 x3 x23 H

theorem zql_56ok  : Ok Pr (zql_55_M Q E) (sA (sE (sB zql_p13))) (zql_q12 Q E) E := fun τ H h =>
  wP 0 h (fun x0 h => wI 3 h (fun x3 h => wI 23 h (fun x23 h => (conv (by kernel_rfl) h))))

theorem zql_57ok  : Ok Pr (zql_55_M Q E) (sE (sB zql_p13)) (zql_q3 Q E) E := fun τ H h =>
  (conv (by kernel_rfl) (vc_seq (K := (zql_53_M Q E)) (zql_56ok Q E τ H h) (zql_54ok Q E)))

def zql_58 (Q : QT) (E : ET) (x0 : OA) (x3 x23 : Int) (x34 : Bool) (H : Heap) : Prop :=
 sel x34
 (zql_7 Q E  H)
 (zql_55 Q E x0 x3 x23 H)

def zql_58_M  (τ : Tau) (H : Heap) : Prop := mP (τ 0) fun x0 => mI .u8 (τ 3) fun x3 => mI .u8 (τ 23) fun x23 => mB (τ 34) fun x34 => zql_58 Q E x0 x3 x23 x34 H

theorem zql_59ok  : Ok Pr (zql_58_M Q E) (sB zql_p13) (zql_q3 Q E) E := fun τ H h =>
  wP 0 h (fun x0 h => wI 3 h (fun x3 h => wI 23 h (fun x23 h => wB 34 h (fun x34 h => (conv (by kernel_rfl) (sel_mapT (b := x34) (τ := (Tau.upd (Tau.upd (Tau.upd (Tau.upd τ 0 (.pointer x0)) 3 (.int .u8 x3)) 23 (.int .u8 x23)) 34 (.bool x34))) (H := H) (zql_8ok Q E) (zql_57ok Q E) (conv (by kernel_rfl) h)))))))

noncomputable def zql_q13  : XT := (xthen (zql_58_M Q E) (zql_q3 Q E))

def zql_60 (Q : QT) (E : ET) (x0 : OA) (x3 x23 : Int) (H : Heap) : Prop :=
 zql_58 Q E x0 x3 x23 (x23 == 36) H

def zql_60_M  (τ : Tau) (H : Heap) : Prop := mP (τ 0) fun x0 => mI .u8 (τ 3) fun x3 => mI .u8 (τ 23) fun x23 => zql_60 Q E x0 x3 x23 H

theorem zql_61ok  : Ok Pr (zql_60_M Q E) (sA zql_p13) (zql_q13 Q E) E := fun τ H h =>
  wP 0 h (fun x0 h => wI 3 h (fun x3 h => wI 23 h (fun x23 h => (conv (by kernel_rfl) h))))

theorem zql_62ok  : Ok Pr (zql_60_M Q E) zql_p13 (zql_q3 Q E) E := fun τ H h =>
  (conv (by kernel_rfl) (vc_seq (K := (zql_58_M Q E)) (zql_61ok Q E τ H h) (zql_59ok Q E)))

def zql_63 (Q : QT) (E : ET) (x0 : OA) (x3 x23 : Int) (x30 : Bool) (H : Heap) : Prop :=
 sel x30
 (zql_5 Q E  H)
 (zql_60 Q E x0 x3 x23 H)

def zql_63_M  (τ : Tau) (H : Heap) : Prop := mP (τ 0) fun x0 => mI .u8 (τ 3) fun x3 => mI .u8 (τ 23) fun x23 => mB (τ 30) fun x30 => zql_63 Q E x0 x3 x23 x30 H

theorem zql_64ok  : Ok Pr (zql_63_M Q E) (sB (sE zql_p8)) (zql_q3 Q E) E := fun τ H h =>
  wP 0 h (fun x0 h => wI 3 h (fun x3 h => wI 23 h (fun x23 h => wB 30 h (fun x30 h => (conv (by kernel_rfl) (sel_mapT (b := x30) (τ := (Tau.upd (Tau.upd (Tau.upd (Tau.upd τ 0 (.pointer x0)) 3 (.int .u8 x3)) 23 (.int .u8 x23)) 30 (.bool x30))) (H := H) (zql_6ok Q E) (zql_62ok Q E) (conv (by kernel_rfl) h)))))))

noncomputable def zql_q14  : XT := (xthen (zql_63_M Q E) (zql_q3 Q E))

def zql_65 (Q : QT) (E : ET) (x0 : OA) (x3 x23 : Int) (H : Heap) : Prop :=
 zql_63 Q E x0 x3 x23 (x23 == 94) H

def zql_65_M  (τ : Tau) (H : Heap) : Prop := mP (τ 0) fun x0 => mI .u8 (τ 3) fun x3 => mI .u8 (τ 23) fun x23 => zql_65 Q E x0 x3 x23 H

theorem zql_66ok  : Ok Pr (zql_65_M Q E) (sA (sE zql_p8)) (zql_q14 Q E) E := fun τ H h =>
  wP 0 h (fun x0 h => wI 3 h (fun x3 h => wI 23 h (fun x23 h => (conv (by kernel_rfl) h))))

theorem zql_67ok  : Ok Pr (zql_65_M Q E) (sE zql_p8) (zql_q3 Q E) E := fun τ H h =>
  (conv (by kernel_rfl) (vc_seq (K := (zql_63_M Q E)) (zql_66ok Q E τ H h) (zql_64ok Q E)))

def zql_68 (Q : QT) (E : ET) (x0 : OA) (x3 x23 : Int) (x24 : Bool) (H : Heap) : Prop :=
 sel x24
 (zql_3 Q E  H)
 (zql_65 Q E x0 x3 x23 H)

def zql_68_M  (τ : Tau) (H : Heap) : Prop := mP (τ 0) fun x0 => mI .u8 (τ 3) fun x3 => mI .u8 (τ 23) fun x23 => mB (τ 24) fun x24 => zql_68 Q E x0 x3 x23 x24 H

theorem zql_69ok  : Ok Pr (zql_68_M Q E) zql_p8 (zql_q3 Q E) E := fun τ H h =>
  wP 0 h (fun x0 h => wI 3 h (fun x3 h => wI 23 h (fun x23 h => wB 24 h (fun x24 h => (conv (by kernel_rfl) (sel_mapT (b := x24) (τ := (Tau.upd (Tau.upd (Tau.upd (Tau.upd τ 0 (.pointer x0)) 3 (.int .u8 x3)) 23 (.int .u8 x23)) 24 (.bool x24))) (H := H) (zql_4ok Q E) (zql_67ok Q E) (conv (by kernel_rfl) h)))))))

noncomputable def zql_q15  : XT := (xthen (zql_68_M Q E) (zql_q3 Q E))

def zql_70 (Q : QT) (E : ET) (x0 : OA) (x3 x23 : Int) (H : Heap) : Prop :=
 zql_68 Q E x0 x3 x23 (x23 == 46) H

def zql_70_M  (τ : Tau) (H : Heap) : Prop := mP (τ 0) fun x0 => mI .u8 (τ 3) fun x3 => mI .u8 (τ 23) fun x23 => zql_70 Q E x0 x3 x23 H

theorem zql_71ok  : Ok Pr (zql_70_M Q E) (sA (sI (sB (sA zql_p3)))) (zql_q15 Q E) E := fun τ H h =>
  wP 0 h (fun x0 h => wI 3 h (fun x3 h => wI 23 h (fun x23 h => (conv (by kernel_rfl) h))))

theorem zql_72ok  : Ok Pr (zql_70_M Q E) (sI (sB (sA zql_p3))) (zql_q3 Q E) E := fun τ H h =>
  (conv (by kernel_rfl) (vc_seq (K := (zql_68_M Q E)) (zql_71ok Q E τ H h) (zql_69ok Q E)))

theorem zql_73ok  : Ok Pr (zql_70_M Q E) (sB (sA zql_p3)) (zql_q2 Q E) E := fun τ H h =>
  (conv (by kernel_rfl) (zql_72ok Q E τ H h))

noncomputable def zql_q16  : XT := (xthen (zql_70_M Q E) (zql_q2 Q E))

def zql_74 (Q : QT) (E : ET) (x0 : OA) (x3 : Int) (H : Heap) : Prop :=
 zql_70 Q E x0 x3 x3 H

def zql_74_M  (τ : Tau) (H : Heap) : Prop := mP (τ 0) fun x0 => mI .u8 (τ 3) fun x3 => zql_74 Q E x0 x3 H

theorem zql_75ok  : Ok Pr (zql_74_M Q E) (sA (sA zql_p3)) (zql_q16 Q E) E := fun τ H h =>
  wP 0 h (fun x0 h => wI 3 h (fun x3 h => (conv (by kernel_rfl) h)))

theorem zql_76ok  : Ok Pr (zql_74_M Q E) (sA zql_p3) (zql_q2 Q E) E := fun τ H h =>
  (conv (by kernel_rfl) (vc_seq (K := (zql_70_M Q E)) (zql_75ok Q E τ H h) (zql_73ok Q E)))

theorem zql_77ok  : Ok Pr (zql_74_M Q E) zql_p3 (zql_q1 Q E) E := fun τ H h =>
  (conv (by kernel_rfl) (vc_seq (K := (zql_1_M Q E)) (zql_76ok Q E τ H h) (zql_2ok Q E)))

noncomputable def zql_q17  : XT := (xthen (zql_74_M Q E) (zql_q1 Q E))

def zql_78 (Q : QT) (E : ET) (x0 : OA) (x3 : Int) (H : Heap) : Prop :=
 ptr x0 fun q227 =>
 ldI .i64 (Addr.add q227 1) H fun n228 =>
 ptr x0 fun q229 =>
 wr (Addr.add q229 1) [(.int .i64 (IntKind.wrap .i64 (n228 + 1)))] H fun H230 =>
 zql_74 Q E x0 x3 H230

def zql_78_M  (τ : Tau) (H : Heap) : Prop := mP (τ 0) fun x0 => mI .u8 (τ 3) fun x3 => zql_78 Q E x0 x3 H

theorem zql_79ok  : Ok Pr (zql_78_M Q E) (sA (sB (sB (bodyOf Try.f105)))) (zql_q17 Q E) E := fun τ H h =>
  wP 0 h (fun x0 h => wI 3 h (fun x3 h => (conv (by kernel_rfl) h)))

theorem zql_80ok  : Ok Pr (zql_78_M Q E) (sB (sB (bodyOf Try.f105))) (zql_q1 Q E) E := fun τ H h =>
  (conv (by kernel_rfl) (vc_seq (K := (zql_74_M Q E)) (zql_79ok Q E τ H h) (zql_77ok Q E)))

def zql_81 (Q : QT) (E : ET) (x0 : OA) (H : Heap) : Prop :=
 ptr x0 fun q231 =>
 ldS q231 H fun s232 =>
 ptr x0 fun q233 =>
 ldI .i64 (Addr.add q233 1) H fun n234 =>
 (0 ≤ n234 ∧ n234 < ((ByteArray.size s232 : Nat) : Int)) ∧ zql_78 Q E x0 (sAt s232 n234) H

def zql_81_M  (τ : Tau) (H : Heap) : Prop := mP (τ 0) fun x0 => zql_81 Q E x0 H

theorem zql_82ok  : Ok Pr (zql_81_M Q E) (sA (sB (bodyOf Try.f105))) (xthen (zql_78_M Q E) (zql_q1 Q E)) E := fun τ H h =>
  wP 0 h (fun x0 h => (conv (by kernel_rfl) h))

theorem zql_83ok  : Ok Pr (zql_81_M Q E) (sB (bodyOf Try.f105)) (zql_q1 Q E) E := fun τ H h =>
  (conv (by kernel_rfl) (vc_seq (K := (zql_78_M Q E)) (zql_82ok Q E τ H h) (zql_80ok Q E)))

def zql (Q : QT) (E : ET) (a0 : OA) (H : Heap) : Prop :=
 zql_81 Q E a0 H

theorem zql_fn (a0 : OA) (Q : QT) (E : ET) (H : Heap) (h : zql Q E a0 H)   : Does Pr 105 #[(.pointer a0)] H Q E :=
  Fn_of_vc (fn := Try.f105) (c := (bodyOf Try.f105)) (args := [(.pointer a0)]) mixed (by kernel_rfl) (by kernel_rfl) (by kernel_rfl) (by kernel_rfl) (by kernel_rfl) ((conv (B := vc Pr (bodyOf Try.f105) (argT [(.pointer a0)]) (zql_q1 Q E) E H) (by kernel_rfl) (vc_seq (K := (zql_81_M Q E)) (conv (B := vc Pr (sA (bodyOf Try.f105)) (argT [(.pointer a0)]) (xthen (zql_81_M Q E) (zql_q1 Q E)) E H) (by kernel_rfl) h) (zql_83ok Q E))))

/-! jobmux/jobmuxref08.Not -/
noncomputable def zqm_q1 (Q : QT) (E : ET)  : XT := (retQ Pr (Try.f107).results.toList Q)

noncomputable def zqm_p1 : Code := sB (bodyOf Try.f107)

def zqm_1 (Q : QT) (E : ET) (x1 x2 : OA) (H : Heap) : Prop :=
 ptr x1 fun q7 =>
 ∃ n8 n9 n10 n11 : Int, Heap.rd H q7 0 [(.int .u64 n8), (.int .u64 n9), (.int .u64 n10), (.int .u64 n11)] ∧ ptr x2 fun q13 =>
 wr q13 [(.int .u64 n8), (.int .u64 n9), (.int .u64 n10), (.int .u64 n11)] H fun H12 =>
 ptr x2 fun q14 =>
 ∃ n15 n16 n17 n18 : Int, Heap.rd H12 q14 0 [(.int .u64 n15), (.int .u64 n16), (.int .u64 n17), (.int .u64 n18)] ∧ Q (.agg #[(.int .u64 n15), (.int .u64 n16), (.int .u64 n17), (.int .u64 n18)]) H12

def zqm_1_M  (τ : Tau) (H : Heap) : Prop := mP (τ 1) fun x1 => mP (τ 2) fun x2 => zqm_1 Q E x1 x2 H

theorem zqm_2ok  : Ok Pr (zqm_1_M Q E) (sB zqm_p1) (zqm_q1 Q E) E := fun τ H h =>
  wP 1 h (fun x1 h => wP 2 h (fun x2 h => (conv (by kernel_rfl) h)))

noncomputable def zqm_q2  : XT := (xthen (zqm_1_M Q E) (zqm_q1 Q E))

noncomputable def zqm_p5 : Code := sI (sB (sA zqm_p1))

noncomputable def zqm_q4 (nx19 : Int → HP) : XT := (xthen (fun τ H => mI .i64 (τ 3) fun x3' => nx19 x3' H) (xblock 0 (zqm_q2 Q E)))

def zqm_3 (nx19 : Int → HP) (Q : QT) (E : ET) (x1 x2 : OA) (x3 : Int) (H : Heap) : Prop :=
 ptr x1 fun q20 =>
 (0 ≤ x3 ∧ x3 < ((4 : Nat) : Int)) ∧ ldI .u64 (Addr.add q20 (x3.toNat * 1)) H fun n21 =>
 ptr x1 fun q22 =>
 (0 ≤ x3 ∧ x3 < ((4 : Nat) : Int)) ∧ wr (Addr.add q22 (x3.toNat * 1)) [(.int .u64 (IntKind.wrap .u64 (BitVec.ofInt (IntKind.bits .u64) (if IntKind.signed .u64 then -1 else IntKind.max .u64) ^^^ BitVec.ofInt (IntKind.bits .u64) n21).toNat))] H fun H23 =>
 nx19 (IntKind.wrap .i64 (x3 + 1)) H23

def zqm_3_M (nx19 : Int → HP) (τ : Tau) (H : Heap) : Prop := mP (τ 1) fun x1 => mP (τ 2) fun x2 => mI .i64 (τ 3) fun x3 => zqm_3 nx19 Q E x1 x2 x3 H

theorem zqm_4ok (nx19 : Int → HP) : Ok Pr (zqm_3_M Q E nx19) (sB (sI zqm_p5)) (zqm_q4 Q E nx19) E := fun τ H h =>
  wP 1 h (fun x1 h => wP 2 h (fun x2 h => wI 3 h (fun x3 h => (conv (by kernel_rfl) h))))

noncomputable def zqm_q5 (nx19 : Int → HP) : XT := (xthen (zqm_3_M Q E nx19) (zqm_q4 Q E nx19))

def zqm_5 (nx19 : Int → HP) (Q : QT) (E : ET) (x1 x2 : OA) (x3 : Int) (H : Heap) : Prop :=
 sel (decide (x3 < 4))
 (zqm_3 nx19 Q E x1 x2 x3 H)
 (zqm_1 Q E x1 x2 H)

def zqm_5_M (nx19 : Int → HP) (τ : Tau) (H : Heap) : Prop := mP (τ 1) fun x1 => mP (τ 2) fun x2 => mI .i64 (τ 3) fun x3 => zqm_5 nx19 Q E x1 x2 x3 H

theorem zqm_6ok (nx19 : Int → HP) : Ok Pr (zqm_5_M Q E nx19) (sA (sI zqm_p5)) (zqm_q5 Q E nx19) E := fun τ H h =>
  wP 1 h (fun x1 h => wP 2 h (fun x2 h => wI 3 h (fun x3 h => (conv (by kernel_rfl) h))))

theorem zqm_7ok (nx19 : Int → HP) : Ok Pr (zqm_5_M Q E nx19) (sI zqm_p5) (zqm_q4 Q E nx19) E := fun τ H h =>
  (conv (by kernel_rfl) (vc_seq (K := (zqm_3_M Q E nx19)) (zqm_6ok Q E nx19 τ H h) (zqm_4ok Q E nx19)))

def zqm_8 (Q : QT) (E : ET) (x1 x2 : OA) (x3 : Int) (H : Heap) : Prop :=
 ∃ (I : Int → HP) (μ : Int → Heap → Nat), I x3 H ∧ ∀ (x3 : Int) (H : Heap), I x3 H →
 zqm_5 (fun x3' H1 => I x3' H1 ∧ μ x3' H1 < μ x3 H) Q E x1 x2 x3 H

def zqm_8_M  (τ : Tau) (H : Heap) : Prop := mP (τ 1) fun x1 => mP (τ 2) fun x2 => mI .i64 (τ 3) fun x3 => zqm_8 Q E x1 x2 x3 H

theorem zqm_9ok  : Ok Pr (zqm_8_M Q E) zqm_p5 (xblock 0 (zqm_q2 Q E)) E := fun τ H h =>
  wP 1 h (fun x1 h => wP 2 h (fun x2 h => wI 3 h (fun x3 h => match h with | ⟨I, μ, h0, hr⟩ => (conv (by kernel_rfl) (vc_loopG (c := sI zqm_p5) (τ := (Tau.upd (Tau.upd (Tau.upd τ 1 (.pointer x1)) 2 (.pointer x2)) 3 (.int .i64 x3))) [1, 2] (fun τ H => mI .i64 (τ 3) fun x3' => I x3' H) (fun τ H => μ (gI (τ 3)) H) (by kernel_rfl) h0 (fun τ1 H1 hf hI => uF 1 (.pointer x1) (hf 1 (by simp)) (uF 2 (.pointer x2) (hf 2 (by simp)) (uI 3 hI (fun x3r h => lgx (zqm_7ok Q E (fun x3' H2 => I x3' H2 ∧ μ x3' H2 < μ x3r H1) (Tau.upd (Tau.upd (Tau.upd τ1 1 (.pointer x1)) 2 (.pointer x2)) 3 (.int .i64 x3r)) H1 (conv (by kernel_rfl) (hr x3r H1 h))) (fun τ2 H2 hk => kI 3 hk (fun x3' h => conv (by kernel_rfl) h)))))))))))

theorem zqm_10ok  : Ok Pr (zqm_8_M Q E) (sB (sA zqm_p1)) (zqm_q2 Q E) E := fun τ H h =>
  (conv (by kernel_rfl) (zqm_9ok Q E τ H h))

noncomputable def zqm_q6  : XT := (xthen (zqm_8_M Q E) (zqm_q2 Q E))

def zqm_11 (Q : QT) (E : ET) (x1 x2 : OA) (H : Heap) : Prop :=
 zqm_8 Q E x1 x2 0 H

def zqm_11_M  (τ : Tau) (H : Heap) : Prop := mP (τ 1) fun x1 => mP (τ 2) fun x2 => zqm_11 Q E x1 x2 H

theorem zqm_12ok  : Ok Pr (zqm_11_M Q E) (sA (sA zqm_p1)) (zqm_q6 Q E) E := fun τ H h =>
  wP 1 h (fun x1 h => wP 2 h (fun x2 h => (conv (by kernel_rfl) h)))

theorem zqm_13ok  : Ok Pr (zqm_11_M Q E) (sA zqm_p1) (zqm_q2 Q E) E := fun τ H h =>
  (conv (by kernel_rfl) (vc_seq (K := (zqm_8_M Q E)) (zqm_12ok Q E τ H h) (zqm_10ok Q E)))

theorem zqm_14ok  : Ok Pr (zqm_11_M Q E) zqm_p1 (zqm_q1 Q E) E := fun τ H h =>
  (conv (by kernel_rfl) (vc_seq (K := (zqm_1_M Q E)) (zqm_13ok Q E τ H h) (zqm_2ok Q E)))

def zqm (Q : QT) (E : ET) (a0_0 : Int) (a0_1 : Int) (a0_2 : Int) (a0_3 : Int) (H : Heap) : Prop :=
 nw (.cells #[(.int .u64 a0_0), (.int .u64 a0_1), (.int .u64 a0_2), (.int .u64 a0_3)] 46 (0, 0)) H fun i24 H25 =>
 nw (.cells #[(.int .u64 0), (.int .u64 0), (.int .u64 0), (.int .u64 0)] 46 (0, 0)) H25 fun i26 H27 =>
 zqm_11 Q E (some ⟨i24, 0, none⟩) (some ⟨i26, 0, none⟩) H27

theorem zqm_fn (a0_0 : Int) (a0_1 : Int) (a0_2 : Int) (a0_3 : Int) (Q : QT) (E : ET) (H : Heap) (h : zqm Q E a0_0 a0_1 a0_2 a0_3 H)   : Does Pr 107 #[(.agg #[(.int .u64 a0_0), (.int .u64 a0_1), (.int .u64 a0_2), (.int .u64 a0_3)])] H Q E :=
  Fn_of_vc (fn := Try.f107) (c := (bodyOf Try.f107)) (args := [(.agg #[(.int .u64 a0_0), (.int .u64 a0_1), (.int .u64 a0_2), (.int .u64 a0_3)])]) mixed (by kernel_rfl) (by kernel_rfl) (by kernel_rfl) (by kernel_rfl) (by kernel_rfl) ((conv (B := vc Pr (bodyOf Try.f107) (argT [(.agg #[(.int .u64 a0_0), (.int .u64 a0_1), (.int .u64 a0_2), (.int .u64 a0_3)])]) (zqm_q1 Q E) E H) (by kernel_rfl) (vc_seq (K := (zqm_11_M Q E)) (conv (B := vc Pr (sA (bodyOf Try.f107)) (argT [(.agg #[(.int .u64 a0_0), (.int .u64 a0_1), (.int .u64 a0_2), (.int .u64 a0_3)])]) (xthen (zqm_11_M Q E) (zqm_q1 Q E)) E H) (by kernel_rfl) h) (zqm_14ok Q E))))

/-! jobmux/jobmuxref08.With -/
noncomputable def zqn_q1 (Q : QT) (E : ET)  : XT := (retQ Pr (Try.f108).results.toList Q)

def zqn (Q : QT) (E : ET) (a0_0 : Int) (a0_1 : Int) (a0_2 : Int) (a0_3 : Int) (a1 : Int) (H : Heap) : Prop :=
 nw (.cells #[(.int .u64 a0_0), (.int .u64 a0_1), (.int .u64 a0_2), (.int .u64 a0_3)] 46 (0, 0)) H fun i1 H2 =>
 nw (.cells #[(.int .u64 0), (.int .u64 0), (.int .u64 0), (.int .u64 0)] 46 (0, 0)) H2 fun i3 H4 =>
 (64 : Int) ≠ 0 ∧ (64 : Int) ≠ 0 ∧ (0 ≤ ((IntKind.wrap .u8 (Int.tdiv a1 64)) : Int) ∧ ((IntKind.wrap .u8 (Int.tdiv a1 64)) : Int) < ((4 : Nat) : Int)) ∧ ldI .u64 (Addr.add ⟨i1, 0, none⟩ (((IntKind.wrap .u8 (Int.tdiv a1 64)) : Int).toNat * 1)) H4 fun n5 =>
 (64 : Int) ≠ 0 ∧ 0 ≤ ((Int.tmod a1 64) : Int) ∧ (0 ≤ ((IntKind.wrap .u8 (Int.tdiv a1 64)) : Int) ∧ ((IntKind.wrap .u8 (Int.tdiv a1 64)) : Int) < ((4 : Nat) : Int)) ∧ wr (Addr.add ⟨i1, 0, none⟩ (((IntKind.wrap .u8 (Int.tdiv a1 64)) : Int).toNat * 1)) [(.int .u64 (IntKind.wrap .u64 (BitVec.ofInt (IntKind.bits .u64) n5 ||| BitVec.ofInt (IntKind.bits .u64) (IntKind.wrap .u64 (1 * 2 ^ min ((Int.tmod a1 64) : Int).toNat (IntKind.bits .u64)))).toNat))] H4 fun H6 =>
 ∃ n7 n8 n9 n10 : Int, Heap.rd H6 ⟨i1, 0, none⟩ 0 [(.int .u64 n7), (.int .u64 n8), (.int .u64 n9), (.int .u64 n10)] ∧ wr ⟨i3, 0, none⟩ [(.int .u64 n7), (.int .u64 n8), (.int .u64 n9), (.int .u64 n10)] H6 fun H11 =>
 ∃ n12 n13 n14 n15 : Int, Heap.rd H11 ⟨i3, 0, none⟩ 0 [(.int .u64 n12), (.int .u64 n13), (.int .u64 n14), (.int .u64 n15)] ∧ Q (.agg #[(.int .u64 n12), (.int .u64 n13), (.int .u64 n14), (.int .u64 n15)]) H11

theorem zqn_fn (a0_0 : Int) (a0_1 : Int) (a0_2 : Int) (a0_3 : Int) (a1 : Int) (Q : QT) (E : ET) (H : Heap) (h : zqn Q E a0_0 a0_1 a0_2 a0_3 a1 H)   : Does Pr 108 #[(.agg #[(.int .u64 a0_0), (.int .u64 a0_1), (.int .u64 a0_2), (.int .u64 a0_3)]), (.int .u8 a1)] H Q E :=
  Fn_of_vc (fn := Try.f108) (c := (bodyOf Try.f108)) (args := [(.agg #[(.int .u64 a0_0), (.int .u64 a0_1), (.int .u64 a0_2), (.int .u64 a0_3)]), (.int .u8 a1)]) mixed (by kernel_rfl) (by kernel_rfl) (by kernel_rfl) (by kernel_rfl) (by kernel_rfl) ((conv (B := vc Pr (bodyOf Try.f108) (argT [(.agg #[(.int .u64 a0_0), (.int .u64 a0_1), (.int .u64 a0_2), (.int .u64 a0_3)]), (.int .u8 a1)]) (zqn_q1 Q E) E H) (by kernel_rfl) h))

/-! (*jobmux/jobmuxref08.parser).escape -/
noncomputable def zqo_q1 (Q : QT) (E : ET)  : XT := (retQ Pr (Try.f109).results.toList Q)

noncomputable def zqo_p2 : Code := sB (sB (bodyOf Try.f109))

def zqo_1 (Q : QT) (E : ET) (x0 x2 x4 : OA) (x5 : Bool) (H : Heap) : Prop :=
 ptr x0 fun q27 =>
 ldI .i64 (Addr.add q27 1) H fun n28 =>
 ptr x0 fun q29 =>
 wr (Addr.add q29 1) [(.int .i64 (IntKind.wrap .i64 (n28 + 1)))] H fun H30 =>
 ptr x4 fun q31 =>
 ∃ n32 n33 n34 n35 : Int, Heap.rd H30 q31 0 [(.int .u64 n32), (.int .u64 n33), (.int .u64 n34), (.int .u64 n35)] ∧ ptr x2 fun q37 =>
 wr q37 [(.int .u64 n32), (.int .u64 n33), (.int .u64 n34), (.int .u64 n35)] H30 fun H36 =>
 ptr x2 fun q38 =>
 ∃ n39 n40 n41 n42 : Int, Heap.rd H36 q38 0 [(.int .u64 n39), (.int .u64 n40), (.int .u64 n41), (.int .u64 n42)] ∧ Q (.tuple #[(.agg #[(.int .u64 n39), (.int .u64 n40), (.int .u64 n41), (.int .u64 n42)]), (.bool x5)]) H36

def zqo_1_M  (τ : Tau) (H : Heap) : Prop := mP (τ 0) fun x0 => mP (τ 2) fun x2 => mP (τ 4) fun x4 => mB (τ 5) fun x5 => zqo_1 Q E x0 x2 x4 x5 H

theorem zqo_2ok  : Ok Pr (zqo_1_M Q E) (sB (sB zqo_p2)) (zqo_q1 Q E) E := fun τ H h =>
  wP 0 h (fun x0 h => wP 2 h (fun x2 h => wP 4 h (fun x4 h => wB 5 h (fun x5 h => (conv (by kernel_rfl) h)))))

noncomputable def zqo_q2  : XT := (xthen (zqo_1_M Q E) (zqo_q1 Q E))

def zqo_3 (Q : QT) (E : ET) (x0 x2 x4 : OA) (x5 x6 : Bool) (H : Heap) : Prop :=
 sel (!x6)
 (Does Pr 57 #[(.pointer x0), (.int .i64 82)] H (fun v43 H44 =>
 zqo_1 Q E x0 x2 x4 x5 H44) E)
 (zqo_1 Q E x0 x2 x4 x5 H)

def zqo_3_M  (τ : Tau) (H : Heap) : Prop := mP (τ 0) fun x0 => mP (τ 2) fun x2 => mP (τ 4) fun x4 => mB (τ 5) fun x5 => mB (τ 6) fun x6 => zqo_3 Q E x0 x2 x4 x5 x6 H

theorem zqo_4ok  : Ok Pr (zqo_3_M Q E) (sA (sB zqo_p2)) (zqo_q2 Q E) E := fun τ H h =>
  wP 0 h (fun x0 h => wP 2 h (fun x2 h => wP 4 h (fun x4 h => wB 5 h (fun x5 h => wB 6 h (fun x6 h => (conv (by kernel_rfl) h))))))

theorem zqo_5ok  : Ok Pr (zqo_3_M Q E) (sB zqo_p2) (zqo_q1 Q E) E := fun τ H h =>
  (conv (by kernel_rfl) (vc_seq (K := (zqo_1_M Q E)) (zqo_4ok Q E τ H h) (zqo_2ok Q E)))

noncomputable def zqo_q3  : XT := (xthen (zqo_3_M Q E) (zqo_q1 Q E))

def zqo_6 (Q : QT) (E : ET) (x0 x2 : OA) (H : Heap) : Prop :=
 ptr x0 fun q45 =>
 ldS q45 H fun s46 =>
 ptr x0 fun q47 =>
 ldI .i64 (Addr.add q47 1) H fun n48 =>
 (0 ≤ n48 ∧ n48 < ((ByteArray.size s46 : Nat) : Int)) ∧ Does Pr 116 #[(.int .u8 (sAt s46 n48))] H (fun v49 H50 =>
 ∃ n51 n52 n53 n54 : Int, ∃ b55 : Bool, ∃ b56 : Bool, v49 = (.tuple #[(.agg #[(.int .u64 n51), (.int .u64 n52), (.int .u64 n53), (.int .u64 n54)]), (.bool b55), (.bool b56)]) ∧ nw (.cells #[(.int .u64 0), (.int .u64 0), (.int .u64 0), (.int .u64 0)] 46 (0, 0)) H50 fun i57 H58 =>
 wr ⟨i57, 0, none⟩ [(.int .u64 n51), (.int .u64 n52), (.int .u64 n53), (.int .u64 n54)] H58 fun H59 =>
 zqo_3 Q E x0 x2 (some ⟨i57, 0, none⟩) b55 b56 H59) (fun _ _ => False)

def zqo_6_M  (τ : Tau) (H : Heap) : Prop := mP (τ 0) fun x0 => mP (τ 2) fun x2 => zqo_6 Q E x0 x2 H

theorem zqo_7ok  : Ok Pr (zqo_6_M Q E) (sA zqo_p2) (zqo_q3 Q E) E := fun τ H h =>
  wP 0 h (fun x0 h => wP 2 h (fun x2 h => (conv (by kernel_rfl) h)))

theorem zqo_8ok  : Ok Pr (zqo_6_M Q E) zqo_p2 (zqo_q1 Q E) E := fun τ H h =>
  (conv (by kernel_rfl) (vc_seq (K := (zqo_3_M Q E)) (zqo_7ok Q E τ H h) (zqo_5ok Q E)))

noncomputable def zqo_q4  : XT := (xthen (zqo_6_M Q E) (zqo_q1 Q E))

def zqo_9 (Q : QT) (E : ET) (x0 x2 : OA) (H : Heap) : Prop :=
 ptr x0 fun q60 =>
 ldI .i64 (Addr.add q60 1) H fun n61 =>
 ptr x0 fun q62 =>
 ldS q62 H fun s63 =>
 sel (decide (n61 ≥ ((ByteArray.size s63 : Nat) : Int)))
 (Does Pr 57 #[(.pointer x0), (.int .i64 82)] H (fun v64 H65 =>
 ptr x2 fun q67 =>
 wr q67 [(.int .u64 0), (.int .u64 0), (.int .u64 0), (.int .u64 0)] H65 fun H66 =>
 ptr x2 fun q68 =>
 ∃ n69 n70 n71 n72 : Int, Heap.rd H66 q68 0 [(.int .u64 n69), (.int .u64 n70), (.int .u64 n71), (.int .u64 n72)] ∧ Q (.tuple #[(.agg #[(.int .u64 n69), (.int .u64 n70), (.int .u64 n71), (.int .u64 n72)]), (.bool false)]) H66) E)
 (zqo_6 Q E x0 x2 H)

def zqo_9_M  (τ : Tau) (H : Heap) : Prop := mP (τ 0) fun x0 => mP (τ 2) fun x2 => zqo_9 Q E x0 x2 H

theorem zqo_10ok  : Ok Pr (zqo_9_M Q E) (sA (sB (bodyOf Try.f109))) (zqo_q4 Q E) E := fun τ H h =>
  wP 0 h (fun x0 h => wP 2 h (fun x2 h => (conv (by kernel_rfl) h)))

theorem zqo_11ok  : Ok Pr (zqo_9_M Q E) (sB (bodyOf Try.f109)) (zqo_q1 Q E) E := fun τ H h =>
  (conv (by kernel_rfl) (vc_seq (K := (zqo_6_M Q E)) (zqo_10ok Q E τ H h) (zqo_8ok Q E)))

def zqo (Q : QT) (E : ET) (a0 : OA) (H : Heap) : Prop :=
 nw (.cells #[(.int .u64 0), (.int .u64 0), (.int .u64 0), (.int .u64 0)] 46 (0, 0)) H fun i73 H74 =>
 zqo_9 Q E a0 (some ⟨i73, 0, none⟩) H74

theorem zqo_fn (a0 : OA) (Q : QT) (E : ET) (H : Heap) (h : zqo Q E a0 H)   : Does Pr 109 #[(.pointer a0)] H Q E :=
  Fn_of_vc (fn := Try.f109) (c := (bodyOf Try.f109)) (args := [(.pointer a0)]) mixed (by kernel_rfl) (by kernel_rfl) (by kernel_rfl) (by kernel_rfl) (by kernel_rfl) ((conv (B := vc Pr (bodyOf Try.f109) (argT [(.pointer a0)]) (zqo_q1 Q E) E H) (by kernel_rfl) (vc_seq (K := (zqo_9_M Q E)) (conv (B := vc Pr (sA (bodyOf Try.f109)) (argT [(.pointer a0)]) (xthen (zqo_9_M Q E) (zqo_q1 Q E)) E H) (by kernel_rfl) h) (zqo_11ok Q E))))

/-! (*jobmux/jobmuxref08.parser).class -/
noncomputable def zqp_q1 (Q : QT) (E : ET)  : XT := (retQ Pr (Try.f110).results.toList Q)

noncomputable def zqp_p2 : Code := sB (sB (bodyOf Try.f110))

def zqp_1 (Q : QT) (E : ET) (x0 x2 x3 : OA) (H : Heap) : Prop :=
 Does Pr 57 #[(.pointer x0), (.int .i64 80)] H (fun v63 H64 =>
 ptr x3 fun q65 =>
 ∃ n66 n67 n68 n69 : Int, Heap.rd H64 q65 0 [(.int .u64 n66), (.int .u64 n67), (.int .u64 n68), (.int .u64 n69)] ∧ ptr x2 fun q71 =>
 wr q71 [(.int .u64 n66), (.int .u64 n67), (.int .u64 n68), (.int .u64 n69)] H64 fun H70 =>
 ptr x2 fun q72 =>
 ∃ n73 n74 n75 n76 : Int, Heap.rd H70 q72 0 [(.int .u64 n73), (.int .u64 n74), (.int .u64 n75), (.int .u64 n76)] ∧ Q (.agg #[(.int .u64 n73), (.int .u64 n74), (.int .u64 n75), (.int .u64 n76)]) H70) E

def zqp_1_M  (τ : Tau) (H : Heap) : Prop := mP (τ 0) fun x0 => mP (τ 2) fun x2 => mP (τ 3) fun x3 => zqp_1 Q E x0 x2 x3 H

theorem zqp_2ok  : Ok Pr (zqp_1_M Q E) (sB (sB (sB zqp_p2))) (zqp_q1 Q E) E := fun τ H h =>
  wP 0 h (fun x0 h => wP 2 h (fun x2 h => wP 3 h (fun x3 h => (conv (by kernel_rfl) h))))

noncomputable def zqp_q2  : XT := (xthen (zqp_1_M Q E) (zqp_q1 Q E))

noncomputable def zqp_p6 : Code := sA (sB (sB zqp_p2))

noncomputable def zqp_q4 (nx77 : Int → HP) : XT := (xthen (fun τ H => mI .i64 (τ 5) fun x5' => nx77 x5' H) (xblock 0 (zqp_q2 Q E)))

noncomputable def zqp_p9 : Code := sI (sI (sB zqp_p6))

def zqp_3 (nx77 : Int → HP) (Q : QT) (E : ET) (x0 x2 x3 : OA) (x4 : Bool) (x5 : Int) (H : Heap) : Prop :=
 nx77 (IntKind.wrap .i64 (x5 + 1)) H

def zqp_3_M (nx77 : Int → HP) (τ : Tau) (H : Heap) : Prop := mP (τ 0) fun x0 => mP (τ 2) fun x2 => mP (τ 3) fun x3 => mB (τ 4) fun x4 => mI .i64 (τ 5) fun x5 => zqp_3 nx77 Q E x0 x2 x3 x4 x5 H

theorem zqp_4ok (nx77 : Int → HP) : Ok Pr (zqp_3_M Q E nx77) (sB (sB zqp_p9)) (zqp_q4 Q E nx77) E := fun τ H h =>
  wP 0 h (fun x0 h => wP 2 h (fun x2 h => wP 3 h (fun x3 h => wB 4 h (fun x4 h => wI 5 h (fun x5 h => (conv (by kernel_rfl) h))))))

noncomputable def zqp_q5 (nx77 : Int → HP) : XT := (xthen (zqp_3_M Q E nx77) (zqp_q4 Q E nx77))

noncomputable def zqp_p13 : Code := sI (sA (sB zqp_p9))

def zqp_5 (nx77 : Int → HP) (Q : QT) (E : ET) (x0 x2 x3 : OA) (x4 : Bool) (x5 : Int) (H : Heap) : Prop :=
 ∃ Z161 : Nat → Prop,
 (ptr x3 fun ad => Z161 (Addr.block ad)) ∧ ptr x3 fun q162 =>
 ∃ n163 n164 n165 n166 : Int, Heap.rd H q162 0 [(.int .u64 n163), (.int .u64 n164), (.int .u64 n165), (.int .u64 n166)] ∧ Does Pr 118 #[(.pointer x0)] H (fun v167 H168 =>
 ∃ n169 n170 n171 n172 : Int, v167 = (.agg #[(.int .u64 n169), (.int .u64 n170), (.int .u64 n171), (.int .u64 n172)]) ∧ (∀ z, Z161 z → H z ≠ none → H168 z = H z) ∧ Does Pr 117 #[(.agg #[(.int .u64 n163), (.int .u64 n164), (.int .u64 n165), (.int .u64 n166)]), (.agg #[(.int .u64 n169), (.int .u64 n170), (.int .u64 n171), (.int .u64 n172)])] H168 (fun v173 H174 =>
 ∃ n175 n176 n177 n178 : Int, v173 = (.agg #[(.int .u64 n175), (.int .u64 n176), (.int .u64 n177), (.int .u64 n178)]) ∧ ptr x3 fun q180 =>
 wr q180 [(.int .u64 n175), (.int .u64 n176), (.int .u64 n177), (.int .u64 n178)] H174 fun H179 =>
 zqp_3 nx77 Q E x0 x2 x3 x4 x5 H179) (fun _ _ => False)) (fun _ _ => False)

def zqp_5_M (nx77 : Int → HP) (τ : Tau) (H : Heap) : Prop := mP (τ 0) fun x0 => mP (τ 2) fun x2 => mP (τ 3) fun x3 => mB (τ 4) fun x4 => mI .i64 (τ 5) fun x5 => zqp_5 nx77 Q E x0 x2 x3 x4 x5 H

theorem zqp_6ok (nx77 : Int → HP) : Ok Pr (zqp_5_M Q E nx77) (sB zqp_p13) (xblock 1 (zqp_q5 Q E nx77)) E := fun τ H h =>
  wP 0 h (fun x0 h => wP 2 h (fun x2 h => wP 3 h (fun x3 h => wB 4 h (fun x4 h => wI 5 h (fun x5 h => (conv (by kernel_rfl) h))))))

noncomputable def zqp_q7 (nx77 : Int → HP) : XT := (xthen (zqp_5_M Q E nx77) (xblock 1 (zqp_q5 Q E nx77)))

noncomputable def zqp_p16 : Code := sB (sA zqp_p13)

noncomputable def zqp_p18 : Code := sB (sT zqp_p16)

def zqp_7 (nx77 : Int → HP) (Q : QT) (E : ET) (x2 x3 : OA) (H : Heap) : Prop :=
 ptr x3 fun q204 =>
 ∃ n205 n206 n207 n208 : Int, Heap.rd H q204 0 [(.int .u64 n205), (.int .u64 n206), (.int .u64 n207), (.int .u64 n208)] ∧ ptr x2 fun q210 =>
 wr q210 [(.int .u64 n205), (.int .u64 n206), (.int .u64 n207), (.int .u64 n208)] H fun H209 =>
 ptr x2 fun q211 =>
 ∃ n212 n213 n214 n215 : Int, Heap.rd H209 q211 0 [(.int .u64 n212), (.int .u64 n213), (.int .u64 n214), (.int .u64 n215)] ∧ Q (.agg #[(.int .u64 n212), (.int .u64 n213), (.int .u64 n214), (.int .u64 n215)]) H209

def zqp_7_M (nx77 : Int → HP) (τ : Tau) (H : Heap) : Prop := mP (τ 2) fun x2 => mP (τ 3) fun x3 => zqp_7 nx77 Q E x2 x3 H

theorem zqp_8ok (nx77 : Int → HP) : Ok Pr (zqp_7_M Q E nx77) (sB (sB zqp_p18)) (zqp_q7 Q E nx77) E := fun τ H h =>
  wP 2 h (fun x2 h => wP 3 h (fun x3 h => (conv (by kernel_rfl) h)))

noncomputable def zqp_q8 (nx77 : Int → HP) : XT := (xthen (zqp_7_M Q E nx77) (zqp_q7 Q E nx77))

def zqp_9 (nx77 : Int → HP) (Q : QT) (E : ET) (x2 x3 : OA) (x4 : Bool) (H : Heap) : Prop :=
 sel x4
 (ptr x3 fun q216 =>
 ∃ n217 n218 n219 n220 : Int, Heap.rd H q216 0 [(.int .u64 n217), (.int .u64 n218), (.int .u64 n219), (.int .u64 n220)] ∧ Does Pr 107 #[(.agg #[(.int .u64 n217), (.int .u64 n218), (.int .u64 n219), (.int .u64 n220)])] H (fun v221 H222 =>
 ∃ n223 n224 n225 n226 : Int, v221 = (.agg #[(.int .u64 n223), (.int .u64 n224), (.int .u64 n225), (.int .u64 n226)]) ∧ ptr x2 fun q228 =>
 wr q228 [(.int .u64 n223), (.int .u64 n224), (.int .u64 n225), (.int .u64 n226)] H222 fun H227 =>
 ptr x2 fun q229 =>
 ∃ n230 n231 n232 n233 : Int, Heap.rd H227 q229 0 [(.int .u64 n230), (.int .u64 n231), (.int .u64 n232), (.int .u64 n233)] ∧ Q (.agg #[(.int .u64 n230), (.int .u64 n231), (.int .u64 n232), (.int .u64 n233)]) H227) E)
 (zqp_7 nx77 Q E x2 x3 H)

def zqp_9_M (nx77 : Int → HP) (τ : Tau) (H : Heap) : Prop := mP (τ 2) fun x2 => mP (τ 3) fun x3 => mB (τ 4) fun x4 => zqp_9 nx77 Q E x2 x3 x4 H

theorem zqp_10ok (nx77 : Int → HP) : Ok Pr (zqp_9_M Q E nx77) (sA (sB zqp_p18)) (zqp_q8 Q E nx77) E := fun τ H h =>
  wP 2 h (fun x2 h => wP 3 h (fun x3 h => wB 4 h (fun x4 h => (conv (by kernel_rfl) h))))

theorem zqp_11ok (nx77 : Int → HP) : Ok Pr (zqp_9_M Q E nx77) (sB zqp_p18) (zqp_q7 Q E nx77) E := fun τ H h =>
  (conv (by kernel_rfl) (vc_seq (K := (zqp_7_M Q E nx77)) (zqp_10ok Q E nx77 τ H h) (zqp_8ok Q E nx77)))

noncomputable def zqp_q9 (nx77 : Int → HP) : XT := (xthen (zqp_9_M Q E nx77) (zqp_q7 Q E nx77))

def zqp_12 (nx77 : Int → HP) (Q : QT) (E : ET) (x0 x2 x3 : OA) (x4 : Bool) (H : Heap) : Prop :=
 ptr x0 fun q234 =>
 ldI .i64 (Addr.add q234 1) H fun n235 =>
 ptr x0 fun q236 =>
 wr (Addr.add q236 1) [(.int .i64 (IntKind.wrap .i64 (n235 + 1)))] H fun H237 =>
 zqp_9 nx77 Q E x2 x3 x4 H237

def zqp_12_M (nx77 : Int → HP) (τ : Tau) (H : Heap) : Prop := mP (τ 0) fun x0 => mP (τ 2) fun x2 => mP (τ 3) fun x3 => mB (τ 4) fun x4 => zqp_12 nx77 Q E x0 x2 x3 x4 H

theorem zqp_13ok (nx77 : Int → HP) : Ok Pr (zqp_12_M Q E nx77) (sA zqp_p18) (zqp_q9 Q E nx77) E := fun τ H h =>
  wP 0 h (fun x0 h => wP 2 h (fun x2 h => wP 3 h (fun x3 h => wB 4 h (fun x4 h => (conv (by kernel_rfl) h)))))

theorem zqp_14ok (nx77 : Int → HP) : Ok Pr (zqp_12_M Q E nx77) zqp_p18 (zqp_q7 Q E nx77) E := fun τ H h =>
  (conv (by kernel_rfl) (vc_seq (K := (zqp_9_M Q E nx77)) (zqp_13ok Q E nx77 τ H h) (zqp_11ok Q E nx77)))

noncomputable def zqp_q10 (nx77 : Int → HP) : XT := (xthen (zqp_12_M Q E nx77) (zqp_q7 Q E nx77))

def zqp_15 (nx77 : Int → HP) (Q : QT) (E : ET) (x0 x2 x3 : OA) (x4 : Bool) (x5 : Int) (H : Heap) : Prop :=
 sel (x5 == 0)
 (Does Pr 57 #[(.pointer x0), (.int .i64 80)] H (fun v238 H239 =>
 zqp_12 nx77 Q E x0 x2 x3 x4 H239) E)
 (zqp_12 nx77 Q E x0 x2 x3 x4 H)

def zqp_15_M (nx77 : Int → HP) (τ : Tau) (H : Heap) : Prop := mP (τ 0) fun x0 => mP (τ 2) fun x2 => mP (τ 3) fun x3 => mB (τ 4) fun x4 => mI .i64 (τ 5) fun x5 => zqp_15 nx77 Q E x0 x2 x3 x4 x5 H

theorem zqp_16ok (nx77 : Int → HP) : Ok Pr (zqp_15_M Q E nx77) (sA (sT zqp_p16)) (zqp_q10 Q E nx77) E := fun τ H h =>
  wP 0 h (fun x0 h => wP 2 h (fun x2 h => wP 3 h (fun x3 h => wB 4 h (fun x4 h => wI 5 h (fun x5 h => (conv (by kernel_rfl) h))))))

theorem zqp_17ok (nx77 : Int → HP) : Ok Pr (zqp_15_M Q E nx77) (sT zqp_p16) (zqp_q7 Q E nx77) E := fun τ H h =>
  (conv (by kernel_rfl) (vc_seq (K := (zqp_12_M Q E nx77)) (zqp_16ok Q E nx77 τ H h) (zqp_14ok Q E nx77)))

def zqp_18 (nx77 : Int → HP) (Q : QT) (E : ET) (x0 x2 x3 : OA) (x4 : Bool) (x5 : Int) (H : Heap) : Prop :=
 zqp_5 nx77 Q E x0 x2 x3 x4 x5 H

def zqp_18_M (nx77 : Int → HP) (τ : Tau) (H : Heap) : Prop := mP (τ 0) fun x0 => mP (τ 2) fun x2 => mP (τ 3) fun x3 => mB (τ 4) fun x4 => mI .i64 (τ 5) fun x5 => zqp_18 nx77 Q E x0 x2 x3 x4 x5 H

theorem zqp_19ok (nx77 : Int → HP) : Ok Pr (zqp_18_M Q E nx77) (sE zqp_p16) (zqp_q7 Q E nx77) E := fun τ H h =>
  wP 0 h (fun x0 h => wP 2 h (fun x2 h => wP 3 h (fun x3 h => wB 4 h (fun x4 h => wI 5 h (fun x5 h => (conv (by kernel_rfl) h))))))

def zqp_20 (nx77 : Int → HP) (Q : QT) (E : ET) (x0 x2 x3 : OA) (x4 : Bool) (x5 : Int) (x41 : Bool) (H : Heap) : Prop :=
 sel x41
 (zqp_15 nx77 Q E x0 x2 x3 x4 x5 H)
 (zqp_18 nx77 Q E x0 x2 x3 x4 x5 H)

def zqp_20_M (nx77 : Int → HP) (τ : Tau) (H : Heap) : Prop := mP (τ 0) fun x0 => mP (τ 2) fun x2 => mP (τ 3) fun x3 => mB (τ 4) fun x4 => mI .i64 (τ 5) fun x5 => mB (τ 41) fun x41 => zqp_20 nx77 Q E x0 x2 x3 x4 x5 x41 H

theorem zqp_21ok (nx77 : Int → HP) : Ok Pr (zqp_20_M Q E nx77) zqp_p16 (zqp_q7 Q E nx77) E := fun τ H h =>
  wP 0 h (fun x0 h => wP 2 h (fun x2 h => wP 3 h (fun x3 h => wB 4 h (fun x4 h => wI 5 h (fun x5 h => wB 41 h (fun x41 h => (conv (by kernel_rfl) (sel_mapT (b := x41) (τ := (Tau.upd (Tau.upd (Tau.upd (Tau.upd (Tau.upd (Tau.upd τ 0 (.pointer x0)) 2 (.pointer x2)) 3 (.pointer x3)) 4 (.bool x4)) 5 (.int .i64 x5)) 41 (.bool x41))) (H := H) (zqp_17ok Q E nx77) (zqp_19ok Q E nx77) (conv (by kernel_rfl) h)))))))))

noncomputable def zqp_q11 (nx77 : Int → HP) : XT := (xthen (zqp_20_M Q E nx77) (zqp_q7 Q E nx77))

def zqp_22 (nx77 : Int → HP) (Q : QT) (E : ET) (x0 x2 x3 : OA) (x4 : Bool) (x5 : Int) (H : Heap) : Prop :=
 ptr x0 fun q240 =>
 ldS q240 H fun s241 =>
 ptr x0 fun q242 =>
 ldI .i64 (Addr.add q242 1) H fun n243 =>
 (0 ≤ n243 ∧ n243 < ((ByteArray.size s241 : Nat) : Int)) ∧ zqp_20 nx77 Q E x0 x2 x3 x4 x5 (((sAt s241 n243) : Int) == 93) H

def zqp_22_M (nx77 : Int → HP) (τ : Tau) (H : Heap) : Prop := mP (τ 0) fun x0 => mP (τ 2) fun x2 => mP (τ 3) fun x3 => mB (τ 4) fun x4 => mI .i64 (τ 5) fun x5 => zqp_22 nx77 Q E x0 x2 x3 x4 x5 H

theorem zqp_23ok (nx77 : Int → HP) : Ok Pr (zqp_22_M Q E nx77) (sA (sA zqp_p13)) (zqp_q11 Q E nx77) E := fun τ H h =>
  wP 0 h (fun x0 h => wP 2 h (fun x2 h => wP 3 h (fun x3 h => wB 4 h (fun x4 h => wI 5 h (fun x5 h => (conv (by kernel_rfl) h))))))

theorem zqp_24ok (nx77 : Int → HP) : Ok Pr (zqp_22_M Q E nx77) (sA zqp_p13) (zqp_q7 Q E nx77) E := fun τ H h =>
  (conv (by kernel_rfl) (vc_seq (K := (zqp_20_M Q E nx77)) (zqp_23ok Q E nx77 τ H h) (zqp_21ok Q E nx77)))

theorem zqp_25ok (nx77 : Int → HP) : Ok Pr (zqp_22_M Q E nx77) zqp_p13 (xblock 1 (zqp_q5 Q E nx77)) E := fun τ H h =>
  (conv (by kernel_rfl) (vc_seq (K := (zqp_5_M Q E nx77)) (zqp_24ok Q E nx77 τ H h) (zqp_6ok Q E nx77)))

theorem zqp_26ok (nx77 : Int → HP) : Ok Pr (zqp_22_M Q E nx77) (sA (sB zqp_p9)) (zqp_q5 Q E nx77) E := fun τ H h =>
  (conv (by kernel_rfl) (zqp_25ok Q E nx77 τ H h))

theorem zqp_27ok (nx77 : Int → HP) : Ok Pr (zqp_22_M Q E nx77) (sB zqp_p9) (zqp_q4 Q E nx77) E := fun τ H h =>
  (conv (by kernel_rfl) (vc_seq (K := (zqp_3_M Q E nx77)) (zqp_26ok Q E nx77 τ H h) (zqp_4ok Q E nx77)))

noncomputable def zqp_q12 (nx77 : Int → HP) : XT := (xthen (zqp_22_M Q E nx77) (zqp_q4 Q E nx77))

def zqp_28 (nx77 : Int → HP) (Q : QT) (E : ET) (x0 x2 x3 : OA) (x4 : Bool) (x5 : Int) (H : Heap) : Prop :=
 Does Pr 90 #[(.pointer x0)] H (fun v244 H245 =>
 ∃ b246 : Bool, v244 = (.bool b246) ∧ sel b246
 (zqp_22 nx77 Q E x0 x2 x3 x4 x5 H245)
 (zqp_1 Q E x0 x2 x3 H245)) E

def zqp_28_M (nx77 : Int → HP) (τ : Tau) (H : Heap) : Prop := mP (τ 0) fun x0 => mP (τ 2) fun x2 => mP (τ 3) fun x3 => mB (τ 4) fun x4 => mI .i64 (τ 5) fun x5 => zqp_28 nx77 Q E x0 x2 x3 x4 x5 H

theorem zqp_29ok (nx77 : Int → HP) : Ok Pr (zqp_28_M Q E nx77) (sA zqp_p9) (zqp_q12 Q E nx77) E := fun τ H h =>
  wP 0 h (fun x0 h => wP 2 h (fun x2 h => wP 3 h (fun x3 h => wB 4 h (fun x4 h => wI 5 h (fun x5 h => (conv (by kernel_rfl) h))))))

theorem zqp_30ok (nx77 : Int → HP) : Ok Pr (zqp_28_M Q E nx77) zqp_p9 (zqp_q4 Q E nx77) E := fun τ H h =>
  (conv (by kernel_rfl) (vc_seq (K := (zqp_22_M Q E nx77)) (zqp_29ok Q E nx77 τ H h) (zqp_27ok Q E nx77)))

def zqp_31 (Q : QT) (E : ET) (x0 x2 x3 : OA) (x4 : Bool) (x5 : Int) (H : Heap) : Prop :=
 ∃ (I : Int → HP) (μ : Int → Heap → Nat), I x5 H ∧ ∀ (x5 : Int) (H : Heap), I x5 H →
 zqp_28 (fun x5' H1 => I x5' H1 ∧ μ x5' H1 < μ x5 H) Q E x0 x2 x3 x4 x5 H

def zqp_31_M  (τ : Tau) (H : Heap) : Prop := mP (τ 0) fun x0 => mP (τ 2) fun x2 => mP (τ 3) fun x3 => mB (τ 4) fun x4 => mI .i64 (τ 5) fun x5 => zqp_31 Q E x0 x2 x3 x4 x5 H

theorem zqp_32ok  : Ok Pr (zqp_31_M Q E) (sI (sB zqp_p6)) (xblock 0 (zqp_q2 Q E)) E := fun τ H h =>
  wP 0 h (fun x0 h => wP 2 h (fun x2 h => wP 3 h (fun x3 h => wB 4 h (fun x4 h => wI 5 h (fun x5 h => match h with | ⟨I, μ, h0, hr⟩ => (conv (by kernel_rfl) (vc_loopG (c := sI (sI (sB zqp_p6))) (τ := (Tau.upd (Tau.upd (Tau.upd (Tau.upd (Tau.upd τ 0 (.pointer x0)) 2 (.pointer x2)) 3 (.pointer x3)) 4 (.bool x4)) 5 (.int .i64 x5))) [0, 2, 3, 4] (fun τ H => mI .i64 (τ 5) fun x5' => I x5' H) (fun τ H => μ (gI (τ 5)) H) (by kernel_rfl) h0 (fun τ1 H1 hf hI => uF 0 (.pointer x0) (hf 0 (by simp)) (uF 2 (.pointer x2) (hf 2 (by simp)) (uF 3 (.pointer x3) (hf 3 (by simp)) (uF 4 (.bool x4) (hf 4 (by simp)) (uI 5 hI (fun x5r h => lgx (zqp_30ok Q E (fun x5' H2 => I x5' H2 ∧ μ x5' H2 < μ x5r H1) (Tau.upd (Tau.upd (Tau.upd (Tau.upd (Tau.upd τ1 0 (.pointer x0)) 2 (.pointer x2)) 3 (.pointer x3)) 4 (.bool x4)) 5 (.int .i64 x5r)) H1 (conv (by kernel_rfl) (hr x5r H1 h))) (fun τ2 H2 hk => kI 5 hk (fun x5' h => conv (by kernel_rfl) h)))))))))))))))

theorem zqp_33ok  : Ok Pr (zqp_31_M Q E) (sB zqp_p6) (zqp_q2 Q E) E := fun τ H h =>
  (conv (by kernel_rfl) (zqp_32ok Q E τ H h))

noncomputable def zqp_q13  : XT := (xthen (zqp_31_M Q E) (zqp_q2 Q E))

def zqp_34 (Q : QT) (E : ET) (x0 x2 x3 : OA) (x4 : Bool) (H : Heap) : Prop :=
 zqp_31 Q E x0 x2 x3 x4 0 H

def zqp_34_M  (τ : Tau) (H : Heap) : Prop := mP (τ 0) fun x0 => mP (τ 2) fun x2 => mP (τ 3) fun x3 => mB (τ 4) fun x4 => zqp_34 Q E x0 x2 x3 x4 H

theorem zqp_35ok  : Ok Pr (zqp_34_M Q E) (sA zqp_p6) (zqp_q13 Q E) E := fun τ H h =>
  wP 0 h (fun x0 h => wP 2 h (fun x2 h => wP 3 h (fun x3 h => wB 4 h (fun x4 h => (conv (by kernel_rfl) h)))))

theorem zqp_36ok  : Ok Pr (zqp_34_M Q E) zqp_p6 (zqp_q2 Q E) E := fun τ H h =>
  (conv (by kernel_rfl) (vc_seq (K := (zqp_31_M Q E)) (zqp_35ok Q E τ H h) (zqp_33ok Q E)))

theorem zqp_37ok  : Ok Pr (zqp_34_M Q E) (sB (sB zqp_p2)) (zqp_q1 Q E) E := fun τ H h =>
  (conv (by kernel_rfl) (vc_seq (K := (zqp_1_M Q E)) (zqp_36ok Q E τ H h) (zqp_2ok Q E)))

noncomputable def zqp_q14  : XT := (xthen (zqp_34_M Q E) (zqp_q1 Q E))

def zqp_38 (Q : QT) (E : ET) (x0 x2 x3 : OA) (x4 : Bool) (H : Heap) : Prop :=
 sel x4
 (ptr x0 fun q247 =>
 ldI .i64 (Addr.add q247 1) H fun n248 =>
 ptr x0 fun q249 =>
 wr (Addr.add q249 1) [(.int .i64 (IntKind.wrap .i64 (n248 + 1)))] H fun H250 =>
 zqp_34 Q E x0 x2 x3 x4 H250)
 (zqp_34 Q E x0 x2 x3 x4 H)

def zqp_38_M  (τ : Tau) (H : Heap) : Prop := mP (τ 0) fun x0 => mP (τ 2) fun x2 => mP (τ 3) fun x3 => mB (τ 4) fun x4 => zqp_38 Q E x0 x2 x3 x4 H

theorem zqp_39ok  : Ok Pr (zqp_38_M Q E) (sA (sB zqp_p2)) (zqp_q14 Q E) E := fun τ H h =>
  wP 0 h (fun x0 h => wP 2 h (fun x2 h => wP 3 h (fun x3 h => wB 4 h (fun x4 h => (conv (by kernel_rfl) h)))))

theorem zqp_40ok  : Ok Pr (zqp_38_M Q E) (sB zqp_p2) (zqp_q1 Q E) E := fun τ H h =>
  (conv (by kernel_rfl) (vc_seq (K := (zqp_34_M Q E)) (zqp_39ok Q E τ H h) (zqp_37ok Q E)))

noncomputable def zqp_q15  : XT := (xthen (zqp_38_M Q E) (zqp_q1 Q E))

def zqp_41 (Q : QT) (E : ET) (x0 x2 x3 : OA) (H : Heap) : Prop :=
 Does Pr 90 #[(.pointer x0)] H (fun v251 H252 =>
 ∃ b253 : Bool, v251 = (.bool b253) ∧ sel b253
 (ptr x0 fun q254 =>
 ldS q254 H252 fun s255 =>
 ptr x0 fun q256 =>
 ldI .i64 (Addr.add q256 1) H252 fun n257 =>
 (0 ≤ n257 ∧ n257 < ((ByteArray.size s255 : Nat) : Int)) ∧ zqp_38 Q E x0 x2 x3 (((sAt s255 n257) : Int) == 94) H252)
 (zqp_38 Q E x0 x2 x3 false H252)) (fun _ _ => False)

def zqp_41_M  (τ : Tau) (H : Heap) : Prop := mP (τ 0) fun x0 => mP (τ 2) fun x2 => mP (τ 3) fun x3 => zqp_41 Q E x0 x2 x3 H

theorem zqp_42ok  : Ok Pr (zqp_41_M Q E) (sA zqp_p2) (zqp_q15 Q E) E := fun τ H h =>
  wP 0 h (fun x0 h => wP 2 h (fun x2 h => wP 3 h (fun x3 h => (conv (by kernel_rfl) h))))

theorem zqp_43ok  : Ok Pr (zqp_41_M Q E) zqp_p2 (zqp_q1 Q E) E := fun τ H h =>
  (conv (by kernel_rfl) (vc_seq (K := (zqp_38_M Q E)) (zqp_42ok Q E τ H h) (zqp_40ok Q E)))

noncomputable def zqp_q16  : XT := (xthen (zqp_41_M Q E) (zqp_q1 Q E))

def zqp_44 (Q : QT) (E : ET) (x0 x2 : OA) (H : Heap) : Prop :=
 nw (.cells #[(.int .u64 0), (.int .u64 0), (.int .u64 0), (.int .u64 0)] 46 (0, 0)) H fun i258 H259 =>
 zqp_41 Q E x0 x2 (some ⟨i258, 0, none⟩) H259

def zqp_44_M  (τ : Tau) (H : Heap) : Prop := mP (τ 0) fun x0 => mP (τ 2) fun x2 => zqp_44 Q E x0 x2 H

theorem zqp_45ok  : Ok Pr (zqp_44_M Q E) (sA (sB (bodyOf Try.f110))) (zqp_q16 Q E) E := fun τ H h =>
  wP 0 h (fun x0 h => wP 2 h (fun x2 h => (conv (by kernel_rfl) h)))

theorem zqp_46ok  : Ok Pr (zqp_44_M Q E) (sB (bodyOf Try.f110)) (zqp_q1 Q E) E := fun τ H h =>
  (conv (by kernel_rfl) (vc_seq (K := (zqp_41_M Q E)) (zqp_45ok Q E τ H h) (zqp_43ok Q E)))

def zqp (Q : QT) (E : ET) (a0 : OA) (H : Heap) : Prop :=
 nw (.cells #[(.int .u64 0), (.int .u64 0), (.int .u64 0), (.int .u64 0)] 46 (0, 0)) H fun i260 H261 =>
 zqp_44 Q E a0 (some ⟨i260, 0, none⟩) H261

theorem zqp_fn (a0 : OA) (Q : QT) (E : ET) (H : Heap) (h : zqp Q E a0 H)   : Does Pr 110 #[(.pointer a0)] H Q E :=
  Fn_of_vc (fn := Try.f110) (c := (bodyOf Try.f110)) (args := [(.pointer a0)]) mixed (by kernel_rfl) (by kernel_rfl) (by kernel_rfl) (by kernel_rfl) (by kernel_rfl) ((conv (B := vc Pr (bodyOf Try.f110) (argT [(.pointer a0)]) (zqp_q1 Q E) E H) (by kernel_rfl) (vc_seq (K := (zqp_44_M Q E)) (conv (B := vc Pr (sA (bodyOf Try.f110)) (argT [(.pointer a0)]) (xthen (zqp_44_M Q E) (zqp_q1 Q E)) E H) (by kernel_rfl) h) (zqp_46ok Q E))))

/-! jobmux/jobmuxref08.named -/
noncomputable def zqq_q1 (Q : QT) (E : ET)  : XT := (retQ Pr (Try.f116).results.toList Q)

noncomputable def zqq_p1 : Code := sB (bodyOf Try.f116)

def zqq_1 (Q : QT) (E : ET) (x2 : OA) (H : Heap) : Prop :=
 ptr x2 fun q116 =>
 wr q116 [(.int .u64 0), (.int .u64 0), (.int .u64 0), (.int .u64 0)] H fun H115 =>
 ptr x2 fun q117 =>
 ∃ n118 n119 n120 n121 : Int, Heap.rd H115 q117 0 [(.int .u64 n118), (.int .u64 n119), (.int .u64 n120), (.int .u64 n121)] ∧ Q (.tuple #[(.agg #[(.int .u64 n118), (.int .u64 n119), (.int .u64 n120), (.int .u64 n121)]), (.bool false), (.bool false)]) H115

def zqq_1_M  (τ : Tau) (H : Heap) : Prop := mP (τ 2) fun x2 => zqq_1 Q E x2 H

theorem zqq_2ok  : Ok Pr (zqq_1_M Q E) (sB (sB zqq_p1)) (zqq_q1 Q E) E := fun τ H h =>
  wP 2 h (fun x2 h => (conv (by kernel_rfl) h))

noncomputable def zqq_q2  : XT := (xthen (zqq_1_M Q E) (zqq_q1 Q E))

def zqq_3 (Q : QT) (E : ET) (x0 : Int) (x2 : OA) (H : Heap) : Prop :=
 Does Pr 123 #[(.int .u8 x0)] H (fun v122 H123 =>
 ∃ b124 : Bool, v122 = (.bool b124) ∧ sel b124
 (Does Pr 108 #[(.agg #[(.int .u64 0), (.int .u64 0), (.int .u64 0), (.int .u64 0)]), (.int .u8 x0)] H123 (fun v125 H126 =>
 ∃ n127 n128 n129 n130 : Int, v125 = (.agg #[(.int .u64 n127), (.int .u64 n128), (.int .u64 n129), (.int .u64 n130)]) ∧ ptr x2 fun q132 =>
 wr q132 [(.int .u64 n127), (.int .u64 n128), (.int .u64 n129), (.int .u64 n130)] H126 fun H131 =>
 ptr x2 fun q133 =>
 ∃ n134 n135 n136 n137 : Int, Heap.rd H131 q133 0 [(.int .u64 n134), (.int .u64 n135), (.int .u64 n136), (.int .u64 n137)] ∧ Q (.tuple #[(.agg #[(.int .u64 n134), (.int .u64 n135), (.int .u64 n136), (.int .u64 n137)]), (.bool true), (.bool true)]) H131) E)
 (zqq_1 Q E x2 H123)) E

def zqq_3_M  (τ : Tau) (H : Heap) : Prop := mI .u8 (τ 0) fun x0 => mP (τ 2) fun x2 => zqq_3 Q E x0 x2 H

theorem zqq_4ok  : Ok Pr (zqq_3_M Q E) (sA (sB zqq_p1)) (zqq_q2 Q E) E := fun τ H h =>
  wI 0 h (fun x0 h => wP 2 h (fun x2 h => (conv (by kernel_rfl) h)))

theorem zqq_5ok  : Ok Pr (zqq_3_M Q E) (sB zqq_p1) (zqq_q1 Q E) E := fun τ H h =>
  (conv (by kernel_rfl) (vc_seq (K := (zqq_1_M Q E)) (zqq_4ok Q E τ H h) (zqq_2ok Q E)))

noncomputable def zqq_q3  : XT := (xthen (zqq_3_M Q E) (zqq_q1 Q E))

def zqq_6 (Q : QT) (E : ET) (x0 : Int) (x2 : OA) (H : Heap) : Prop :=
 sel (x0 == 110)
 (Does Pr 108 #[(.agg #[(.int .u64 0), (.int .u64 0), (.int .u64 0), (.int .u64 0)]), (.int .u8 10)] H (fun v138 H139 =>
 ∃ n140 n141 n142 n143 : Int, v138 = (.agg #[(.int .u64 n140), (.int .u64 n141), (.int .u64 n142), (.int .u64 n143)]) ∧ ptr x2 fun q145 =>
 wr q145 [(.int .u64 n140), (.int .u64 n141), (.int .u64 n142), (.int .u64 n143)] H139 fun H144 =>
 ptr x2 fun q146 =>
 ∃ n147 n148 n149 n150 : Int, Heap.rd H144 q146 0 [(.int .u64 n147), (.int .u64 n148), (.int .u64 n149), (.int .u64 n150)] ∧ Q (.tuple #[(.agg #[(.int .u64 n147), (.int .u64 n148), (.int .u64 n149), (.int .u64 n150)]), (.bool true), (.bool true)]) H144) E)
 (sel (x0 == 116)
 (Does Pr 108 #[(.agg #[(.int .u64 0), (.int .u64 0), (.int .u64 0), (.int .u64 0)]), (.int .u8 9)] H (fun v151 H152 =>
 ∃ n153 n154 n155 n156 : Int, v151 = (.agg #[(.int .u64 n153), (.int .u64 n154), (.int .u64 n155), (.int .u64 n156)]) ∧ ptr x2 fun q158 =>
 wr q158 [(.int .u64 n153), (.int .u64 n154), (.int .u64 n155), (.int .u64 n156)] H152 fun H157 =>
 ptr x2 fun q159 =>
 ∃ n160 n161 n162 n163 : Int, Heap.rd H157 q159 0 [(.int .u64 n160), (.int .u64 n161), (.int .u64 n162), (.int .u64 n163)] ∧ Q (.tuple #[(.agg #[(.int .u64 n160), (.int .u64 n161), (.int .u64 n162), (.int .u64 n163)]), (.bool true), (.bool true)]) H157) E)
 (sel (x0 == 114)
 (Does Pr 108 #[(.agg #[(.int .u64 0), (.int .u64 0), (.int .u64 0), (.int .u64 0)]), (.int .u8 13)] H (fun v164 H165 =>
 ∃ n166 n167 n168 n169 : Int, v164 = (.agg #[(.int .u64 n166), (.int .u64 n167), (.int .u64 n168), (.int .u64 n169)]) ∧ ptr x2 fun q171 =>
 wr q171 [(.int .u64 n166), (.int .u64 n167), (.int .u64 n168), (.int .u64 n169)] H165 fun H170 =>
 ptr x2 fun q172 =>
 ∃ n173 n174 n175 n176 : Int, Heap.rd H170 q172 0 [(.int .u64 n173), (.int .u64 n174), (.int .u64 n175), (.int .u64 n176)] ∧ Q (.tuple #[(.agg #[(.int .u64 n173), (.int .u64 n174), (.int .u64 n175), (.int .u64 n176)]), (.bool true), (.bool true)]) H170) E)
 (sel (x0 == 100)
 (Does Pr 122 #[(.int .i64 48), (.int .i64 57)] H (fun v177 H178 =>
 ∃ n179 n180 n181 n182 : Int, v177 = (.agg #[(.int .u64 n179), (.int .u64 n180), (.int .u64 n181), (.int .u64 n182)]) ∧ ptr x2 fun q184 =>
 wr q184 [(.int .u64 n179), (.int .u64 n180), (.int .u64 n181), (.int .u64 n182)] H178 fun H183 =>
 ptr x2 fun q185 =>
 ∃ n186 n187 n188 n189 : Int, Heap.rd H183 q185 0 [(.int .u64 n186), (.int .u64 n187), (.int .u64 n188), (.int .u64 n189)] ∧ Q (.tuple #[(.agg #[(.int .u64 n186), (.int .u64 n187), (.int .u64 n188), (.int .u64 n189)]), (.bool false), (.bool true)]) H183) E)
 (sel (x0 == 119)
 (Does Pr 122 #[(.int .i64 97), (.int .i64 122)] H (fun v190 H191 =>
 ∃ n192 n193 n194 n195 : Int, v190 = (.agg #[(.int .u64 n192), (.int .u64 n193), (.int .u64 n194), (.int .u64 n195)]) ∧ Does Pr 122 #[(.int .i64 65), (.int .i64 90)] H191 (fun v196 H197 =>
 ∃ n198 n199 n200 n201 : Int, v196 = (.agg #[(.int .u64 n198), (.int .u64 n199), (.int .u64 n200), (.int .u64 n201)]) ∧ Does Pr 117 #[(.agg #[(.int .u64 n192), (.int .u64 n193), (.int .u64 n194), (.int .u64 n195)]), (.agg #[(.int .u64 n198), (.int .u64 n199), (.int .u64 n200), (.int .u64 n201)])] H197 (fun v202 H203 =>
 ∃ n204 n205 n206 n207 : Int, v202 = (.agg #[(.int .u64 n204), (.int .u64 n205), (.int .u64 n206), (.int .u64 n207)]) ∧ Does Pr 122 #[(.int .i64 48), (.int .i64 57)] H203 (fun v208 H209 =>
 ∃ n210 n211 n212 n213 : Int, v208 = (.agg #[(.int .u64 n210), (.int .u64 n211), (.int .u64 n212), (.int .u64 n213)]) ∧ Does Pr 108 #[(.agg #[(.int .u64 0), (.int .u64 0), (.int .u64 0), (.int .u64 0)]), (.int .u8 95)] H209 (fun v214 H215 =>
 ∃ n216 n217 n218 n219 : Int, v214 = (.agg #[(.int .u64 n216), (.int .u64 n217), (.int .u64 n218), (.int .u64 n219)]) ∧ Does Pr 117 #[(.agg #[(.int .u64 n210), (.int .u64 n211), (.int .u64 n212), (.int .u64 n213)]), (.agg #[(.int .u64 n216), (.int .u64 n217), (.int .u64 n218), (.int .u64 n219)])] H215 (fun v220 H221 =>
 ∃ n222 n223 n224 n225 : Int, v220 = (.agg #[(.int .u64 n222), (.int .u64 n223), (.int .u64 n224), (.int .u64 n225)]) ∧ Does Pr 117 #[(.agg #[(.int .u64 n204), (.int .u64 n205), (.int .u64 n206), (.int .u64 n207)]), (.agg #[(.int .u64 n222), (.int .u64 n223), (.int .u64 n224), (.int .u64 n225)])] H221 (fun v226 H227 =>
 ∃ n228 n229 n230 n231 : Int, v226 = (.agg #[(.int .u64 n228), (.int .u64 n229), (.int .u64 n230), (.int .u64 n231)]) ∧ ptr x2 fun q233 =>
 wr q233 [(.int .u64 n228), (.int .u64 n229), (.int .u64 n230), (.int .u64 n231)] H227 fun H232 =>
 ptr x2 fun q234 =>
 ∃ n235 n236 n237 n238 : Int, Heap.rd H232 q234 0 [(.int .u64 n235), (.int .u64 n236), (.int .u64 n237), (.int .u64 n238)] ∧ Q (.tuple #[(.agg #[(.int .u64 n235), (.int .u64 n236), (.int .u64 n237), (.int .u64 n238)]), (.bool false), (.bool true)]) H232) E) E) E) E) E) E) E)
 (sel (x0 == 115)
 (Does Pr 108 #[(.agg #[(.int .u64 0), (.int .u64 0), (.int .u64 0), (.int .u64 0)]), (.int .u8 32)] H (fun v239 H240 =>
 ∃ n241 n242 n243 n244 : Int, v239 = (.agg #[(.int .u64 n241), (.int .u64 n242), (.int .u64 n243), (.int .u64 n244)]) ∧ Does Pr 122 #[(.int .i64 9), (.int .i64 10)] H240 (fun v245 H246 =>
 ∃ n247 n248 n249 n250 : Int, v245 = (.agg #[(.int .u64 n247), (.int .u64 n248), (.int .u64 n249), (.int .u64 n250)]) ∧ Does Pr 117 #[(.agg #[(.int .u64 n241), (.int .u64 n242), (.int .u64 n243), (.int .u64 n244)]), (.agg #[(.int .u64 n247), (.int .u64 n248), (.int .u64 n249), (.int .u64 n250)])] H246 (fun v251 H252 =>
 ∃ n253 n254 n255 n256 : Int, v251 = (.agg #[(.int .u64 n253), (.int .u64 n254), (.int .u64 n255), (.int .u64 n256)]) ∧ Does Pr 108 #[(.agg #[(.int .u64 0), (.int .u64 0), (.int .u64 0), (.int .u64 0)]), (.int .u8 13)] H252 (fun v257 H258 =>
 ∃ n259 n260 n261 n262 : Int, v257 = (.agg #[(.int .u64 n259), (.int .u64 n260), (.int .u64 n261), (.int .u64 n262)]) ∧ Does Pr 117 #[(.agg #[(.int .u64 n253), (.int .u64 n254), (.int .u64 n255), (.int .u64 n256)]), (.agg #[(.int .u64 n259), (.int .u64 n260), (.int .u64 n261), (.int .u64 n262)])] H258 (fun v263 H264 =>
 ∃ n265 n266 n267 n268 : Int, v263 = (.agg #[(.int .u64 n265), (.int .u64 n266), (.int .u64 n267), (.int .u64 n268)]) ∧ ptr x2 fun q270 =>
 wr q270 [(.int .u64 n265), (.int .u64 n266), (.int .u64 n267), (.int .u64 n268)] H264 fun H269 =>
 ptr x2 fun q271 =>
 ∃ n272 n273 n274 n275 : Int, Heap.rd H269 q271 0 [(.int .u64 n272), (.int .u64 n273), (.int .u64 n274), (.int .u64 n275)] ∧ Q (.tuple #[(.agg #[(.int .u64 n272), (.int .u64 n273), (.int .u64 n274), (.int .u64 n275)]), (.bool false), (.bool true)]) H269) E) E) E) E) E)
 (zqq_3 Q E x0 x2 H))))))

def zqq_6_M  (τ : Tau) (H : Heap) : Prop := mI .u8 (τ 0) fun x0 => mP (τ 2) fun x2 => zqq_6 Q E x0 x2 H

theorem zqq_7ok  : Ok Pr (zqq_6_M Q E) (sA zqq_p1) (zqq_q3 Q E) E := fun τ H h =>
  wI 0 h (fun x0 h => wP 2 h (fun x2 h => (conv (by kernel_rfl) h)))

theorem zqq_8ok  : Ok Pr (zqq_6_M Q E) zqq_p1 (zqq_q1 Q E) E := fun τ H h =>
  (conv (by kernel_rfl) (vc_seq (K := (zqq_3_M Q E)) (zqq_7ok Q E τ H h) (zqq_5ok Q E)))

def zqq (Q : QT) (E : ET) (a0 : Int) (H : Heap) : Prop :=
 nw (.cells #[(.int .u64 0), (.int .u64 0), (.int .u64 0), (.int .u64 0)] 46 (0, 0)) H fun i276 H277 =>
 zqq_6 Q E a0 (some ⟨i276, 0, none⟩) H277

theorem zqq_fn (a0 : Int) (Q : QT) (E : ET) (H : Heap) (h : zqq Q E a0 H)   : Does Pr 116 #[(.int .u8 a0)] H Q E :=
  Fn_of_vc (fn := Try.f116) (c := (bodyOf Try.f116)) (args := [(.int .u8 a0)]) mixed (by kernel_rfl) (by kernel_rfl) (by kernel_rfl) (by kernel_rfl) (by kernel_rfl) ((conv (B := vc Pr (bodyOf Try.f116) (argT [(.int .u8 a0)]) (zqq_q1 Q E) E H) (by kernel_rfl) (vc_seq (K := (zqq_6_M Q E)) (conv (B := vc Pr (sA (bodyOf Try.f116)) (argT [(.int .u8 a0)]) (xthen (zqq_6_M Q E) (zqq_q1 Q E)) E H) (by kernel_rfl) h) (zqq_8ok Q E))))

/-! jobmux/jobmuxref08.Union -/
noncomputable def zqr_q1 (Q : QT) (E : ET)  : XT := (retQ Pr (Try.f117).results.toList Q)

noncomputable def zqr_p1 : Code := sB (bodyOf Try.f117)

def zqr_1 (Q : QT) (E : ET) (x2 x4 : OA) (H : Heap) : Prop :=
 ptr x2 fun q10 =>
 ∃ n11 n12 n13 n14 : Int, Heap.rd H q10 0 [(.int .u64 n11), (.int .u64 n12), (.int .u64 n13), (.int .u64 n14)] ∧ ptr x4 fun q16 =>
 wr q16 [(.int .u64 n11), (.int .u64 n12), (.int .u64 n13), (.int .u64 n14)] H fun H15 =>
 ptr x4 fun q17 =>
 ∃ n18 n19 n20 n21 : Int, Heap.rd H15 q17 0 [(.int .u64 n18), (.int .u64 n19), (.int .u64 n20), (.int .u64 n21)] ∧ Q (.agg #[(.int .u64 n18), (.int .u64 n19), (.int .u64 n20), (.int .u64 n21)]) H15

def zqr_1_M  (τ : Tau) (H : Heap) : Prop := mP (τ 2) fun x2 => mP (τ 4) fun x4 => zqr_1 Q E x2 x4 H

theorem zqr_2ok  : Ok Pr (zqr_1_M Q E) (sB zqr_p1) (zqr_q1 Q E) E := fun τ H h =>
  wP 2 h (fun x2 h => wP 4 h (fun x4 h => (conv (by kernel_rfl) h)))

noncomputable def zqr_q2  : XT := (xthen (zqr_1_M Q E) (zqr_q1 Q E))

noncomputable def zqr_p5 : Code := sI (sB (sA zqr_p1))

noncomputable def zqr_q4 (nx22 : Int → HP) : XT := (xthen (fun τ H => mI .i64 (τ 5) fun x5' => nx22 x5' H) (xblock 0 (zqr_q2 Q E)))

def zqr_3 (nx22 : Int → HP) (Q : QT) (E : ET) (x2 x3 x4 : OA) (x5 : Int) (H : Heap) : Prop :=
 ptr x2 fun q23 =>
 (0 ≤ x5 ∧ x5 < ((4 : Nat) : Int)) ∧ ldI .u64 (Addr.add q23 (x5.toNat * 1)) H fun n24 =>
 ptr x3 fun q25 =>
 (0 ≤ x5 ∧ x5 < ((4 : Nat) : Int)) ∧ ldI .u64 (Addr.add q25 (x5.toNat * 1)) H fun n26 =>
 ptr x2 fun q27 =>
 (0 ≤ x5 ∧ x5 < ((4 : Nat) : Int)) ∧ wr (Addr.add q27 (x5.toNat * 1)) [(.int .u64 (IntKind.wrap .u64 (BitVec.ofInt (IntKind.bits .u64) n24 ||| BitVec.ofInt (IntKind.bits .u64) n26).toNat))] H fun H28 =>
 nx22 (IntKind.wrap .i64 (x5 + 1)) H28

def zqr_3_M (nx22 : Int → HP) (τ : Tau) (H : Heap) : Prop := mP (τ 2) fun x2 => mP (τ 3) fun x3 => mP (τ 4) fun x4 => mI .i64 (τ 5) fun x5 => zqr_3 nx22 Q E x2 x3 x4 x5 H

theorem zqr_4ok (nx22 : Int → HP) : Ok Pr (zqr_3_M Q E nx22) (sB (sI zqr_p5)) (zqr_q4 Q E nx22) E := fun τ H h =>
  wP 2 h (fun x2 h => wP 3 h (fun x3 h => wP 4 h (fun x4 h => wI 5 h (fun x5 h => (conv (by kernel_rfl) h)))))

noncomputable def zqr_q5 (nx22 : Int → HP) : XT := (xthen (zqr_3_M Q E nx22) (zqr_q4 Q E nx22))

def zqr_5 (nx22 : Int → HP) (Q : QT) (E : ET) (x2 x3 x4 : OA) (x5 : Int) (H : Heap) : Prop :=
 sel (decide (x5 < 4))
 (zqr_3 nx22 Q E x2 x3 x4 x5 H)
 (zqr_1 Q E x2 x4 H)

def zqr_5_M (nx22 : Int → HP) (τ : Tau) (H : Heap) : Prop := mP (τ 2) fun x2 => mP (τ 3) fun x3 => mP (τ 4) fun x4 => mI .i64 (τ 5) fun x5 => zqr_5 nx22 Q E x2 x3 x4 x5 H

theorem zqr_6ok (nx22 : Int → HP) : Ok Pr (zqr_5_M Q E nx22) (sA (sI zqr_p5)) (zqr_q5 Q E nx22) E := fun τ H h =>
  wP 2 h (fun x2 h => wP 3 h (fun x3 h => wP 4 h (fun x4 h => wI 5 h (fun x5 h => (conv (by kernel_rfl) h)))))

theorem zqr_7ok (nx22 : Int → HP) : Ok Pr (zqr_5_M Q E nx22) (sI zqr_p5) (zqr_q4 Q E nx22) E := fun τ H h =>
  (conv (by kernel_rfl) (vc_seq (K := (zqr_3_M Q E nx22)) (zqr_6ok Q E nx22 τ H h) (zqr_4ok Q E nx22)))

def zqr_8 (Q : QT) (E : ET) (x2 x3 x4 : OA) (x5 : Int) (H : Heap) : Prop :=
 ∃ (I : Int → HP) (μ : Int → Heap → Nat), I x5 H ∧ ∀ (x5 : Int) (H : Heap), I x5 H →
 zqr_5 (fun x5' H1 => I x5' H1 ∧ μ x5' H1 < μ x5 H) Q E x2 x3 x4 x5 H

def zqr_8_M  (τ : Tau) (H : Heap) : Prop := mP (τ 2) fun x2 => mP (τ 3) fun x3 => mP (τ 4) fun x4 => mI .i64 (τ 5) fun x5 => zqr_8 Q E x2 x3 x4 x5 H

theorem zqr_9ok  : Ok Pr (zqr_8_M Q E) zqr_p5 (xblock 0 (zqr_q2 Q E)) E := fun τ H h =>
  wP 2 h (fun x2 h => wP 3 h (fun x3 h => wP 4 h (fun x4 h => wI 5 h (fun x5 h => match h with | ⟨I, μ, h0, hr⟩ => (conv (by kernel_rfl) (vc_loopG (c := sI zqr_p5) (τ := (Tau.upd (Tau.upd (Tau.upd (Tau.upd τ 2 (.pointer x2)) 3 (.pointer x3)) 4 (.pointer x4)) 5 (.int .i64 x5))) [2, 3, 4] (fun τ H => mI .i64 (τ 5) fun x5' => I x5' H) (fun τ H => μ (gI (τ 5)) H) (by kernel_rfl) h0 (fun τ1 H1 hf hI => uF 2 (.pointer x2) (hf 2 (by simp)) (uF 3 (.pointer x3) (hf 3 (by simp)) (uF 4 (.pointer x4) (hf 4 (by simp)) (uI 5 hI (fun x5r h => lgx (zqr_7ok Q E (fun x5' H2 => I x5' H2 ∧ μ x5' H2 < μ x5r H1) (Tau.upd (Tau.upd (Tau.upd (Tau.upd τ1 2 (.pointer x2)) 3 (.pointer x3)) 4 (.pointer x4)) 5 (.int .i64 x5r)) H1 (conv (by kernel_rfl) (hr x5r H1 h))) (fun τ2 H2 hk => kI 5 hk (fun x5' h => conv (by kernel_rfl) h)))))))))))))

theorem zqr_10ok  : Ok Pr (zqr_8_M Q E) (sB (sA zqr_p1)) (zqr_q2 Q E) E := fun τ H h =>
  (conv (by kernel_rfl) (zqr_9ok Q E τ H h))

noncomputable def zqr_q6  : XT := (xthen (zqr_8_M Q E) (zqr_q2 Q E))

def zqr_11 (Q : QT) (E : ET) (x2 x3 x4 : OA) (H : Heap) : Prop :=
 zqr_8 Q E x2 x3 x4 0 H

def zqr_11_M  (τ : Tau) (H : Heap) : Prop := mP (τ 2) fun x2 => mP (τ 3) fun x3 => mP (τ 4) fun x4 => zqr_11 Q E x2 x3 x4 H

theorem zqr_12ok  : Ok Pr (zqr_11_M Q E) (sA (sA zqr_p1)) (zqr_q6 Q E) E := fun τ H h =>
  wP 2 h (fun x2 h => wP 3 h (fun x3 h => wP 4 h (fun x4 h => (conv (by kernel_rfl) h))))

theorem zqr_13ok  : Ok Pr (zqr_11_M Q E) (sA zqr_p1) (zqr_q2 Q E) E := fun τ H h =>
  (conv (by kernel_rfl) (vc_seq (K := (zqr_8_M Q E)) (zqr_12ok Q E τ H h) (zqr_10ok Q E)))

theorem zqr_14ok  : Ok Pr (zqr_11_M Q E) zqr_p1 (zqr_q1 Q E) E := fun τ H h =>
  (conv (by kernel_rfl) (vc_seq (K := (zqr_1_M Q E)) (zqr_13ok Q E τ H h) (zqr_2ok Q E)))

def zqr (Q : QT) (E : ET) (a0_0 : Int) (a0_1 : Int) (a0_2 : Int) (a0_3 : Int) (a1_0 : Int) (a1_1 : Int) (a1_2 : Int) (a1_3 : Int) (H : Heap) : Prop :=
 nw (.cells #[(.int .u64 a0_0), (.int .u64 a0_1), (.int .u64 a0_2), (.int .u64 a0_3)] 46 (0, 0)) H fun i29 H30 =>
 nw (.cells #[(.int .u64 a1_0), (.int .u64 a1_1), (.int .u64 a1_2), (.int .u64 a1_3)] 46 (0, 0)) H30 fun i31 H32 =>
 nw (.cells #[(.int .u64 0), (.int .u64 0), (.int .u64 0), (.int .u64 0)] 46 (0, 0)) H32 fun i33 H34 =>
 zqr_11 Q E (some ⟨i29, 0, none⟩) (some ⟨i31, 0, none⟩) (some ⟨i33, 0, none⟩) H34

theorem zqr_fn (a0_0 : Int) (a0_1 : Int) (a0_2 : Int) (a0_3 : Int) (a1_0 : Int) (a1_1 : Int) (a1_2 : Int) (a1_3 : Int) (Q : QT) (E : ET) (H : Heap) (h : zqr Q E a0_0 a0_1 a0_2 a0_3 a1_0 a1_1 a1_2 a1_3 H)   : Does Pr 117 #[(.agg #[(.int .u64 a0_0), (.int .u64 a0_1), (.int .u64 a0_2), (.int .u64 a0_3)]), (.agg #[(.int .u64 a1_0), (.int .u64 a1_1), (.int .u64 a1_2), (.int .u64 a1_3)])] H Q E :=
  Fn_of_vc (fn := Try.f117) (c := (bodyOf Try.f117)) (args := [(.agg #[(.int .u64 a0_0), (.int .u64 a0_1), (.int .u64 a0_2), (.int .u64 a0_3)]), (.agg #[(.int .u64 a1_0), (.int .u64 a1_1), (.int .u64 a1_2), (.int .u64 a1_3)])]) mixed (by kernel_rfl) (by kernel_rfl) (by kernel_rfl) (by kernel_rfl) (by kernel_rfl) ((conv (B := vc Pr (bodyOf Try.f117) (argT [(.agg #[(.int .u64 a0_0), (.int .u64 a0_1), (.int .u64 a0_2), (.int .u64 a0_3)]), (.agg #[(.int .u64 a1_0), (.int .u64 a1_1), (.int .u64 a1_2), (.int .u64 a1_3)])]) (zqr_q1 Q E) E H) (by kernel_rfl) (vc_seq (K := (zqr_11_M Q E)) (conv (B := vc Pr (sA (bodyOf Try.f117)) (argT [(.agg #[(.int .u64 a0_0), (.int .u64 a0_1), (.int .u64 a0_2), (.int .u64 a0_3)]), (.agg #[(.int .u64 a1_0), (.int .u64 a1_1), (.int .u64 a1_2), (.int .u64 a1_3)])]) (xthen (zqr_11_M Q E) (zqr_q1 Q E)) E H) (by kernel_rfl) h) (zqr_14ok Q E))))

/-! (*jobmux/jobmuxref08.parser).element -/
noncomputable def zqs_q1 (Q : QT) (E : ET)  : XT := (retQ Pr (Try.f118).results.toList Q)

noncomputable def zqs_p2 : Code := sB (sB (bodyOf Try.f118))

noncomputable def zqs_p4 : Code := sB (sB zqs_p2)

noncomputable def zqs_p6 : Code := sB (sB zqs_p4)

def zqs_1 (Q : QT) (E : ET) (x2 x3 x5 : OA) (H : Heap) : Prop :=
 ∃ Z69 : Nat → Prop,
 ptr x3 fun q70 =>
 ∃ n71 n72 n73 n74 : Int, Heap.rd H q70 0 [(.int .u64 n71), (.int .u64 n72), (.int .u64 n73), (.int .u64 n74)] ∧ (ptr x5 fun ad => Z69 (Addr.block ad)) ∧ ptr x5 fun q75 =>
 ∃ n76 n77 n78 n79 : Int, Heap.rd H q75 0 [(.int .u64 n76), (.int .u64 n77), (.int .u64 n78), (.int .u64 n79)] ∧ Does Pr 125 #[(.agg #[(.int .u64 n71), (.int .u64 n72), (.int .u64 n73), (.int .u64 n74)])] H (fun v80 H81 =>
 ∃ n82 : Int, v80 = (.int .i64 n82) ∧ (∀ z, Z69 z → H z ≠ none → H81 z = H z) ∧ Does Pr 125 #[(.agg #[(.int .u64 n76), (.int .u64 n77), (.int .u64 n78), (.int .u64 n79)])] H81 (fun v83 H84 =>
 ∃ n85 : Int, v83 = (.int .i64 n85) ∧ Does Pr 122 #[(.int .i64 n82), (.int .i64 n85)] H84 (fun v86 H87 =>
 ∃ n88 n89 n90 n91 : Int, v86 = (.agg #[(.int .u64 n88), (.int .u64 n89), (.int .u64 n90), (.int .u64 n91)]) ∧ ptr x2 fun q93 =>
 wr q93 [(.int .u64 n88), (.int .u64 n89), (.int .u64 n90), (.int .u64 n91)] H87 fun H92 =>
 ptr x2 fun q94 =>
 ∃ n95 n96 n97 n98 : Int, Heap.rd H92 q94 0 [(.int .u64 n95), (.int .u64 n96), (.int .u64 n97), (.int .u64 n98)] ∧ Q (.agg #[(.int .u64 n95), (.int .u64 n96), (.int .u64 n97), (.int .u64 n98)]) H92) (fun _ _ => False)) (fun _ _ => False)) (fun _ _ => False)

def zqs_1_M  (τ : Tau) (H : Heap) : Prop := mP (τ 2) fun x2 => mP (τ 3) fun x3 => mP (τ 5) fun x5 => zqs_1 Q E x2 x3 x5 H

theorem zqs_2ok  : Ok Pr (zqs_1_M Q E) (sB zqs_p6) (zqs_q1 Q E) E := fun τ H h =>
  wP 2 h (fun x2 h => wP 3 h (fun x3 h => wP 5 h (fun x5 h => (conv (by kernel_rfl) h))))

noncomputable def zqs_q2  : XT := (xthen (zqs_1_M Q E) (zqs_q1 Q E))

def zqs_3 (Q : QT) (E : ET) (x0 x2 x3 x5 : OA) (x72 : Bool) (H : Heap) : Prop :=
 sel x72
 (Does Pr 57 #[(.pointer x0), (.int .i64 80)] H (fun v116 H117 =>
 zqs_1 Q E x2 x3 x5 H117) E)
 (zqs_1 Q E x2 x3 x5 H)

def zqs_3_M  (τ : Tau) (H : Heap) : Prop := mP (τ 0) fun x0 => mP (τ 2) fun x2 => mP (τ 3) fun x3 => mP (τ 5) fun x5 => mB (τ 72) fun x72 => zqs_3 Q E x0 x2 x3 x5 x72 H

theorem zqs_4ok  : Ok Pr (zqs_3_M Q E) (sB (sA zqs_p6)) (zqs_q2 Q E) E := fun τ H h =>
  wP 0 h (fun x0 h => wP 2 h (fun x2 h => wP 3 h (fun x3 h => wP 5 h (fun x5 h => wB 72 h (fun x72 h => (conv (by kernel_rfl) h))))))

noncomputable def zqs_q3  : XT := (xthen (zqs_3_M Q E) (zqs_q2 Q E))

def zqs_5 (Q : QT) (E : ET) (x0 x2 x3 x5 : OA) (x6 : Bool) (H : Heap) : Prop :=
 ∃ Z118 : Nat → Prop,
 ptr x0 fun q119 =>
 ldI .i64 (Addr.add q119 3) H fun n120 =>
 sel (n120 == 0)
 (sel (!x6)
 (zqs_3 Q E x0 x2 x3 x5 true H)
 (ptr x3 fun q121 =>
 ∃ n122 n123 n124 n125 : Int, Heap.rd H q121 0 [(.int .u64 n122), (.int .u64 n123), (.int .u64 n124), (.int .u64 n125)] ∧ (ptr x5 fun ad => Z118 (Addr.block ad)) ∧ ptr x5 fun q126 =>
 ∃ n127 n128 n129 n130 : Int, Heap.rd H q126 0 [(.int .u64 n127), (.int .u64 n128), (.int .u64 n129), (.int .u64 n130)] ∧ Does Pr 125 #[(.agg #[(.int .u64 n122), (.int .u64 n123), (.int .u64 n124), (.int .u64 n125)])] H (fun v131 H132 =>
 ∃ n133 : Int, v131 = (.int .i64 n133) ∧ (∀ z, Z118 z → H z ≠ none → H132 z = H z) ∧ Does Pr 125 #[(.agg #[(.int .u64 n127), (.int .u64 n128), (.int .u64 n129), (.int .u64 n130)])] H132 (fun v134 H135 =>
 ∃ n136 : Int, v134 = (.int .i64 n136) ∧ zqs_3 Q E x0 x2 x3 x5 (decide (n133 > n136)) H135) (fun _ _ => False)) (fun _ _ => False)))
 (zqs_3 Q E x0 x2 x3 x5 false H)

def zqs_5_M  (τ : Tau) (H : Heap) : Prop := mP (τ 0) fun x0 => mP (τ 2) fun x2 => mP (τ 3) fun x3 => mP (τ 5) fun x5 => mB (τ 6) fun x6 => zqs_5 Q E x0 x2 x3 x5 x6 H

theorem zqs_6ok  : Ok Pr (zqs_5_M Q E) (sA (sA zqs_p6)) (zqs_q3 Q E) E := fun τ H h =>
  wP 0 h (fun x0 h => wP 2 h (fun x2 h => wP 3 h (fun x3 h => wP 5 h (fun x5 h => wB 6 h (fun x6 h => (conv (by kernel_rfl) h))))))

theorem zqs_7ok  : Ok Pr (zqs_5_M Q E) (sA zqs_p6) (zqs_q2 Q E) E := fun τ H h =>
  (conv (by kernel_rfl) (vc_seq (K := (zqs_3_M Q E)) (zqs_6ok Q E τ H h) (zqs_4ok Q E)))

theorem zqs_8ok  : Ok Pr (zqs_5_M Q E) zqs_p6 (zqs_q1 Q E) E := fun τ H h =>
  (conv (by kernel_rfl) (vc_seq (K := (zqs_1_M Q E)) (zqs_7ok Q E τ H h) (zqs_2ok Q E)))

noncomputable def zqs_q4  : XT := (xthen (zqs_5_M Q E) (zqs_q1 Q E))

def zqs_9 (Q : QT) (E : ET) (x0 x2 x3 : OA) (H : Heap) : Prop :=
 Does Pr 124 #[(.pointer x0)] H (fun v137 H138 =>
 ∃ n139 n140 n141 n142 : Int, ∃ b143 : Bool, v137 = (.tuple #[(.agg #[(.int .u64 n139), (.int .u64 n140), (.int .u64 n141), (.int .u64 n142)]), (.bool b143)]) ∧ nw (.cells #[(.int .u64 0), (.int .u64 0), (.int .u64 0), (.int .u64 0)] 46 (0, 0)) H138 fun i144 H145 =>
 wr ⟨i144, 0, none⟩ [(.int .u64 n139), (.int .u64 n140), (.int .u64 n141), (.int .u64 n142)] H145 fun H146 =>
 zqs_5 Q E x0 x2 x3 (some ⟨i144, 0, none⟩) b143 H146) E

def zqs_9_M  (τ : Tau) (H : Heap) : Prop := mP (τ 0) fun x0 => mP (τ 2) fun x2 => mP (τ 3) fun x3 => zqs_9 Q E x0 x2 x3 H

theorem zqs_10ok  : Ok Pr (zqs_9_M Q E) (sA (sB zqs_p4)) (zqs_q4 Q E) E := fun τ H h =>
  wP 0 h (fun x0 h => wP 2 h (fun x2 h => wP 3 h (fun x3 h => (conv (by kernel_rfl) h))))

theorem zqs_11ok  : Ok Pr (zqs_9_M Q E) (sB zqs_p4) (zqs_q1 Q E) E := fun τ H h =>
  (conv (by kernel_rfl) (vc_seq (K := (zqs_5_M Q E)) (zqs_10ok Q E τ H h) (zqs_8ok Q E)))

noncomputable def zqs_q5  : XT := (xthen (zqs_9_M Q E) (zqs_q1 Q E))

def zqs_12 (Q : QT) (E : ET) (x0 x2 x3 : OA) (x48 : Bool) (H : Heap) : Prop :=
 sel x48
 (Does Pr 57 #[(.pointer x0), (.int .i64 80)] H (fun v151 H152 =>
 ptr x3 fun q153 =>
 ∃ n154 n155 n156 n157 : Int, Heap.rd H152 q153 0 [(.int .u64 n154), (.int .u64 n155), (.int .u64 n156), (.int .u64 n157)] ∧ ptr x2 fun q159 =>
 wr q159 [(.int .u64 n154), (.int .u64 n155), (.int .u64 n156), (.int .u64 n157)] H152 fun H158 =>
 ptr x2 fun q160 =>
 ∃ n161 n162 n163 n164 : Int, Heap.rd H158 q160 0 [(.int .u64 n161), (.int .u64 n162), (.int .u64 n163), (.int .u64 n164)] ∧ Q (.agg #[(.int .u64 n161), (.int .u64 n162), (.int .u64 n163), (.int .u64 n164)]) H158) E)
 (zqs_9 Q E x0 x2 x3 H)

def zqs_12_M  (τ : Tau) (H : Heap) : Prop := mP (τ 0) fun x0 => mP (τ 2) fun x2 => mP (τ 3) fun x3 => mB (τ 48) fun x48 => zqs_12 Q E x0 x2 x3 x48 H

theorem zqs_13ok  : Ok Pr (zqs_12_M Q E) (sB (sA zqs_p4)) (zqs_q5 Q E) E := fun τ H h =>
  wP 0 h (fun x0 h => wP 2 h (fun x2 h => wP 3 h (fun x3 h => wB 48 h (fun x48 h => (conv (by kernel_rfl) h)))))

noncomputable def zqs_q6  : XT := (xthen (zqs_12_M Q E) (zqs_q5 Q E))

def zqs_14 (Q : QT) (E : ET) (x0 x2 x3 : OA) (x4 : Bool) (H : Heap) : Prop :=
 sel (!x4)
 (zqs_12 Q E x0 x2 x3 true H)
 (ptr x0 fun q165 =>
 ldI .i64 (Addr.add q165 1) H fun n166 =>
 ptr x0 fun q167 =>
 ldS q167 H fun s168 =>
 zqs_12 Q E x0 x2 x3 (decide (n166 ≥ ((ByteArray.size s168 : Nat) : Int))) H)

def zqs_14_M  (τ : Tau) (H : Heap) : Prop := mP (τ 0) fun x0 => mP (τ 2) fun x2 => mP (τ 3) fun x3 => mB (τ 4) fun x4 => zqs_14 Q E x0 x2 x3 x4 H

theorem zqs_15ok  : Ok Pr (zqs_14_M Q E) (sA (sA zqs_p4)) (zqs_q6 Q E) E := fun τ H h =>
  wP 0 h (fun x0 h => wP 2 h (fun x2 h => wP 3 h (fun x3 h => wB 4 h (fun x4 h => (conv (by kernel_rfl) h)))))

theorem zqs_16ok  : Ok Pr (zqs_14_M Q E) (sA zqs_p4) (zqs_q5 Q E) E := fun τ H h =>
  (conv (by kernel_rfl) (vc_seq (K := (zqs_12_M Q E)) (zqs_15ok Q E τ H h) (zqs_13ok Q E)))

theorem zqs_17ok  : Ok Pr (zqs_14_M Q E) zqs_p4 (zqs_q1 Q E) E := fun τ H h =>
  (conv (by kernel_rfl) (vc_seq (K := (zqs_9_M Q E)) (zqs_16ok Q E τ H h) (zqs_11ok Q E)))

noncomputable def zqs_q7  : XT := (xthen (zqs_14_M Q E) (zqs_q1 Q E))

def zqs_18 (Q : QT) (E : ET) (x0 x2 x3 : OA) (x4 : Bool) (H : Heap) : Prop :=
 ptr x0 fun q169 =>
 ldI .i64 (Addr.add q169 1) H fun n170 =>
 ptr x0 fun q171 =>
 wr (Addr.add q171 1) [(.int .i64 (IntKind.wrap .i64 (n170 + 1)))] H fun H172 =>
 zqs_14 Q E x0 x2 x3 x4 H172

def zqs_18_M  (τ : Tau) (H : Heap) : Prop := mP (τ 0) fun x0 => mP (τ 2) fun x2 => mP (τ 3) fun x3 => mB (τ 4) fun x4 => zqs_18 Q E x0 x2 x3 x4 H

theorem zqs_19ok  : Ok Pr (zqs_18_M Q E) (sA (sB zqs_p2)) (zqs_q7 Q E) E := fun τ H h =>
  wP 0 h (fun x0 h => wP 2 h (fun x2 h => wP 3 h (fun x3 h => wB 4 h (fun x4 h => (conv (by kernel_rfl) h)))))

theorem zqs_20ok  : Ok Pr (zqs_18_M Q E) (sB zqs_p2) (zqs_q1 Q E) E := fun τ H h =>
  (conv (by kernel_rfl) (vc_seq (K := (zqs_14_M Q E)) (zqs_19ok Q E τ H h) (zqs_17ok Q E)))

noncomputable def zqs_q8  : XT := (xthen (zqs_18_M Q E) (zqs_q1 Q E))

def zqs_21 (Q : QT) (E : ET) (x0 x2 x3 : OA) (x4 x26 : Bool) (H : Heap) : Prop :=
 sel x26
 (ptr x3 fun q180 =>
 ∃ n181 n182 n183 n184 : Int, Heap.rd H q180 0 [(.int .u64 n181), (.int .u64 n182), (.int .u64 n183), (.int .u64 n184)] ∧ ptr x2 fun q186 =>
 wr q186 [(.int .u64 n181), (.int .u64 n182), (.int .u64 n183), (.int .u64 n184)] H fun H185 =>
 ptr x2 fun q187 =>
 ∃ n188 n189 n190 n191 : Int, Heap.rd H185 q187 0 [(.int .u64 n188), (.int .u64 n189), (.int .u64 n190), (.int .u64 n191)] ∧ Q (.agg #[(.int .u64 n188), (.int .u64 n189), (.int .u64 n190), (.int .u64 n191)]) H185)
 (zqs_18 Q E x0 x2 x3 x4 H)

def zqs_21_M  (τ : Tau) (H : Heap) : Prop := mP (τ 0) fun x0 => mP (τ 2) fun x2 => mP (τ 3) fun x3 => mB (τ 4) fun x4 => mB (τ 26) fun x26 => zqs_21 Q E x0 x2 x3 x4 x26 H

theorem zqs_22ok  : Ok Pr (zqs_21_M Q E) (sB (sA zqs_p2)) (zqs_q8 Q E) E := fun τ H h =>
  wP 0 h (fun x0 h => wP 2 h (fun x2 h => wP 3 h (fun x3 h => wB 4 h (fun x4 h => wB 26 h (fun x26 h => (conv (by kernel_rfl) h))))))

noncomputable def zqs_q9  : XT := (xthen (zqs_21_M Q E) (zqs_q8 Q E))

def zqs_23 (Q : QT) (E : ET) (x0 x2 x3 : OA) (x4 : Bool) (H : Heap) : Prop :=
 Does Pr 90 #[(.pointer x0)] H (fun v192 H193 =>
 ∃ b194 : Bool, v192 = (.bool b194) ∧ sel (!b194)
 (zqs_21 Q E x0 x2 x3 x4 true H193)
 (ptr x0 fun q195 =>
 ldS q195 H193 fun s196 =>
 ptr x0 fun q197 =>
 ldI .i64 (Addr.add q197 1) H193 fun n198 =>
 (0 ≤ n198 ∧ n198 < ((ByteArray.size s196 : Nat) : Int)) ∧ zqs_21 Q E x0 x2 x3 x4 (((sAt s196 n198) : Int) != 45) H193)) (fun _ _ => False)

def zqs_23_M  (τ : Tau) (H : Heap) : Prop := mP (τ 0) fun x0 => mP (τ 2) fun x2 => mP (τ 3) fun x3 => mB (τ 4) fun x4 => zqs_23 Q E x0 x2 x3 x4 H

theorem zqs_24ok  : Ok Pr (zqs_23_M Q E) (sA (sA zqs_p2)) (zqs_q9 Q E) E := fun τ H h =>
  wP 0 h (fun x0 h => wP 2 h (fun x2 h => wP 3 h (fun x3 h => wB 4 h (fun x4 h => (conv (by kernel_rfl) h)))))

theorem zqs_25ok  : Ok Pr (zqs_23_M Q E) (sA zqs_p2) (zqs_q8 Q E) E := fun τ H h =>
  (conv (by kernel_rfl) (vc_seq (K := (zqs_21_M Q E)) (zqs_24ok Q E τ H h) (zqs_22ok Q E)))

theorem zqs_26ok  : Ok Pr (zqs_23_M Q E) zqs_p2 (zqs_q1 Q E) E := fun τ H h =>
  (conv (by kernel_rfl) (vc_seq (K := (zqs_18_M Q E)) (zqs_25ok Q E τ H h) (zqs_20ok Q E)))

noncomputable def zqs_q10  : XT := (xthen (zqs_23_M Q E) (zqs_q1 Q E))

def zqs_27 (Q : QT) (E : ET) (x0 x2 : OA) (H : Heap) : Prop :=
 Does Pr 124 #[(.pointer x0)] H (fun v199 H200 =>
 ∃ n201 n202 n203 n204 : Int, ∃ b205 : Bool, v199 = (.tuple #[(.agg #[(.int .u64 n201), (.int .u64 n202), (.int .u64 n203), (.int .u64 n204)]), (.bool b205)]) ∧ nw (.cells #[(.int .u64 0), (.int .u64 0), (.int .u64 0), (.int .u64 0)] 46 (0, 0)) H200 fun i206 H207 =>
 wr ⟨i206, 0, none⟩ [(.int .u64 n201), (.int .u64 n202), (.int .u64 n203), (.int .u64 n204)] H207 fun H208 =>
 zqs_23 Q E x0 x2 (some ⟨i206, 0, none⟩) b205 H208) E

def zqs_27_M  (τ : Tau) (H : Heap) : Prop := mP (τ 0) fun x0 => mP (τ 2) fun x2 => zqs_27 Q E x0 x2 H

theorem zqs_28ok  : Ok Pr (zqs_27_M Q E) (sA (sB (bodyOf Try.f118))) (zqs_q10 Q E) E := fun τ H h =>
  wP 0 h (fun x0 h => wP 2 h (fun x2 h => (conv (by kernel_rfl) h)))

theorem zqs_29ok  : Ok Pr (zqs_27_M Q E) (sB (bodyOf Try.f118)) (zqs_q1 Q E) E := fun τ H h =>
  (conv (by kernel_rfl) (vc_seq (K := (zqs_23_M Q E)) (zqs_28ok Q E τ H h) (zqs_26ok Q E)))

def zqs (Q : QT) (E : ET) (a0 : OA) (H : Heap) : Prop :=
 nw (.cells #[(.int .u64 0), (.int .u64 0), (.int .u64 0), (.int .u64 0)] 46 (0, 0)) H fun i209 H210 =>
 zqs_27 Q E a0 (some ⟨i209, 0, none⟩) H210

theorem zqs_fn (a0 : OA) (Q : QT) (E : ET) (H : Heap) (h : zqs Q E a0 H)   : Does Pr 118 #[(.pointer a0)] H Q E :=
  Fn_of_vc (fn := Try.f118) (c := (bodyOf Try.f118)) (args := [(.pointer a0)]) mixed (by kernel_rfl) (by kernel_rfl) (by kernel_rfl) (by kernel_rfl) (by kernel_rfl) ((conv (B := vc Pr (bodyOf Try.f118) (argT [(.pointer a0)]) (zqs_q1 Q E) E H) (by kernel_rfl) (vc_seq (K := (zqs_27_M Q E)) (conv (B := vc Pr (sA (bodyOf Try.f118)) (argT [(.pointer a0)]) (xthen (zqs_27_M Q E) (zqs_q1 Q E)) E H) (by kernel_rfl) h) (zqs_29ok Q E))))

end Go.Proofs.Ytaffcoiomggpfaa
