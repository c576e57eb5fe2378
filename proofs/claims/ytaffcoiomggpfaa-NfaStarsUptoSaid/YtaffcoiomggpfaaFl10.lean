import Derived.Test.YtaffcoiomggpfaaVPr
/- Printed by gen.py: the Go functions of package l10 over a heap view, and that the model does so. -/
namespace Go.Proofs.Ytaffcoiomggpfaa
open Go.V
set_option linter.unusedVariables false
set_option maxRecDepth 100000
variable (Q : QT) (E : ET)
/-! jobmux/jobmuxlaw10.NfaStars -/
noncomputable def zqv_q1 (Q : QT) (E : ET)  : XT := (retQ Pr (Try.f11).results.toList Q)

noncomputable def zqv_p3 : Code := sB (sB (sB (bodyOf Try.f11)))

noncomputable def zqv_p5 : Code := sB (sB zqv_p3)

noncomputable def zqv_p7 : Code := sB (sB zqv_p5)

noncomputable def zqv_p9 : Code := sB (sB zqv_p7)

def zqv_1 (Q : QT) (E : ET) (x1 : OA) (l1 c1 : Nat) (x8 : Int) (x11 : OA) (l11 c11 : Nat) (x12 : Int) (x13 : OA) (l13 c13 : Nat) (x14 : Int) (H : Heap) : Prop :=
 sel (x8 == 0)
 (sel (x12 == 0)
 (sel (x14 == 0)
 (Does Pr 35 #[(.slice x11 l11 c11), (.slice x1 l1 c1)] H (fun v34 H35 =>
 ∃ n36 : Int, v34 = (.int .i64 n36) ∧ Does Pr 35 #[(.slice x13 l13 c13), (.slice x1 l1 c1)] H35 (fun v37 H38 =>
 ∃ n39 : Int, v37 = (.int .i64 n39) ∧ Q (.bool (n36 == n39)) H38) E) E)
 (Q (.bool false) H))
 (Q (.bool false) H))
 (Q (.bool false) H)

def zqv_1_M  (τ : Tau) (H : Heap) : Prop := mSl (τ 1) fun x1 l1 c1 => mI .i64 (τ 8) fun x8 => mSl (τ 11) fun x11 l11 c11 => mI .i64 (τ 12) fun x12 => mSl (τ 13) fun x13 l13 c13 => mI .i64 (τ 14) fun x14 => zqv_1 Q E x1 l1 c1 x8 x11 l11 c11 x12 x13 l13 c13 x14 H

theorem zqv_2ok  : Ok Pr (zqv_1_M Q E) (sB zqv_p9) (zqv_q1 Q E) E := fun τ H h =>
  wSl 1 h (fun x1 l1 c1 h => wI 8 h (fun x8 h => wSl 11 h (fun x11 l11 c11 h => wI 12 h (fun x12 h => wSl 13 h (fun x13 l13 c13 h => wI 14 h (fun x14 h => (conv (by kernel_rfl) h)))))))

noncomputable def zqv_q2  : XT := (xthen (zqv_1_M Q E) (zqv_q1 Q E))

def zqv_3 (Q : QT) (E : ET) (x0 : Int) (x1 : OA) (l1 c1 : Nat) (x8 : Int) (x11 : OA) (l11 c11 : Nat) (x12 : Int) (x13 : OA) (l13 c13 : Nat) (x14 : Int) (H : Heap) : Prop :=
 Does Pr 22 #[(.int .i64 x0), (.int .i64 100)] H (fun v40 H41 =>
 ∃ n42 : Int, v40 = (.int .i64 n42) ∧ sel (n42 == 0)
 (sel (x8 == 0)
 (Q (.bool (x12 == 0)) H41)
 (Q (.bool false) H41))
 (zqv_1 Q E x1 l1 c1 x8 x11 l11 c11 x12 x13 l13 c13 x14 H41)) E

def zqv_3_M  (τ : Tau) (H : Heap) : Prop := mI .i64 (τ 0) fun x0 => mSl (τ 1) fun x1 l1 c1 => mI .i64 (τ 8) fun x8 => mSl (τ 11) fun x11 l11 c11 => mI .i64 (τ 12) fun x12 => mSl (τ 13) fun x13 l13 c13 => mI .i64 (τ 14) fun x14 => zqv_3 Q E x0 x1 l1 c1 x8 x11 l11 c11 x12 x13 l13 c13 x14 H

theorem zqv_4ok  : Ok Pr (zqv_3_M Q E) (sA zqv_p9) (zqv_q2 Q E) E := fun τ H h =>
  wI 0 h (fun x0 h => wSl 1 h (fun x1 l1 c1 h => wI 8 h (fun x8 h => wSl 11 h (fun x11 l11 c11 h => wI 12 h (fun x12 h => wSl 13 h (fun x13 l13 c13 h => wI 14 h (fun x14 h => (conv (by kernel_rfl) h))))))))

theorem zqv_5ok  : Ok Pr (zqv_3_M Q E) zqv_p9 (zqv_q1 Q E) E := fun τ H h =>
  (conv (by kernel_rfl) (vc_seq (K := (zqv_1_M Q E)) (zqv_4ok Q E τ H h) (zqv_2ok Q E)))

noncomputable def zqv_q3  : XT := (xthen (zqv_3_M Q E) (zqv_q1 Q E))

def zqv_6 (Q : QT) (E : ET) (x0 : Int) (x1 : OA) (l1 c1 : Nat) (x8 : Int) (x9 : OA) (l9 c9 : Nat) (x11 : OA) (l11 c11 : Nat) (x12 : Int) (H : Heap) : Prop :=
 Does Pr 33 #[(.slice x9 l9 c9)] H (fun v43 H44 =>
 ∃ (p45 : OA) (l46 c47 : Nat), ∃ n48 : Int, v43 = (.tuple #[(.slice p45 l46 c47), (.int .i64 n48)]) ∧ zqv_3 Q E x0 x1 l1 c1 x8 x11 l11 c11 x12 p45 l46 c47 n48 H44) E

def zqv_6_M  (τ : Tau) (H : Heap) : Prop := mI .i64 (τ 0) fun x0 => mSl (τ 1) fun x1 l1 c1 => mI .i64 (τ 8) fun x8 => mSl (τ 9) fun x9 l9 c9 => mSl (τ 11) fun x11 l11 c11 => mI .i64 (τ 12) fun x12 => zqv_6 Q E x0 x1 l1 c1 x8 x9 l9 c9 x11 l11 c11 x12 H

theorem zqv_7ok  : Ok Pr (zqv_6_M Q E) (sA (sB zqv_p7)) (zqv_q3 Q E) E := fun τ H h =>
  wI 0 h (fun x0 h => wSl 1 h (fun x1 l1 c1 h => wI 8 h (fun x8 h => wSl 9 h (fun x9 l9 c9 h => wSl 11 h (fun x11 l11 c11 h => wI 12 h (fun x12 h => (conv (by kernel_rfl) h)))))))

theorem zqv_8ok  : Ok Pr (zqv_6_M Q E) (sB zqv_p7) (zqv_q1 Q E) E := fun τ H h =>
  (conv (by kernel_rfl) (vc_seq (K := (zqv_3_M Q E)) (zqv_7ok Q E τ H h) (zqv_5ok Q E)))

noncomputable def zqv_q4  : XT := (xthen (zqv_6_M Q E) (zqv_q1 Q E))

def zqv_9 (Q : QT) (E : ET) (x0 : Int) (x1 : OA) (l1 c1 : Nat) (x7 : OA) (l7 c7 : Nat) (x8 : Int) (x9 : OA) (l9 c9 : Nat) (H : Heap) : Prop :=
 Does Pr 33 #[(.slice x7 l7 c7)] H (fun v49 H50 =>
 ∃ (p51 : OA) (l52 c53 : Nat), ∃ n54 : Int, v49 = (.tuple #[(.slice p51 l52 c53), (.int .i64 n54)]) ∧ zqv_6 Q E x0 x1 l1 c1 x8 x9 l9 c9 p51 l52 c53 n54 H50) E

def zqv_9_M  (τ : Tau) (H : Heap) : Prop := mI .i64 (τ 0) fun x0 => mSl (τ 1) fun x1 l1 c1 => mSl (τ 7) fun x7 l7 c7 => mI .i64 (τ 8) fun x8 => mSl (τ 9) fun x9 l9 c9 => zqv_9 Q E x0 x1 l1 c1 x7 l7 c7 x8 x9 l9 c9 H

theorem zqv_10ok  : Ok Pr (zqv_9_M Q E) (sA zqv_p7) (zqv_q4 Q E) E := fun τ H h =>
  wI 0 h (fun x0 h => wSl 1 h (fun x1 l1 c1 h => wSl 7 h (fun x7 l7 c7 h => wI 8 h (fun x8 h => wSl 9 h (fun x9 l9 c9 h => (conv (by kernel_rfl) h))))))

theorem zqv_11ok  : Ok Pr (zqv_9_M Q E) zqv_p7 (zqv_q1 Q E) E := fun τ H h =>
  (conv (by kernel_rfl) (vc_seq (K := (zqv_6_M Q E)) (zqv_10ok Q E τ H h) (zqv_8ok Q E)))

noncomputable def zqv_q5  : XT := (xthen (zqv_9_M Q E) (zqv_q1 Q E))

def zqv_12 (Q : QT) (E : ET) (x0 : Int) (x1 : OA) (l1 c1 : Nat) (x7 : OA) (l7 c7 : Nat) (x8 : Int) (H : Heap) : Prop :=
 Does Pr 23 #[(.string ⟨[40, 97, 124, 98, 41, 42, 99].toArray⟩)] H (fun v55 H56 =>
 ∃ (p57 : OA) (l58 c59 : Nat), ∃ n60 : Int, v55 = (.tuple #[(.slice p57 l58 c59), (.int .i64 n60)]) ∧ zqv_9 Q E x0 x1 l1 c1 x7 l7 c7 x8 p57 l58 c59 H56) E

def zqv_12_M  (τ : Tau) (H : Heap) : Prop := mI .i64 (τ 0) fun x0 => mSl (τ 1) fun x1 l1 c1 => mSl (τ 7) fun x7 l7 c7 => mI .i64 (τ 8) fun x8 => zqv_12 Q E x0 x1 l1 c1 x7 l7 c7 x8 H

theorem zqv_13ok  : Ok Pr (zqv_12_M Q E) (sA (sB zqv_p5)) (zqv_q5 Q E) E := fun τ H h =>
  wI 0 h (fun x0 h => wSl 1 h (fun x1 l1 c1 h => wSl 7 h (fun x7 l7 c7 h => wI 8 h (fun x8 h => (conv (by kernel_rfl) h)))))

theorem zqv_14ok  : Ok Pr (zqv_12_M Q E) (sB zqv_p5) (zqv_q1 Q E) E := fun τ H h =>
  (conv (by kernel_rfl) (vc_seq (K := (zqv_9_M Q E)) (zqv_13ok Q E τ H h) (zqv_11ok Q E)))

noncomputable def zqv_q6  : XT := (xthen (zqv_12_M Q E) (zqv_q1 Q E))

def zqv_15 (Q : QT) (E : ET) (x0 : Int) (x1 : OA) (l1 c1 : Nat) (x5 : ByteArray) (H : Heap) : Prop :=
 (((x5 : ByteArray).size + (⟨[99].toArray⟩ : ByteArray).size : Nat) : Int) ≤ 9223372036854775807 ∧ Does Pr 23 #[(.string (x5 ++ ⟨[99].toArray⟩))] H (fun v61 H62 =>
 ∃ (p63 : OA) (l64 c65 : Nat), ∃ n66 : Int, v61 = (.tuple #[(.slice p63 l64 c65), (.int .i64 n66)]) ∧ zqv_12 Q E x0 x1 l1 c1 p63 l64 c65 n66 H62) E

def zqv_15_M  (τ : Tau) (H : Heap) : Prop := mI .i64 (τ 0) fun x0 => mSl (τ 1) fun x1 l1 c1 => mS (τ 5) fun x5 => zqv_15 Q E x0 x1 l1 c1 x5 H

theorem zqv_16ok  : Ok Pr (zqv_15_M Q E) (sA zqv_p5) (zqv_q6 Q E) E := fun τ H h =>
  wI 0 h (fun x0 h => wSl 1 h (fun x1 l1 c1 h => wS 5 h (fun x5 h => (conv (by kernel_rfl) h))))

theorem zqv_17ok  : Ok Pr (zqv_15_M Q E) zqv_p5 (zqv_q1 Q E) E := fun τ H h =>
  (conv (by kernel_rfl) (vc_seq (K := (zqv_12_M Q E)) (zqv_16ok Q E τ H h) (zqv_14ok Q E)))

noncomputable def zqv_q7  : XT := (xthen (zqv_15_M Q E) (zqv_q1 Q E))

noncomputable def zqv_p18 : Code := sI (sB (sA (sB zqv_p3)))

noncomputable def zqv_q9 (nx70 : ByteArray → Int → HP) : XT := (xthen (fun τ H => mS (τ 5) fun x5' => mI .i64 (τ 6) fun x6' => nx70 x5' x6' H) (xblock 0 (zqv_q7 Q E)))

def zqv_18 (nx70 : ByteArray → Int → HP) (Q : QT) (E : ET) (x0 : Int) (x1 : OA) (l1 c1 : Nat) (x5 : ByteArray) (x6 : Int) (H : Heap) : Prop :=
 (((x5 : ByteArray).size + (⟨[42].toArray⟩ : ByteArray).size : Nat) : Int) ≤ 9223372036854775807 ∧ nx70 (x5 ++ ⟨[42].toArray⟩) (IntKind.wrap .i64 (x6 - 1)) H

def zqv_18_M (nx70 : ByteArray → Int → HP) (τ : Tau) (H : Heap) : Prop := mI .i64 (τ 0) fun x0 => mSl (τ 1) fun x1 l1 c1 => mS (τ 5) fun x5 => mI .i64 (τ 6) fun x6 => zqv_18 nx70 Q E x0 x1 l1 c1 x5 x6 H

theorem zqv_19ok (nx70 : ByteArray → Int → HP) : Ok Pr (zqv_18_M Q E nx70) (sB (sI zqv_p18)) (zqv_q9 Q E nx70) E := fun τ H h =>
  wI 0 h (fun x0 h => wSl 1 h (fun x1 l1 c1 h => wS 5 h (fun x5 h => wI 6 h (fun x6 h => (conv (by kernel_rfl) h)))))

noncomputable def zqv_q10 (nx70 : ByteArray → Int → HP) : XT := (xthen (zqv_18_M Q E nx70) (zqv_q9 Q E nx70))

def zqv_20 (nx70 : ByteArray → Int → HP) (Q : QT) (E : ET) (x0 : Int) (x1 : OA) (l1 c1 : Nat) (x5 : ByteArray) (x6 : Int) (H : Heap) : Prop :=
 sel (decide (x6 > 0))
 (zqv_18 nx70 Q E x0 x1 l1 c1 x5 x6 H)
 (zqv_15 Q E x0 x1 l1 c1 x5 H)

def zqv_20_M (nx70 : ByteArray → Int → HP) (τ : Tau) (H : Heap) : Prop := mI .i64 (τ 0) fun x0 => mSl (τ 1) fun x1 l1 c1 => mS (τ 5) fun x5 => mI .i64 (τ 6) fun x6 => zqv_20 nx70 Q E x0 x1 l1 c1 x5 x6 H

theorem zqv_21ok (nx70 : ByteArray → Int → HP) : Ok Pr (zqv_20_M Q E nx70) (sA (sI zqv_p18)) (zqv_q10 Q E nx70) E := fun τ H h =>
  wI 0 h (fun x0 h => wSl 1 h (fun x1 l1 c1 h => wS 5 h (fun x5 h => wI 6 h (fun x6 h => (conv (by kernel_rfl) h)))))

theorem zqv_22ok (nx70 : ByteArray → Int → HP) : Ok Pr (zqv_20_M Q E nx70) (sI zqv_p18) (zqv_q9 Q E nx70) E := fun τ H h =>
  (conv (by kernel_rfl) (vc_seq (K := (zqv_18_M Q E nx70)) (zqv_21ok Q E nx70 τ H h) (zqv_19ok Q E nx70)))

def zqv_23 (Q : QT) (E : ET) (x0 : Int) (x1 : OA) (l1 c1 : Nat) (x5 : ByteArray) (x6 : Int) (H : Heap) : Prop :=
 ∃ (I : ByteArray → Int → HP) (μ : ByteArray → Int → Heap → Nat), I x5 x6 H ∧ ∀ (x5 : ByteArray) (x6 : Int) (H : Heap), I x5 x6 H →
 zqv_20 (fun x5' x6' H1 => I x5' x6' H1 ∧ μ x5' x6' H1 < μ x5 x6 H) Q E x0 x1 l1 c1 x5 x6 H

def zqv_23_M  (τ : Tau) (H : Heap) : Prop := mI .i64 (τ 0) fun x0 => mSl (τ 1) fun x1 l1 c1 => mS (τ 5) fun x5 => mI .i64 (τ 6) fun x6 => zqv_23 Q E x0 x1 l1 c1 x5 x6 H

theorem zqv_24ok  : Ok Pr (zqv_23_M Q E) zqv_p18 (xblock 0 (zqv_q7 Q E)) E := fun τ H h =>
  wI 0 h (fun x0 h => wSl 1 h (fun x1 l1 c1 h => wS 5 h (fun x5 h => wI 6 h (fun x6 h => match h with | ⟨I, μ, h0, hr⟩ => (conv (by kernel_rfl) (vc_loopG (c := sI zqv_p18) (τ := (Tau.upd (Tau.upd (Tau.upd (Tau.upd τ 0 (.int .i64 x0)) 1 (.slice x1 l1 c1)) 5 (.string x5)) 6 (.int .i64 x6))) [0, 1] (fun τ H => mS (τ 5) fun x5' => mI .i64 (τ 6) fun x6' => I x5' x6' H) (fun τ H => μ (gS (τ 5)) (gI (τ 6)) H) (by kernel_rfl) h0 (fun τ1 H1 hf hI => uF 0 (.int .i64 x0) (hf 0 (by simp)) (uF 1 (.slice x1 l1 c1) (hf 1 (by simp)) (uS 5 hI (fun x5r h => uI 6 h (fun x6r h => lgx (zqv_22ok Q E (fun x5' x6' H2 => I x5' x6' H2 ∧ μ x5' x6' H2 < μ x5r x6r H1) (Tau.upd (Tau.upd (Tau.upd (Tau.upd τ1 0 (.int .i64 x0)) 1 (.slice x1 l1 c1)) 5 (.string x5r)) 6 (.int .i64 x6r)) H1 (conv (by kernel_rfl) (hr x5r x6r H1 h))) (fun τ2 H2 hk => kS 5 hk (fun x5' h => kI 6 h (fun x6' h => conv (by kernel_rfl) h))))))))))))))

theorem zqv_25ok  : Ok Pr (zqv_23_M Q E) (sB (sA (sB zqv_p3))) (zqv_q7 Q E) E := fun τ H h =>
  (conv (by kernel_rfl) (zqv_24ok Q E τ H h))

noncomputable def zqv_q11  : XT := (xthen (zqv_23_M Q E) (zqv_q7 Q E))

def zqv_26 (Q : QT) (E : ET) (x0 : Int) (x1 : OA) (l1 c1 : Nat) (x5 : ByteArray) (H : Heap) : Prop :=
 Does Pr 22 #[(.int .i64 x0), (.int .i64 100)] H (fun v71 H72 =>
 ∃ n73 : Int, v71 = (.int .i64 n73) ∧ zqv_23 Q E x0 x1 l1 c1 x5 n73 H72) E

def zqv_26_M  (τ : Tau) (H : Heap) : Prop := mI .i64 (τ 0) fun x0 => mSl (τ 1) fun x1 l1 c1 => mS (τ 5) fun x5 => zqv_26 Q E x0 x1 l1 c1 x5 H

theorem zqv_27ok  : Ok Pr (zqv_26_M Q E) (sA (sA (sB zqv_p3))) (zqv_q11 Q E) E := fun τ H h =>
  wI 0 h (fun x0 h => wSl 1 h (fun x1 l1 c1 h => wS 5 h (fun x5 h => (conv (by kernel_rfl) h))))

theorem zqv_28ok  : Ok Pr (zqv_26_M Q E) (sA (sB zqv_p3)) (zqv_q7 Q E) E := fun τ H h =>
  (conv (by kernel_rfl) (vc_seq (K := (zqv_23_M Q E)) (zqv_27ok Q E τ H h) (zqv_25ok Q E)))

theorem zqv_29ok  : Ok Pr (zqv_26_M Q E) (sB zqv_p3) (zqv_q1 Q E) E := fun τ H h =>
  (conv (by kernel_rfl) (vc_seq (K := (zqv_15_M Q E)) (zqv_28ok Q E τ H h) (zqv_17ok Q E)))

noncomputable def zqv_q12  : XT := (xthen (zqv_26_M Q E) (zqv_q1 Q E))

def zqv_30 (Q : QT) (E : ET) (x0 : Int) (x1 : OA) (l1 c1 : Nat) (H : Heap) : Prop :=
 zqv_26 Q E x0 x1 l1 c1 (⟨[40, 97, 124, 98, 42, 41].toArray⟩) H

def zqv_30_M  (τ : Tau) (H : Heap) : Prop := mI .i64 (τ 0) fun x0 => mSl (τ 1) fun x1 l1 c1 => zqv_30 Q E x0 x1 l1 c1 H

theorem zqv_31ok  : Ok Pr (zqv_30_M Q E) (sA zqv_p3) (zqv_q12 Q E) E := fun τ H h =>
  wI 0 h (fun x0 h => wSl 1 h (fun x1 l1 c1 h => (conv (by kernel_rfl) h)))

theorem zqv_32ok  : Ok Pr (zqv_30_M Q E) zqv_p3 (zqv_q1 Q E) E := fun τ H h =>
  (conv (by kernel_rfl) (vc_seq (K := (zqv_26_M Q E)) (zqv_31ok Q E τ H h) (zqv_29ok Q E)))

noncomputable def zqv_q13  : XT := (xthen (zqv_30_M Q E) (zqv_q1 Q E))

def zqv_33 (Q : QT) (E : ET) (x0 : Int) (x1 : OA) (l1 c1 : Nat) (H : Heap) : Prop :=
 sel (decide (((l1 : Int) : Int) > 30))
 (Q (.bool true) H)
 (zqv_30 Q E x0 x1 l1 c1 H)

def zqv_33_M  (τ : Tau) (H : Heap) : Prop := mI .i64 (τ 0) fun x0 => mSl (τ 1) fun x1 l1 c1 => zqv_33 Q E x0 x1 l1 c1 H

theorem zqv_34ok  : Ok Pr (zqv_33_M Q E) (sA (sB (sB (bodyOf Try.f11)))) (zqv_q13 Q E) E := fun τ H h =>
  wI 0 h (fun x0 h => wSl 1 h (fun x1 l1 c1 h => (conv (by kernel_rfl) h)))

theorem zqv_35ok  : Ok Pr (zqv_33_M Q E) (sB (sB (bodyOf Try.f11))) (zqv_q1 Q E) E := fun τ H h =>
  (conv (by kernel_rfl) (vc_seq (K := (zqv_30_M Q E)) (zqv_34ok Q E τ H h) (zqv_32ok Q E)))

noncomputable def zqv_q14  : XT := (xthen (zqv_33_M Q E) (zqv_q1 Q E))

def zqv_36 (Q : QT) (E : ET) (x0 : Int) (x1 : OA) (l1 c1 : Nat) (H : Heap) : Prop :=
 Does Pr 31 #[] H (fun v74 H75 =>
 ∃ b76 : Bool, v74 = (.bool b76) ∧ sel (!b76)
 (Q (.bool false) H75)
 (zqv_33 Q E x0 x1 l1 c1 H75)) E

def zqv_36_M  (τ : Tau) (H : Heap) : Prop := mI .i64 (τ 0) fun x0 => mSl (τ 1) fun x1 l1 c1 => zqv_36 Q E x0 x1 l1 c1 H

theorem zqv_37ok  : Ok Pr (zqv_36_M Q E) (sA (sB (bodyOf Try.f11))) (zqv_q14 Q E) E := fun τ H h =>
  wI 0 h (fun x0 h => wSl 1 h (fun x1 l1 c1 h => (conv (by kernel_rfl) h)))

theorem zqv_38ok  : Ok Pr (zqv_36_M Q E) (sB (bodyOf Try.f11)) (zqv_q1 Q E) E := fun τ H h =>
  (conv (by kernel_rfl) (vc_seq (K := (zqv_33_M Q E)) (zqv_37ok Q E τ H h) (zqv_35ok Q E)))

def zqv (Q : QT) (E : ET) (a0 : Int) (a1 : OA) (a1l : Nat) (a1c : Nat) (H : Heap) : Prop :=
 zqv_36 Q E a0 a1 a1l a1c H

theorem zqv_fn (a0 : Int) (a1 : OA) (a1l : Nat) (a1c : Nat) (Q : QT) (E : ET) (H : Heap) (h : zqv Q E a0 a1 a1l a1c H)   : Does Pr 11 #[(.int .i64 a0), (.slice a1 a1l a1c)] H Q E :=
  Fn_of_vc (fn := Try.f11) (c := (bodyOf Try.f11)) (args := [(.int .i64 a0), (.slice a1 a1l a1c)]) mixed (by kernel_rfl) (by kernel_rfl) (by kernel_rfl) (by kernel_rfl) (by kernel_rfl) ((conv (B := vc Pr (bodyOf Try.f11) (argT [(.int .i64 a0), (.slice a1 a1l a1c)]) (zqv_q1 Q E) E H) (by kernel_rfl) (vc_seq (K := (zqv_36_M Q E)) (conv (B := vc Pr (sA (bodyOf Try.f11)) (argT [(.int .i64 a0), (.slice a1 a1l a1c)]) (xthen (zqv_36_M Q E) (zqv_q1 Q E)) E H) (by kernel_rfl) h) (zqv_38ok Q E))))

/-! jobmux/jobmuxlaw10.sane -/
noncomputable def zqw_q1 (Q : QT) (E : ET)  : XT := (retQ Pr (Try.f31).results.toList Q)

def zqw (Q : QT) (E : ET)  (H : Heap) : Prop :=
 Does Pr 23 #[(.string ⟨[97, 98, 124, 99].toArray⟩)] H (fun v1 H2 =>
 ∃ (p3 : OA) (l4 c5 : Nat), ∃ n6 : Int, v1 = (.tuple #[(.slice p3 l4 c5), (.int .i64 n6)]) ∧ Does Pr 23 #[(.string ⟨[97, 94, 98].toArray⟩)] H2 (fun v7 H8 =>
 ∃ (p9 : OA) (l10 c11 : Nat), ∃ n12 : Int, v7 = (.tuple #[(.slice p9 l10 c11), (.int .i64 n12)]) ∧ Does Pr 33 #[(.slice p3 l4 c5)] H8 (fun v13 H14 =>
 ∃ (p15 : OA) (l16 c17 : Nat), ∃ n18 : Int, v13 = (.tuple #[(.slice p15 l16 c17), (.int .i64 n18)]) ∧ Does Pr 33 #[(.slice p9 l10 c11)] H14 (fun v19 H20 =>
 ∃ (p21 : OA) (l22 c23 : Nat), ∃ n24 : Int, v19 = (.tuple #[(.slice p21 l22 c23), (.int .i64 n24)]) ∧ Does Pr 37 #[(.slice p15 l16 c17)] H20 (fun v25 H26 =>
 ∃ (p27 : OA) (l28 c29 : Nat), ∃ b30 : Bool, v25 = (.tuple #[(.slice p27 l28 c29), (.bool b30)]) ∧ Does Pr 37 #[(.slice p21 l22 c23)] H26 (fun v31 H32 =>
 ∃ (p33 : OA) (l34 c35 : Nat), ∃ b36 : Bool, v31 = (.tuple #[(.slice p33 l34 c35), (.bool b36)]) ∧ sel (n18 == 0)
 (sel (n24 == 0)
 (sel b30
 (∃ bs37 : List UInt8, bs37.length = l28 ∧ Heap.rdS H32 p27 (bs37.map byteV) ∧ sel (ByteArray.toList (⟨bs37.toArray⟩ : ByteArray) == ByteArray.toList ⟨[99].toArray⟩)
 (sel (!b36)
 (nw (.cells #[(.int .u8 120), (.int .u8 97), (.int .u8 98)] 5 (0, 0)) H32 fun i38 H39 =>
 ∃ (cs40 : Array Value) (t41 : TypeId), H39 i38 = some (.cells cs40 t41 (0, 0)) ∧ (fun H42 =>
 Does Pr 35 #[(.slice p15 l16 c17), (.slice (some ⟨i38, 0, none⟩) 3 3)] H42 (fun v43 H44 =>
 ∃ n45 : Int, v43 = (.int .i64 n45) ∧ Q (.bool (n45 == 3)) H44) E) (Heap.set H39 i38 (.cells cs40 t41 (cs40.size, cs40.size + 1))))
 (Q (.bool false) H32))
 (Q (.bool false) H32))
 (Q (.bool false) H32))
 (Q (.bool false) H32))
 (Q (.bool false) H32)) E) E) E) E) E) E

theorem zqw_fn  (Q : QT) (E : ET) (H : Heap) (h : zqw Q E  H)   : Does Pr 31 #[] H Q E :=
  Fn_of_vc (fn := Try.f31) (c := (bodyOf Try.f31)) (args := []) mixed (by kernel_rfl) (by kernel_rfl) (by kernel_rfl) (by kernel_rfl) (by kernel_rfl) ((conv (B := vc Pr (bodyOf Try.f31) (argT []) (zqw_q1 Q E) E H) (by kernel_rfl) h))

end Go.Proofs.Ytaffcoiomggpfaa
