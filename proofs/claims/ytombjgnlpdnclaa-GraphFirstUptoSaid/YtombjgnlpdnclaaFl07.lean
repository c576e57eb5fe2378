import Derived.Test.YtombjgnlpdnclaaVPr
/- Printed by gen.py: the Go functions of package l07 over a heap view, and that the model does so. -/
namespace Go.Proofs.Ytombjgnlpdnclaa
open Go.V
set_option linter.unusedVariables false
set_option maxRecDepth 100000
variable (Q : QT) (E : ET)
/-! jobmux/jobmuxlaw07.GraphFirst -/
noncomputable def l07_GraphFirst_q1 (Q : QT) (E : ET)  : XT := (retQ Pr (Try.f4).results.toList Q)

noncomputable def l07_GraphFirst_p4 : Code := sB (sB (sB (sB (bodyOf Try.f4))))

def l07_GraphFirst_1 (Q : QT) (E : ET)  (H : Heap) : Prop :=
 Q (.bool true) H

def l07_GraphFirst_1_M  (τ : Tau) (H : Heap) : Prop := l07_GraphFirst_1 Q E  H

theorem l07_GraphFirst_2ok  : Ok Pr (l07_GraphFirst_1_M Q E) (sB (sB l07_GraphFirst_p4)) (l07_GraphFirst_q1 Q E) E := fun τ H h =>
  (conv (by kernel_rfl) h)

noncomputable def l07_GraphFirst_q2  : XT := (xthen (l07_GraphFirst_1_M Q E) (l07_GraphFirst_q1 Q E))

noncomputable def l07_GraphFirst_p9 : Code := sI (sB (sA (sB l07_GraphFirst_p4)))

noncomputable def l07_GraphFirst_q4 (nx42 : Int → HP) : XT := (xthen (fun τ H => mI .i64 (τ 60) fun x60' => nx42 x60' H) (xblock 6 (l07_GraphFirst_q2 Q E)))

noncomputable def l07_GraphFirst_p12 : Code := sB (sB (sI l07_GraphFirst_p9))

def l07_GraphFirst_3 (nx42 : Int → HP) (Q : QT) (E : ET) (x3 : OA) (l3 c3 : Nat) (x4 : OA) (l4 c4 : Nat) (x59 x60 : Int) (H : Heap) : Prop :=
 nx42 (IntKind.wrap .i64 (x60 + 1)) H

def l07_GraphFirst_3_M (nx42 : Int → HP) (τ : Tau) (H : Heap) : Prop := mSl (τ 3) fun x3 l3 c3 => mSl (τ 4) fun x4 l4 c4 => mI .i64 (τ 59) fun x59 => mI .i64 (τ 60) fun x60 => l07_GraphFirst_3 nx42 Q E x3 l3 c3 x4 l4 c4 x59 x60 H

theorem l07_GraphFirst_4ok (nx42 : Int → HP) : Ok Pr (l07_GraphFirst_3_M Q E nx42) (sB l07_GraphFirst_p12) (l07_GraphFirst_q4 Q E nx42) E := fun τ H h =>
  wSl 3 h (fun x3 l3 c3 h => wSl 4 h (fun x4 l4 c4 h => wI 59 h (fun x59 h => wI 60 h (fun x60 h => (conv (by kernel_rfl) h)))))

noncomputable def l07_GraphFirst_q6 (nx42 : Int → HP) : XT := (xblock 7 (xthen (l07_GraphFirst_3_M Q E nx42) (l07_GraphFirst_q4 Q E nx42)))

noncomputable def l07_GraphFirst_p16 : Code := sB (sI (sA l07_GraphFirst_p12))

def l07_GraphFirst_5 (nx42 : Int → HP) (Q : QT) (E : ET) (x3 : OA) (l3 c3 : Nat) (x4 : OA) (l4 c4 : Nat) (x12 : Bool) (x59 x60 : Int) (H : Heap) : Prop :=
 sel x12
 (Q (.bool false) H)
 (l07_GraphFirst_3 nx42 Q E x3 l3 c3 x4 l4 c4 x59 x60 H)

def l07_GraphFirst_5_M (nx42 : Int → HP) (τ : Tau) (H : Heap) : Prop := mSl (τ 3) fun x3 l3 c3 => mSl (τ 4) fun x4 l4 c4 => mB (τ 12) fun x12 => mI .i64 (τ 59) fun x59 => mI .i64 (τ 60) fun x60 => l07_GraphFirst_5 nx42 Q E x3 l3 c3 x4 l4 c4 x12 x59 x60 H

theorem l07_GraphFirst_6ok (nx42 : Int → HP) : Ok Pr (l07_GraphFirst_5_M Q E nx42) (sB (sB l07_GraphFirst_p16)) (l07_GraphFirst_q6 Q E nx42) E := fun τ H h =>
  wSl 3 h (fun x3 l3 c3 h => wSl 4 h (fun x4 l4 c4 h => wB 12 h (fun x12 h => wI 59 h (fun x59 h => wI 60 h (fun x60 h => (conv (by kernel_rfl) h))))))

noncomputable def l07_GraphFirst_q7 (nx42 : Int → HP) : XT := (xthen (l07_GraphFirst_5_M Q E nx42) (l07_GraphFirst_q6 Q E nx42))

noncomputable def l07_GraphFirst_p19 : Code := sA (sB l07_GraphFirst_p16)

noncomputable def l07_GraphFirst_q9 (nx42 : Int → HP) (nx74 : Bool → Int → HP) : XT := (xthen (fun τ H => mB (τ 12) fun x12' => mI .i64 (τ 71) fun x71' => nx74 x12' x71' H) (xblock 8 (l07_GraphFirst_q7 Q E nx42)))

noncomputable def l07_GraphFirst_p22 : Code := sI (sI (sB l07_GraphFirst_p19))

noncomputable def l07_GraphFirst_p24 : Code := sB (sB l07_GraphFirst_p22)

def l07_GraphFirst_7 (nx42 : Int → HP) (nx74 : Bool → Int → HP) (Q : QT) (E : ET) (x3 : OA) (l3 c3 : Nat) (x4 : OA) (l4 c4 : Nat) (x12 : Bool) (x59 x60 : Int) (x69 : OA) (l69 c69 : Nat) (x70 x71 : Int) (H : Heap) : Prop :=
 nx74 x12 (IntKind.wrap .i64 (x71 + 1)) H

def l07_GraphFirst_7_M (nx42 : Int → HP) (nx74 : Bool → Int → HP) (τ : Tau) (H : Heap) : Prop := mSl (τ 3) fun x3 l3 c3 => mSl (τ 4) fun x4 l4 c4 => mB (τ 12) fun x12 => mI .i64 (τ 59) fun x59 => mI .i64 (τ 60) fun x60 => mSl (τ 69) fun x69 l69 c69 => mI .i64 (τ 70) fun x70 => mI .i64 (τ 71) fun x71 => l07_GraphFirst_7 nx42 nx74 Q E x3 l3 c3 x4 l4 c4 x12 x59 x60 x69 l69 c69 x70 x71 H

theorem l07_GraphFirst_8ok (nx42 : Int → HP) (nx74 : Bool → Int → HP) : Ok Pr (l07_GraphFirst_7_M Q E nx42 nx74) (sB l07_GraphFirst_p24) (l07_GraphFirst_q9 Q E nx42 nx74) E := fun τ H h =>
  wSl 3 h (fun x3 l3 c3 h => wSl 4 h (fun x4 l4 c4 h => wB 12 h (fun x12 h => wI 59 h (fun x59 h => wI 60 h (fun x60 h => wSl 69 h (fun x69 l69 c69 h => wI 70 h (fun x70 h => wI 71 h (fun x71 h => (conv (by kernel_rfl) h)))))))))

noncomputable def l07_GraphFirst_q10 (nx42 : Int → HP) (nx74 : Bool → Int → HP) : XT := (xthen (l07_GraphFirst_7_M Q E nx42 nx74) (l07_GraphFirst_q9 Q E nx42 nx74))

def l07_GraphFirst_9 (nx42 : Int → HP) (nx74 : Bool → Int → HP) (Q : QT) (E : ET) (x3 : OA) (l3 c3 : Nat) (x4 : OA) (l4 c4 : Nat) (x12 : Bool) (x59 x60 : Int) (x69 : OA) (l69 c69 : Nat) (x70 x71 : Int) (H : Heap) : Prop :=
 (0 ≤ x71 ∧ x71 < (l69 : Int)) ∧ ptr x69 fun q80 =>
 ldI .i64 (Addr.add q80 (x71.toNat * 1)) H fun n81 =>
 sel x12
 (Does Pr 11 #[(.slice x4 l4 c4), (.int .i64 n81)] H (fun v82 H83 =>
 ∃ b84 : Bool, v82 = (.bool b84) ∧ l07_GraphFirst_7 nx42 nx74 Q E x3 l3 c3 x4 l4 c4 b84 x59 x60 x69 l69 c69 x70 x71 H83) E)
 (l07_GraphFirst_7 nx42 nx74 Q E x3 l3 c3 x4 l4 c4 false x59 x60 x69 l69 c69 x70 x71 H)

def l07_GraphFirst_9_M (nx42 : Int → HP) (nx74 : Bool → Int → HP) (τ : Tau) (H : Heap) : Prop := mSl (τ 3) fun x3 l3 c3 => mSl (τ 4) fun x4 l4 c4 => mB (τ 12) fun x12 => mI .i64 (τ 59) fun x59 => mI .i64 (τ 60) fun x60 => mSl (τ 69) fun x69 l69 c69 => mI .i64 (τ 70) fun x70 => mI .i64 (τ 71) fun x71 => l07_GraphFirst_9 nx42 nx74 Q E x3 l3 c3 x4 l4 c4 x12 x59 x60 x69 l69 c69 x70 x71 H

theorem l07_GraphFirst_10ok (nx42 : Int → HP) (nx74 : Bool → Int → HP) : Ok Pr (l07_GraphFirst_9_M Q E nx42 nx74) (sA l07_GraphFirst_p24) (l07_GraphFirst_q10 Q E nx42 nx74) E := fun τ H h =>
  wSl 3 h (fun x3 l3 c3 h => wSl 4 h (fun x4 l4 c4 h => wB 12 h (fun x12 h => wI 59 h (fun x59 h => wI 60 h (fun x60 h => wSl 69 h (fun x69 l69 c69 h => wI 70 h (fun x70 h => wI 71 h (fun x71 h => (conv (by kernel_rfl) h)))))))))

theorem l07_GraphFirst_11ok (nx42 : Int → HP) (nx74 : Bool → Int → HP) : Ok Pr (l07_GraphFirst_9_M Q E nx42 nx74) l07_GraphFirst_p24 (l07_GraphFirst_q9 Q E nx42 nx74) E := fun τ H h =>
  (conv (by kernel_rfl) (vc_seq (K := (l07_GraphFirst_7_M Q E nx42 nx74)) (l07_GraphFirst_10ok Q E nx42 nx74 τ H h) (l07_GraphFirst_8ok Q E nx42 nx74)))

noncomputable def l07_GraphFirst_q11 (nx42 : Int → HP) (nx74 : Bool → Int → HP) : XT := (xthen (l07_GraphFirst_9_M Q E nx42 nx74) (l07_GraphFirst_q9 Q E nx42 nx74))

def l07_GraphFirst_12 (nx42 : Int → HP) (nx74 : Bool → Int → HP) (Q : QT) (E : ET) (x3 : OA) (l3 c3 : Nat) (x4 : OA) (l4 c4 : Nat) (x12 : Bool) (x59 x60 : Int) (x69 : OA) (l69 c69 : Nat) (x70 x71 : Int) (x72 : Bool) (H : Heap) : Prop :=
 sel x72
 (l07_GraphFirst_9 nx42 nx74 Q E x3 l3 c3 x4 l4 c4 x12 x59 x60 x69 l69 c69 x70 x71 H)
 (l07_GraphFirst_5 nx42 Q E x3 l3 c3 x4 l4 c4 x12 x59 x60 H)

def l07_GraphFirst_12_M (nx42 : Int → HP) (nx74 : Bool → Int → HP) (τ : Tau) (H : Heap) : Prop := mSl (τ 3) fun x3 l3 c3 => mSl (τ 4) fun x4 l4 c4 => mB (τ 12) fun x12 => mI .i64 (τ 59) fun x59 => mI .i64 (τ 60) fun x60 => mSl (τ 69) fun x69 l69 c69 => mI .i64 (τ 70) fun x70 => mI .i64 (τ 71) fun x71 => mB (τ 72) fun x72 => l07_GraphFirst_12 nx42 nx74 Q E x3 l3 c3 x4 l4 c4 x12 x59 x60 x69 l69 c69 x70 x71 x72 H

theorem l07_GraphFirst_13ok (nx42 : Int → HP) (nx74 : Bool → Int → HP) : Ok Pr (l07_GraphFirst_12_M Q E nx42 nx74) (sA (sB l07_GraphFirst_p22)) (l07_GraphFirst_q11 Q E nx42 nx74) E := fun τ H h =>
  wSl 3 h (fun x3 l3 c3 h => wSl 4 h (fun x4 l4 c4 h => wB 12 h (fun x12 h => wI 59 h (fun x59 h => wI 60 h (fun x60 h => wSl 69 h (fun x69 l69 c69 h => wI 70 h (fun x70 h => wI 71 h (fun x71 h => wB 72 h (fun x72 h => (conv (by kernel_rfl) h))))))))))

theorem l07_GraphFirst_14ok (nx42 : Int → HP) (nx74 : Bool → Int → HP) : Ok Pr (l07_GraphFirst_12_M Q E nx42 nx74) (sB l07_GraphFirst_p22) (l07_GraphFirst_q9 Q E nx42 nx74) E := fun τ H h =>
  (conv (by kernel_rfl) (vc_seq (K := (l07_GraphFirst_9_M Q E nx42 nx74)) (l07_GraphFirst_13ok Q E nx42 nx74 τ H h) (l07_GraphFirst_11ok Q E nx42 nx74)))

noncomputable def l07_GraphFirst_q12 (nx42 : Int → HP) (nx74 : Bool → Int → HP) : XT := (xthen (l07_GraphFirst_12_M Q E nx42 nx74) (l07_GraphFirst_q9 Q E nx42 nx74))

def l07_GraphFirst_15 (nx42 : Int → HP) (nx74 : Bool → Int → HP) (Q : QT) (E : ET) (x3 : OA) (l3 c3 : Nat) (x4 : OA) (l4 c4 : Nat) (x12 : Bool) (x59 x60 : Int) (x69 : OA) (l69 c69 : Nat) (x70 x71 : Int) (H : Heap) : Prop :=
 l07_GraphFirst_12 nx42 nx74 Q E x3 l3 c3 x4 l4 c4 x12 x59 x60 x69 l69 c69 x70 x71 (decide (x71 < x70)) H

def l07_GraphFirst_15_M (nx42 : Int → HP) (nx74 : Bool → Int → HP) (τ : Tau) (H : Heap) : Prop := mSl (τ 3) fun x3 l3 c3 => mSl (τ 4) fun x4 l4 c4 => mB (τ 12) fun x12 => mI .i64 (τ 59) fun x59 => mI .i64 (τ 60) fun x60 => mSl (τ 69) fun x69 l69 c69 => mI .i64 (τ 70) fun x70 => mI .i64 (τ 71) fun x71 => l07_GraphFirst_15 nx42 nx74 Q E x3 l3 c3 x4 l4 c4 x12 x59 x60 x69 l69 c69 x70 x71 H

theorem l07_GraphFirst_16ok (nx42 : Int → HP) (nx74 : Bool → Int → HP) : Ok Pr (l07_GraphFirst_15_M Q E nx42 nx74) (sA l07_GraphFirst_p22) (l07_GraphFirst_q12 Q E nx42 nx74) E := fun τ H h =>
  wSl 3 h (fun x3 l3 c3 h => wSl 4 h (fun x4 l4 c4 h => wB 12 h (fun x12 h => wI 59 h (fun x59 h => wI 60 h (fun x60 h => wSl 69 h (fun x69 l69 c69 h => wI 70 h (fun x70 h => wI 71 h (fun x71 h => (conv (by kernel_rfl) h)))))))))

theorem l07_GraphFirst_17ok (nx42 : Int → HP) (nx74 : Bool → Int → HP) : Ok Pr (l07_GraphFirst_15_M Q E nx42 nx74) l07_GraphFirst_p22 (l07_GraphFirst_q9 Q E nx42 nx74) E := fun τ H h =>
  (conv (by kernel_rfl) (vc_seq (K := (l07_GraphFirst_12_M Q E nx42 nx74)) (l07_GraphFirst_16ok Q E nx42 nx74 τ H h) (l07_GraphFirst_14ok Q E nx42 nx74)))

def l07_GraphFirst_18 (nx42 : Int → HP) (Q : QT) (E : ET) (x3 : OA) (l3 c3 : Nat) (x4 : OA) (l4 c4 : Nat) (x59 x60 : Int) (x69 : OA) (l69 c69 : Nat) (x70 : Int) (x12 : Bool) (x71 : Int) (H : Heap) : Prop :=
 ∃ (I : Bool → Int → HP) (μ : Bool → Int → Heap → Nat), I x12 x71 H ∧ ∀ (x12 : Bool) (x71 : Int) (H : Heap), I x12 x71 H →
 l07_GraphFirst_15 nx42 (fun x12' x71' H1 => I x12' x71' H1 ∧ μ x12' x71' H1 < μ x12 x71 H) Q E x3 l3 c3 x4 l4 c4 x12 x59 x60 x69 l69 c69 x70 x71 H

def l07_GraphFirst_18_M (nx42 : Int → HP) (τ : Tau) (H : Heap) : Prop := mSl (τ 3) fun x3 l3 c3 => mSl (τ 4) fun x4 l4 c4 => mI .i64 (τ 59) fun x59 => mI .i64 (τ 60) fun x60 => mSl (τ 69) fun x69 l69 c69 => mI .i64 (τ 70) fun x70 => mB (τ 12) fun x12 => mI .i64 (τ 71) fun x71 => l07_GraphFirst_18 nx42 Q E x3 l3 c3 x4 l4 c4 x59 x60 x69 l69 c69 x70 x12 x71 H

theorem l07_GraphFirst_19ok (nx42 : Int → HP) : Ok Pr (l07_GraphFirst_18_M Q E nx42) (sI (sB l07_GraphFirst_p19)) (xblock 8 (l07_GraphFirst_q7 Q E nx42)) E := fun τ H h =>
  wSl 3 h (fun x3 l3 c3 h => wSl 4 h (fun x4 l4 c4 h => wI 59 h (fun x59 h => wI 60 h (fun x60 h => wSl 69 h (fun x69 l69 c69 h => wI 70 h (fun x70 h => wB 12 h (fun x12 h => wI 71 h (fun x71 h => match h with | ⟨I, μ, h0, hr⟩ => (conv (by kernel_rfl) (vc_loopG (c := sI (sI (sB l07_GraphFirst_p19))) (τ := (Tau.upd (Tau.upd (Tau.upd (Tau.upd (Tau.upd (Tau.upd (Tau.upd (Tau.upd τ 3 (.slice x3 l3 c3)) 4 (.slice x4 l4 c4)) 59 (.int .i64 x59)) 60 (.int .i64 x60)) 69 (.slice x69 l69 c69)) 70 (.int .i64 x70)) 12 (.bool x12)) 71 (.int .i64 x71))) [3, 4, 59, 60, 69, 70] (fun τ H => mB (τ 12) fun x12' => mI .i64 (τ 71) fun x71' => I x12' x71' H) (fun τ H => μ (gB (τ 12)) (gI (τ 71)) H) (by kernel_rfl) h0 (fun τ1 H1 hf hI => uF 3 (.slice x3 l3 c3) (hf 3 (by simp)) (uF 4 (.slice x4 l4 c4) (hf 4 (by simp)) (uF 59 (.int .i64 x59) (hf 59 (by simp)) (uF 60 (.int .i64 x60) (hf 60 (by simp)) (uF 69 (.slice x69 l69 c69) (hf 69 (by simp)) (uF 70 (.int .i64 x70) (hf 70 (by simp)) (uB 12 hI (fun x12r h => uI 71 h (fun x71r h => lgx (l07_GraphFirst_17ok Q E nx42 (fun x12' x71' H2 => I x12' x71' H2 ∧ μ x12' x71' H2 < μ x12r x71r H1) (Tau.upd (Tau.upd (Tau.upd (Tau.upd (Tau.upd (Tau.upd (Tau.upd (Tau.upd τ1 3 (.slice x3 l3 c3)) 4 (.slice x4 l4 c4)) 59 (.int .i64 x59)) 60 (.int .i64 x60)) 69 (.slice x69 l69 c69)) 70 (.int .i64 x70)) 12 (.bool x12r)) 71 (.int .i64 x71r)) H1 (conv (by kernel_rfl) (hr x12r x71r H1 h))) (fun τ2 H2 hk => kB 12 hk (fun x12' h => kI 71 h (fun x71' h => conv (by kernel_rfl) h))))))))))))))))))))))

theorem l07_GraphFirst_20ok (nx42 : Int → HP) : Ok Pr (l07_GraphFirst_18_M Q E nx42) (sB l07_GraphFirst_p19) (l07_GraphFirst_q7 Q E nx42) E := fun τ H h =>
  (conv (by kernel_rfl) (l07_GraphFirst_19ok Q E nx42 τ H h))

noncomputable def l07_GraphFirst_q13 (nx42 : Int → HP) : XT := (xthen (l07_GraphFirst_18_M Q E nx42) (l07_GraphFirst_q7 Q E nx42))

def l07_GraphFirst_21 (nx42 : Int → HP) (Q : QT) (E : ET) (x3 : OA) (l3 c3 : Nat) (x4 : OA) (l4 c4 : Nat) (x11 : Int) (x12 : Bool) (x59 x60 : Int) (H : Heap) : Prop :=
 Does Pr 10 #[(.slice x3 l3 c3), (.int .i64 x11)] H (fun v85 H86 =>
 ∃ (p87 : OA) (l88 c89 : Nat), v85 = (.slice p87 l88 c89) ∧ l07_GraphFirst_18 nx42 Q E x3 l3 c3 x4 l4 c4 x59 x60 p87 l88 c89 (l88 : Int) x12 0 H86) E

def l07_GraphFirst_21_M (nx42 : Int → HP) (τ : Tau) (H : Heap) : Prop := mSl (τ 3) fun x3 l3 c3 => mSl (τ 4) fun x4 l4 c4 => mI .i64 (τ 11) fun x11 => mB (τ 12) fun x12 => mI .i64 (τ 59) fun x59 => mI .i64 (τ 60) fun x60 => l07_GraphFirst_21 nx42 Q E x3 l3 c3 x4 l4 c4 x11 x12 x59 x60 H

theorem l07_GraphFirst_22ok (nx42 : Int → HP) : Ok Pr (l07_GraphFirst_21_M Q E nx42) (sA l07_GraphFirst_p19) (l07_GraphFirst_q13 Q E nx42) E := fun τ H h =>
  wSl 3 h (fun x3 l3 c3 h => wSl 4 h (fun x4 l4 c4 h => wI 11 h (fun x11 h => wB 12 h (fun x12 h => wI 59 h (fun x59 h => wI 60 h (fun x60 h => (conv (by kernel_rfl) h)))))))

theorem l07_GraphFirst_23ok (nx42 : Int → HP) : Ok Pr (l07_GraphFirst_21_M Q E nx42) l07_GraphFirst_p19 (l07_GraphFirst_q7 Q E nx42) E := fun τ H h =>
  (conv (by kernel_rfl) (vc_seq (K := (l07_GraphFirst_18_M Q E nx42)) (l07_GraphFirst_22ok Q E nx42 τ H h) (l07_GraphFirst_20ok Q E nx42)))

theorem l07_GraphFirst_24ok (nx42 : Int → HP) : Ok Pr (l07_GraphFirst_21_M Q E nx42) (sB l07_GraphFirst_p16) (l07_GraphFirst_q6 Q E nx42) E := fun τ H h =>
  (conv (by kernel_rfl) (vc_seq (K := (l07_GraphFirst_5_M Q E nx42)) (l07_GraphFirst_23ok Q E nx42 τ H h) (l07_GraphFirst_6ok Q E nx42)))

noncomputable def l07_GraphFirst_q14 (nx42 : Int → HP) : XT := (xthen (l07_GraphFirst_21_M Q E nx42) (l07_GraphFirst_q6 Q E nx42))

def l07_GraphFirst_25 (nx42 : Int → HP) (Q : QT) (E : ET) (x3 : OA) (l3 c3 : Nat) (x4 : OA) (l4 c4 : Nat) (x11 x59 x60 : Int) (H : Heap) : Prop :=
 Does Pr 11 #[(.slice x4 l4 c4), (.int .i64 x11)] H (fun v90 H91 =>
 ∃ b92 : Bool, v90 = (.bool b92) ∧ l07_GraphFirst_21 nx42 Q E x3 l3 c3 x4 l4 c4 x11 (!b92) x59 x60 H91) E

def l07_GraphFirst_25_M (nx42 : Int → HP) (τ : Tau) (H : Heap) : Prop := mSl (τ 3) fun x3 l3 c3 => mSl (τ 4) fun x4 l4 c4 => mI .i64 (τ 11) fun x11 => mI .i64 (τ 59) fun x59 => mI .i64 (τ 60) fun x60 => l07_GraphFirst_25 nx42 Q E x3 l3 c3 x4 l4 c4 x11 x59 x60 H

theorem l07_GraphFirst_26ok (nx42 : Int → HP) : Ok Pr (l07_GraphFirst_25_M Q E nx42) (sA l07_GraphFirst_p16) (l07_GraphFirst_q14 Q E nx42) E := fun τ H h =>
  wSl 3 h (fun x3 l3 c3 h => wSl 4 h (fun x4 l4 c4 h => wI 11 h (fun x11 h => wI 59 h (fun x59 h => wI 60 h (fun x60 h => (conv (by kernel_rfl) h))))))

theorem l07_GraphFirst_27ok (nx42 : Int → HP) : Ok Pr (l07_GraphFirst_25_M Q E nx42) l07_GraphFirst_p16 (l07_GraphFirst_q6 Q E nx42) E := fun τ H h =>
  (conv (by kernel_rfl) (vc_seq (K := (l07_GraphFirst_21_M Q E nx42)) (l07_GraphFirst_26ok Q E nx42 τ H h) (l07_GraphFirst_24ok Q E nx42)))

noncomputable def l07_GraphFirst_q15 (nx42 : Int → HP) : XT := (xthen (l07_GraphFirst_25_M Q E nx42) (l07_GraphFirst_q6 Q E nx42))

def l07_GraphFirst_28 (nx42 : Int → HP) (Q : QT) (E : ET) (x3 : OA) (l3 c3 : Nat) (x4 : OA) (l4 c4 : Nat) (x59 x60 : Int) (H : Heap) : Prop :=
 l07_GraphFirst_25 nx42 Q E x3 l3 c3 x4 l4 c4 x60 x59 x60 H

def l07_GraphFirst_28_M (nx42 : Int → HP) (τ : Tau) (H : Heap) : Prop := mSl (τ 3) fun x3 l3 c3 => mSl (τ 4) fun x4 l4 c4 => mI .i64 (τ 59) fun x59 => mI .i64 (τ 60) fun x60 => l07_GraphFirst_28 nx42 Q E x3 l3 c3 x4 l4 c4 x59 x60 H

theorem l07_GraphFirst_29ok (nx42 : Int → HP) : Ok Pr (l07_GraphFirst_28_M Q E nx42) (sA (sI (sA l07_GraphFirst_p12))) (l07_GraphFirst_q15 Q E nx42) E := fun τ H h =>
  wSl 3 h (fun x3 l3 c3 h => wSl 4 h (fun x4 l4 c4 h => wI 59 h (fun x59 h => wI 60 h (fun x60 h => (conv (by kernel_rfl) h)))))

theorem l07_GraphFirst_30ok (nx42 : Int → HP) : Ok Pr (l07_GraphFirst_28_M Q E nx42) (sI (sA l07_GraphFirst_p12)) (l07_GraphFirst_q6 Q E nx42) E := fun τ H h =>
  (conv (by kernel_rfl) (vc_seq (K := (l07_GraphFirst_25_M Q E nx42)) (l07_GraphFirst_29ok Q E nx42 τ H h) (l07_GraphFirst_27ok Q E nx42)))

theorem l07_GraphFirst_31ok (nx42 : Int → HP) : Ok Pr (l07_GraphFirst_28_M Q E nx42) (sA l07_GraphFirst_p12) (xthen (l07_GraphFirst_3_M Q E nx42) (l07_GraphFirst_q4 Q E nx42)) E := fun τ H h =>
  (conv (by kernel_rfl) (l07_GraphFirst_30ok Q E nx42 τ H h))

theorem l07_GraphFirst_32ok (nx42 : Int → HP) : Ok Pr (l07_GraphFirst_28_M Q E nx42) l07_GraphFirst_p12 (l07_GraphFirst_q4 Q E nx42) E := fun τ H h =>
  (conv (by kernel_rfl) (vc_seq (K := (l07_GraphFirst_3_M Q E nx42)) (l07_GraphFirst_31ok Q E nx42 τ H h) (l07_GraphFirst_4ok Q E nx42)))

noncomputable def l07_GraphFirst_q16 (nx42 : Int → HP) : XT := (xthen (l07_GraphFirst_28_M Q E nx42) (l07_GraphFirst_q4 Q E nx42))

def l07_GraphFirst_33 (nx42 : Int → HP) (Q : QT) (E : ET) (x3 : OA) (l3 c3 : Nat) (x4 : OA) (l4 c4 : Nat) (x59 x60 : Int) (x61 : Bool) (H : Heap) : Prop :=
 sel x61
 (l07_GraphFirst_28 nx42 Q E x3 l3 c3 x4 l4 c4 x59 x60 H)
 (l07_GraphFirst_1 Q E  H)

def l07_GraphFirst_33_M (nx42 : Int → HP) (τ : Tau) (H : Heap) : Prop := mSl (τ 3) fun x3 l3 c3 => mSl (τ 4) fun x4 l4 c4 => mI .i64 (τ 59) fun x59 => mI .i64 (τ 60) fun x60 => mB (τ 61) fun x61 => l07_GraphFirst_33 nx42 Q E x3 l3 c3 x4 l4 c4 x59 x60 x61 H

theorem l07_GraphFirst_34ok (nx42 : Int → HP) : Ok Pr (l07_GraphFirst_33_M Q E nx42) (sA (sB (sI l07_GraphFirst_p9))) (l07_GraphFirst_q16 Q E nx42) E := fun τ H h =>
  wSl 3 h (fun x3 l3 c3 h => wSl 4 h (fun x4 l4 c4 h => wI 59 h (fun x59 h => wI 60 h (fun x60 h => wB 61 h (fun x61 h => (conv (by kernel_rfl) h))))))

theorem l07_GraphFirst_35ok (nx42 : Int → HP) : Ok Pr (l07_GraphFirst_33_M Q E nx42) (sB (sI l07_GraphFirst_p9)) (l07_GraphFirst_q4 Q E nx42) E := fun τ H h =>
  (conv (by kernel_rfl) (vc_seq (K := (l07_GraphFirst_28_M Q E nx42)) (l07_GraphFirst_34ok Q E nx42 τ H h) (l07_GraphFirst_32ok Q E nx42)))

noncomputable def l07_GraphFirst_q17 (nx42 : Int → HP) : XT := (xthen (l07_GraphFirst_33_M Q E nx42) (l07_GraphFirst_q4 Q E nx42))

def l07_GraphFirst_36 (nx42 : Int → HP) (Q : QT) (E : ET) (x3 : OA) (l3 c3 : Nat) (x4 : OA) (l4 c4 : Nat) (x59 x60 : Int) (H : Heap) : Prop :=
 l07_GraphFirst_33 nx42 Q E x3 l3 c3 x4 l4 c4 x59 x60 (decide (x60 < x59)) H

def l07_GraphFirst_36_M (nx42 : Int → HP) (τ : Tau) (H : Heap) : Prop := mSl (τ 3) fun x3 l3 c3 => mSl (τ 4) fun x4 l4 c4 => mI .i64 (τ 59) fun x59 => mI .i64 (τ 60) fun x60 => l07_GraphFirst_36 nx42 Q E x3 l3 c3 x4 l4 c4 x59 x60 H

theorem l07_GraphFirst_37ok (nx42 : Int → HP) : Ok Pr (l07_GraphFirst_36_M Q E nx42) (sA (sI l07_GraphFirst_p9)) (l07_GraphFirst_q17 Q E nx42) E := fun τ H h =>
  wSl 3 h (fun x3 l3 c3 h => wSl 4 h (fun x4 l4 c4 h => wI 59 h (fun x59 h => wI 60 h (fun x60 h => (conv (by kernel_rfl) h)))))

theorem l07_GraphFirst_38ok (nx42 : Int → HP) : Ok Pr (l07_GraphFirst_36_M Q E nx42) (sI l07_GraphFirst_p9) (l07_GraphFirst_q4 Q E nx42) E := fun τ H h =>
  (conv (by kernel_rfl) (vc_seq (K := (l07_GraphFirst_33_M Q E nx42)) (l07_GraphFirst_37ok Q E nx42 τ H h) (l07_GraphFirst_35ok Q E nx42)))

def l07_GraphFirst_39 (Q : QT) (E : ET) (x3 : OA) (l3 c3 : Nat) (x4 : OA) (l4 c4 : Nat) (x59 x60 : Int) (H : Heap) : Prop :=
 ∃ (I : Int → HP) (μ : Int → Heap → Nat), I x60 H ∧ ∀ (x60 : Int) (H : Heap), I x60 H →
 l07_GraphFirst_36 (fun x60' H1 => I x60' H1 ∧ μ x60' H1 < μ x60 H) Q E x3 l3 c3 x4 l4 c4 x59 x60 H

def l07_GraphFirst_39_M  (τ : Tau) (H : Heap) : Prop := mSl (τ 3) fun x3 l3 c3 => mSl (τ 4) fun x4 l4 c4 => mI .i64 (τ 59) fun x59 => mI .i64 (τ 60) fun x60 => l07_GraphFirst_39 Q E x3 l3 c3 x4 l4 c4 x59 x60 H

theorem l07_GraphFirst_40ok  : Ok Pr (l07_GraphFirst_39_M Q E) l07_GraphFirst_p9 (xblock 6 (l07_GraphFirst_q2 Q E)) E := fun τ H h =>
  wSl 3 h (fun x3 l3 c3 h => wSl 4 h (fun x4 l4 c4 h => wI 59 h (fun x59 h => wI 60 h (fun x60 h => match h with | ⟨I, μ, h0, hr⟩ => (conv (by kernel_rfl) (vc_loopG (c := sI l07_GraphFirst_p9) (τ := (Tau.upd (Tau.upd (Tau.upd (Tau.upd τ 3 (.slice x3 l3 c3)) 4 (.slice x4 l4 c4)) 59 (.int .i64 x59)) 60 (.int .i64 x60))) [3, 4, 59] (fun τ H => mI .i64 (τ 60) fun x60' => I x60' H) (fun τ H => μ (gI (τ 60)) H) (by kernel_rfl) h0 (fun τ1 H1 hf hI => uF 3 (.slice x3 l3 c3) (hf 3 (by simp)) (uF 4 (.slice x4 l4 c4) (hf 4 (by simp)) (uF 59 (.int .i64 x59) (hf 59 (by simp)) (uI 60 hI (fun x60r h => lgx (l07_GraphFirst_38ok Q E (fun x60' H2 => I x60' H2 ∧ μ x60' H2 < μ x60r H1) (Tau.upd (Tau.upd (Tau.upd (Tau.upd τ1 3 (.slice x3 l3 c3)) 4 (.slice x4 l4 c4)) 59 (.int .i64 x59)) 60 (.int .i64 x60r)) H1 (conv (by kernel_rfl) (hr x60r H1 h))) (fun τ2 H2 hk => kI 60 hk (fun x60' h => conv (by kernel_rfl) h)))))))))))))

theorem l07_GraphFirst_41ok  : Ok Pr (l07_GraphFirst_39_M Q E) (sB (sA (sB l07_GraphFirst_p4))) (l07_GraphFirst_q2 Q E) E := fun τ H h =>
  (conv (by kernel_rfl) (l07_GraphFirst_40ok Q E τ H h))

noncomputable def l07_GraphFirst_q18  : XT := (xthen (l07_GraphFirst_39_M Q E) (l07_GraphFirst_q2 Q E))

def l07_GraphFirst_42 (Q : QT) (E : ET) (x3 : OA) (l3 c3 : Nat) (x4 : OA) (l4 c4 : Nat) (H : Heap) : Prop :=
 l07_GraphFirst_39 Q E x3 l3 c3 x4 l4 c4 (l3 : Int) 0 H

def l07_GraphFirst_42_M  (τ : Tau) (H : Heap) : Prop := mSl (τ 3) fun x3 l3 c3 => mSl (τ 4) fun x4 l4 c4 => l07_GraphFirst_42 Q E x3 l3 c3 x4 l4 c4 H

theorem l07_GraphFirst_43ok  : Ok Pr (l07_GraphFirst_42_M Q E) (sA (sA (sB l07_GraphFirst_p4))) (l07_GraphFirst_q18 Q E) E := fun τ H h =>
  wSl 3 h (fun x3 l3 c3 h => wSl 4 h (fun x4 l4 c4 h => (conv (by kernel_rfl) h)))

theorem l07_GraphFirst_44ok  : Ok Pr (l07_GraphFirst_42_M Q E) (sA (sB l07_GraphFirst_p4)) (l07_GraphFirst_q2 Q E) E := fun τ H h =>
  (conv (by kernel_rfl) (vc_seq (K := (l07_GraphFirst_39_M Q E)) (l07_GraphFirst_43ok Q E τ H h) (l07_GraphFirst_41ok Q E)))

theorem l07_GraphFirst_45ok  : Ok Pr (l07_GraphFirst_42_M Q E) (sB l07_GraphFirst_p4) (l07_GraphFirst_q1 Q E) E := fun τ H h =>
  (conv (by kernel_rfl) (vc_seq (K := (l07_GraphFirst_1_M Q E)) (l07_GraphFirst_44ok Q E τ H h) (l07_GraphFirst_2ok Q E)))

noncomputable def l07_GraphFirst_q19  : XT := (xthen (l07_GraphFirst_42_M Q E) (l07_GraphFirst_q1 Q E))

noncomputable def l07_GraphFirst_p37 : Code := sI (sB (sA l07_GraphFirst_p4))

noncomputable def l07_GraphFirst_q21 (nx93 : Int → HP) : XT := (xthen (fun τ H => mI .i64 (τ 23) fun x23' => nx93 x23' H) (xblock 0 (l07_GraphFirst_q19 Q E)))

noncomputable def l07_GraphFirst_p39 : Code := sB (sI l07_GraphFirst_p37)

def l07_GraphFirst_46 (nx93 : Int → HP) (Q : QT) (E : ET) (x3 : OA) (l3 c3 : Nat) (x4 : OA) (l4 c4 : Nat) (x21 : OA) (l21 c21 : Nat) (x22 x23 : Int) (H : Heap) : Prop :=
 nx93 (IntKind.wrap .i64 (x23 + 1)) H

def l07_GraphFirst_46_M (nx93 : Int → HP) (τ : Tau) (H : Heap) : Prop := mSl (τ 3) fun x3 l3 c3 => mSl (τ 4) fun x4 l4 c4 => mSl (τ 21) fun x21 l21 c21 => mI .i64 (τ 22) fun x22 => mI .i64 (τ 23) fun x23 => l07_GraphFirst_46 nx93 Q E x3 l3 c3 x4 l4 c4 x21 l21 c21 x22 x23 H

theorem l07_GraphFirst_47ok (nx93 : Int → HP) : Ok Pr (l07_GraphFirst_46_M Q E nx93) (sB (sB l07_GraphFirst_p39)) (l07_GraphFirst_q21 Q E nx93) E := fun τ H h =>
  wSl 3 h (fun x3 l3 c3 h => wSl 4 h (fun x4 l4 c4 h => wSl 21 h (fun x21 l21 c21 h => wI 22 h (fun x22 h => wI 23 h (fun x23 h => (conv (by kernel_rfl) h))))))

noncomputable def l07_GraphFirst_q23 (nx93 : Int → HP) : XT := (xblock 1 (xthen (l07_GraphFirst_46_M Q E nx93) (l07_GraphFirst_q21 Q E nx93)))

noncomputable def l07_GraphFirst_p43 : Code := sI (sA (sB l07_GraphFirst_p39))

noncomputable def l07_GraphFirst_p46 : Code := sI (sB (sB l07_GraphFirst_p43))

noncomputable def l07_GraphFirst_q25 (nx93 : Int → HP) (nx111 : Int → HP) : XT := (xthen (fun τ H => mI .i64 (τ 7) fun x7' => nx111 x7' H) (xblock 2 (l07_GraphFirst_q23 Q E nx93)))

noncomputable def l07_GraphFirst_p48 : Code := sB (sI l07_GraphFirst_p46)

def l07_GraphFirst_48 (nx93 : Int → HP) (nx111 : Int → HP) (Q : QT) (E : ET) (x3 : OA) (l3 c3 : Nat) (x4 : OA) (l4 c4 : Nat) (x5 x6 x7 : Int) (x21 : OA) (l21 c21 : Nat) (x22 x23 : Int) (H : Heap) : Prop :=
 nx111 (IntKind.wrap .i64 (x7 + 1)) H

def l07_GraphFirst_48_M (nx93 : Int → HP) (nx111 : Int → HP) (τ : Tau) (H : Heap) : Prop := mSl (τ 3) fun x3 l3 c3 => mSl (τ 4) fun x4 l4 c4 => mI .i64 (τ 5) fun x5 => mI .i64 (τ 6) fun x6 => mI .i64 (τ 7) fun x7 => mSl (τ 21) fun x21 l21 c21 => mI .i64 (τ 22) fun x22 => mI .i64 (τ 23) fun x23 => l07_GraphFirst_48 nx93 nx111 Q E x3 l3 c3 x4 l4 c4 x5 x6 x7 x21 l21 c21 x22 x23 H

theorem l07_GraphFirst_49ok (nx93 : Int → HP) (nx111 : Int → HP) : Ok Pr (l07_GraphFirst_48_M Q E nx93 nx111) (sB l07_GraphFirst_p48) (l07_GraphFirst_q25 Q E nx93 nx111) E := fun τ H h =>
  wSl 3 h (fun x3 l3 c3 h => wSl 4 h (fun x4 l4 c4 h => wI 5 h (fun x5 h => wI 6 h (fun x6 h => wI 7 h (fun x7 h => wSl 21 h (fun x21 l21 c21 h => wI 22 h (fun x22 h => wI 23 h (fun x23 h => (conv (by kernel_rfl) h)))))))))

noncomputable def l07_GraphFirst_q27 (nx93 : Int → HP) (nx111 : Int → HP) : XT := (xblock 3 (xthen (l07_GraphFirst_48_M Q E nx93 nx111) (l07_GraphFirst_q25 Q E nx93 nx111)))

noncomputable def l07_GraphFirst_p52 : Code := sB (sI (sA l07_GraphFirst_p48))

def l07_GraphFirst_50 (nx93 : Int → HP) (nx111 : Int → HP) (Q : QT) (E : ET) (x3 : OA) (l3 c3 : Nat) (x4 : OA) (l4 c4 : Nat) (x5 x6 x7 : Int) (x8 : Bool) (x21 : OA) (l21 c21 : Nat) (x22 x23 : Int) (H : Heap) : Prop :=
 sel x8
 (Q (.bool false) H)
 (l07_GraphFirst_48 nx93 nx111 Q E x3 l3 c3 x4 l4 c4 x5 x6 x7 x21 l21 c21 x22 x23 H)

def l07_GraphFirst_50_M (nx93 : Int → HP) (nx111 : Int → HP) (τ : Tau) (H : Heap) : Prop := mSl (τ 3) fun x3 l3 c3 => mSl (τ 4) fun x4 l4 c4 => mI .i64 (τ 5) fun x5 => mI .i64 (τ 6) fun x6 => mI .i64 (τ 7) fun x7 => mB (τ 8) fun x8 => mSl (τ 21) fun x21 l21 c21 => mI .i64 (τ 22) fun x22 => mI .i64 (τ 23) fun x23 => l07_GraphFirst_50 nx93 nx111 Q E x3 l3 c3 x4 l4 c4 x5 x6 x7 x8 x21 l21 c21 x22 x23 H

theorem l07_GraphFirst_51ok (nx93 : Int → HP) (nx111 : Int → HP) : Ok Pr (l07_GraphFirst_50_M Q E nx93 nx111) (sB l07_GraphFirst_p52) (l07_GraphFirst_q27 Q E nx93 nx111) E := fun τ H h =>
  wSl 3 h (fun x3 l3 c3 h => wSl 4 h (fun x4 l4 c4 h => wI 5 h (fun x5 h => wI 6 h (fun x6 h => wI 7 h (fun x7 h => wB 8 h (fun x8 h => wSl 21 h (fun x21 l21 c21 h => wI 22 h (fun x22 h => wI 23 h (fun x23 h => (conv (by kernel_rfl) h))))))))))

noncomputable def l07_GraphFirst_q28 (nx93 : Int → HP) (nx111 : Int → HP) : XT := (xthen (l07_GraphFirst_50_M Q E nx93 nx111) (l07_GraphFirst_q27 Q E nx93 nx111))

noncomputable def l07_GraphFirst_p55 : Code := sB (sA l07_GraphFirst_p52)

noncomputable def l07_GraphFirst_q29 (nx93 : Int → HP) (nx111 : Int → HP) : XT := (xblock 4 (l07_GraphFirst_q28 Q E nx93 nx111))

noncomputable def l07_GraphFirst_q30 (nx93 : Int → HP) (nx111 : Int → HP) (nx143 : Bool → Int → HP) : XT := (xthen (fun τ H => mB (τ 8) fun x8' => mI .i64 (τ 43) fun x43' => nx143 x8' x43' H) (l07_GraphFirst_q29 Q E nx93 nx111))

noncomputable def l07_GraphFirst_p57 : Code := sI (sI l07_GraphFirst_p55)

noncomputable def l07_GraphFirst_p58 : Code := sB l07_GraphFirst_p57

noncomputable def l07_GraphFirst_p59 : Code := sB l07_GraphFirst_p58

def l07_GraphFirst_52 (nx93 : Int → HP) (nx111 : Int → HP) (nx143 : Bool → Int → HP) (Q : QT) (E : ET) (x3 : OA) (l3 c3 : Nat) (x4 : OA) (l4 c4 : Nat) (x5 x6 x7 : Int) (x8 : Bool) (x21 : OA) (l21 c21 : Nat) (x22 x23 : Int) (x41 : OA) (l41 c41 : Nat) (x42 x43 : Int) (H : Heap) : Prop :=
 nx143 x8 (IntKind.wrap .i64 (x43 + 1)) H

def l07_GraphFirst_52_M (nx93 : Int → HP) (nx111 : Int → HP) (nx143 : Bool → Int → HP) (τ : Tau) (H : Heap) : Prop := mSl (τ 3) fun x3 l3 c3 => mSl (τ 4) fun x4 l4 c4 => mI .i64 (τ 5) fun x5 => mI .i64 (τ 6) fun x6 => mI .i64 (τ 7) fun x7 => mB (τ 8) fun x8 => mSl (τ 21) fun x21 l21 c21 => mI .i64 (τ 22) fun x22 => mI .i64 (τ 23) fun x23 => mSl (τ 41) fun x41 l41 c41 => mI .i64 (τ 42) fun x42 => mI .i64 (τ 43) fun x43 => l07_GraphFirst_52 nx93 nx111 nx143 Q E x3 l3 c3 x4 l4 c4 x5 x6 x7 x8 x21 l21 c21 x22 x23 x41 l41 c41 x42 x43 H

theorem l07_GraphFirst_53ok (nx93 : Int → HP) (nx111 : Int → HP) (nx143 : Bool → Int → HP) : Ok Pr (l07_GraphFirst_52_M Q E nx93 nx111 nx143) (sB l07_GraphFirst_p59) (l07_GraphFirst_q30 Q E nx93 nx111 nx143) E := fun τ H h =>
  wSl 3 h (fun x3 l3 c3 h => wSl 4 h (fun x4 l4 c4 h => wI 5 h (fun x5 h => wI 6 h (fun x6 h => wI 7 h (fun x7 h => wB 8 h (fun x8 h => wSl 21 h (fun x21 l21 c21 h => wI 22 h (fun x22 h => wI 23 h (fun x23 h => wSl 41 h (fun x41 l41 c41 h => wI 42 h (fun x42 h => wI 43 h (fun x43 h => (conv (by kernel_rfl) h)))))))))))))

noncomputable def l07_GraphFirst_q31 (nx93 : Int → HP) (nx111 : Int → HP) (nx143 : Bool → Int → HP) : XT := (xthen (l07_GraphFirst_52_M Q E nx93 nx111 nx143) (l07_GraphFirst_q30 Q E nx93 nx111 nx143))

def l07_GraphFirst_54 (nx93 : Int → HP) (nx111 : Int → HP) (nx143 : Bool → Int → HP) (Q : QT) (E : ET) (x3 : OA) (l3 c3 : Nat) (x4 : OA) (l4 c4 : Nat) (x5 x6 x7 : Int) (x8 : Bool) (x21 : OA) (l21 c21 : Nat) (x22 x23 : Int) (x41 : OA) (l41 c41 : Nat) (x42 x43 : Int) (H : Heap) : Prop :=
 (0 ≤ x43 ∧ x43 < (l41 : Int)) ∧ ptr x41 fun q149 =>
 ldI .i64 (Addr.add q149 (x43.toNat * 1)) H fun n150 =>
 sel x8
 ((0 ≤ x5 ∧ x5 ≤ (c4 : Int)) ∧ Does Pr 11 #[(.slice (if c4 = 0 then x4 else Option.map (fun a => Addr.add a (0 * 1)) x4) (x5.toNat - 0) (c4 - 0)), (.int .i64 n150)] H (fun v151 H152 =>
 ∃ b153 : Bool, v151 = (.bool b153) ∧ l07_GraphFirst_52 nx93 nx111 nx143 Q E x3 l3 c3 x4 l4 c4 x5 x6 x7 b153 x21 l21 c21 x22 x23 x41 l41 c41 x42 x43 H152) E)
 (l07_GraphFirst_52 nx93 nx111 nx143 Q E x3 l3 c3 x4 l4 c4 x5 x6 x7 false x21 l21 c21 x22 x23 x41 l41 c41 x42 x43 H)

def l07_GraphFirst_54_M (nx93 : Int → HP) (nx111 : Int → HP) (nx143 : Bool → Int → HP) (τ : Tau) (H : Heap) : Prop := mSl (τ 3) fun x3 l3 c3 => mSl (τ 4) fun x4 l4 c4 => mI .i64 (τ 5) fun x5 => mI .i64 (τ 6) fun x6 => mI .i64 (τ 7) fun x7 => mB (τ 8) fun x8 => mSl (τ 21) fun x21 l21 c21 => mI .i64 (τ 22) fun x22 => mI .i64 (τ 23) fun x23 => mSl (τ 41) fun x41 l41 c41 => mI .i64 (τ 42) fun x42 => mI .i64 (τ 43) fun x43 => l07_GraphFirst_54 nx93 nx111 nx143 Q E x3 l3 c3 x4 l4 c4 x5 x6 x7 x8 x21 l21 c21 x22 x23 x41 l41 c41 x42 x43 H

theorem l07_GraphFirst_55ok (nx93 : Int → HP) (nx111 : Int → HP) (nx143 : Bool → Int → HP) : Ok Pr (l07_GraphFirst_54_M Q E nx93 nx111 nx143) (sA l07_GraphFirst_p59) (l07_GraphFirst_q31 Q E nx93 nx111 nx143) E := fun τ H h =>
  wSl 3 h (fun x3 l3 c3 h => wSl 4 h (fun x4 l4 c4 h => wI 5 h (fun x5 h => wI 6 h (fun x6 h => wI 7 h (fun x7 h => wB 8 h (fun x8 h => wSl 21 h (fun x21 l21 c21 h => wI 22 h (fun x22 h => wI 23 h (fun x23 h => wSl 41 h (fun x41 l41 c41 h => wI 42 h (fun x42 h => wI 43 h (fun x43 h => (conv (by kernel_rfl) h)))))))))))))

theorem l07_GraphFirst_56ok (nx93 : Int → HP) (nx111 : Int → HP) (nx143 : Bool → Int → HP) : Ok Pr (l07_GraphFirst_54_M Q E nx93 nx111 nx143) l07_GraphFirst_p59 (l07_GraphFirst_q30 Q E nx93 nx111 nx143) E := fun τ H h =>
  (conv (by kernel_rfl) (vc_seq (K := (l07_GraphFirst_52_M Q E nx93 nx111 nx143)) (l07_GraphFirst_55ok Q E nx93 nx111 nx143 τ H h) (l07_GraphFirst_53ok Q E nx93 nx111 nx143)))

noncomputable def l07_GraphFirst_q32 (nx93 : Int → HP) (nx111 : Int → HP) (nx143 : Bool → Int → HP) : XT := (xthen (l07_GraphFirst_54_M Q E nx93 nx111 nx143) (l07_GraphFirst_q30 Q E nx93 nx111 nx143))

def l07_GraphFirst_57 (nx93 : Int → HP) (nx111 : Int → HP) (nx143 : Bool → Int → HP) (Q : QT) (E : ET) (x3 : OA) (l3 c3 : Nat) (x4 : OA) (l4 c4 : Nat) (x5 x6 x7 : Int) (x8 : Bool) (x21 : OA) (l21 c21 : Nat) (x22 x23 : Int) (x41 : OA) (l41 c41 : Nat) (x42 x43 : Int) (x44 : Bool) (H : Heap) : Prop :=
 sel x44
 (l07_GraphFirst_54 nx93 nx111 nx143 Q E x3 l3 c3 x4 l4 c4 x5 x6 x7 x8 x21 l21 c21 x22 x23 x41 l41 c41 x42 x43 H)
 (l07_GraphFirst_50 nx93 nx111 Q E x3 l3 c3 x4 l4 c4 x5 x6 x7 x8 x21 l21 c21 x22 x23 H)

def l07_GraphFirst_57_M (nx93 : Int → HP) (nx111 : Int → HP) (nx143 : Bool → Int → HP) (τ : Tau) (H : Heap) : Prop := mSl (τ 3) fun x3 l3 c3 => mSl (τ 4) fun x4 l4 c4 => mI .i64 (τ 5) fun x5 => mI .i64 (τ 6) fun x6 => mI .i64 (τ 7) fun x7 => mB (τ 8) fun x8 => mSl (τ 21) fun x21 l21 c21 => mI .i64 (τ 22) fun x22 => mI .i64 (τ 23) fun x23 => mSl (τ 41) fun x41 l41 c41 => mI .i64 (τ 42) fun x42 => mI .i64 (τ 43) fun x43 => mB (τ 44) fun x44 => l07_GraphFirst_57 nx93 nx111 nx143 Q E x3 l3 c3 x4 l4 c4 x5 x6 x7 x8 x21 l21 c21 x22 x23 x41 l41 c41 x42 x43 x44 H

theorem l07_GraphFirst_58ok (nx93 : Int → HP) (nx111 : Int → HP) (nx143 : Bool → Int → HP) : Ok Pr (l07_GraphFirst_57_M Q E nx93 nx111 nx143) (sA l07_GraphFirst_p58) (l07_GraphFirst_q32 Q E nx93 nx111 nx143) E := fun τ H h =>
  wSl 3 h (fun x3 l3 c3 h => wSl 4 h (fun x4 l4 c4 h => wI 5 h (fun x5 h => wI 6 h (fun x6 h => wI 7 h (fun x7 h => wB 8 h (fun x8 h => wSl 21 h (fun x21 l21 c21 h => wI 22 h (fun x22 h => wI 23 h (fun x23 h => wSl 41 h (fun x41 l41 c41 h => wI 42 h (fun x42 h => wI 43 h (fun x43 h => wB 44 h (fun x44 h => (conv (by kernel_rfl) h))))))))))))))

theorem l07_GraphFirst_59ok (nx93 : Int → HP) (nx111 : Int → HP) (nx143 : Bool → Int → HP) : Ok Pr (l07_GraphFirst_57_M Q E nx93 nx111 nx143) l07_GraphFirst_p58 (l07_GraphFirst_q30 Q E nx93 nx111 nx143) E := fun τ H h =>
  (conv (by kernel_rfl) (vc_seq (K := (l07_GraphFirst_54_M Q E nx93 nx111 nx143)) (l07_GraphFirst_58ok Q E nx93 nx111 nx143 τ H h) (l07_GraphFirst_56ok Q E nx93 nx111 nx143)))

noncomputable def l07_GraphFirst_q33 (nx93 : Int → HP) (nx111 : Int → HP) (nx143 : Bool → Int → HP) : XT := (xthen (l07_GraphFirst_57_M Q E nx93 nx111 nx143) (l07_GraphFirst_q30 Q E nx93 nx111 nx143))

def l07_GraphFirst_60 (nx93 : Int → HP) (nx111 : Int → HP) (nx143 : Bool → Int → HP) (Q : QT) (E : ET) (x3 : OA) (l3 c3 : Nat) (x4 : OA) (l4 c4 : Nat) (x5 x6 x7 : Int) (x8 : Bool) (x21 : OA) (l21 c21 : Nat) (x22 x23 : Int) (x41 : OA) (l41 c41 : Nat) (x42 x43 : Int) (H : Heap) : Prop :=
 l07_GraphFirst_57 nx93 nx111 nx143 Q E x3 l3 c3 x4 l4 c4 x5 x6 x7 x8 x21 l21 c21 x22 x23 x41 l41 c41 x42 x43 (decide (x43 < x42)) H

def l07_GraphFirst_60_M (nx93 : Int → HP) (nx111 : Int → HP) (nx143 : Bool → Int → HP) (τ : Tau) (H : Heap) : Prop := mSl (τ 3) fun x3 l3 c3 => mSl (τ 4) fun x4 l4 c4 => mI .i64 (τ 5) fun x5 => mI .i64 (τ 6) fun x6 => mI .i64 (τ 7) fun x7 => mB (τ 8) fun x8 => mSl (τ 21) fun x21 l21 c21 => mI .i64 (τ 22) fun x22 => mI .i64 (τ 23) fun x23 => mSl (τ 41) fun x41 l41 c41 => mI .i64 (τ 42) fun x42 => mI .i64 (τ 43) fun x43 => l07_GraphFirst_60 nx93 nx111 nx143 Q E x3 l3 c3 x4 l4 c4 x5 x6 x7 x8 x21 l21 c21 x22 x23 x41 l41 c41 x42 x43 H

theorem l07_GraphFirst_61ok (nx93 : Int → HP) (nx111 : Int → HP) (nx143 : Bool → Int → HP) : Ok Pr (l07_GraphFirst_60_M Q E nx93 nx111 nx143) (sA l07_GraphFirst_p57) (l07_GraphFirst_q33 Q E nx93 nx111 nx143) E := fun τ H h =>
  wSl 3 h (fun x3 l3 c3 h => wSl 4 h (fun x4 l4 c4 h => wI 5 h (fun x5 h => wI 6 h (fun x6 h => wI 7 h (fun x7 h => wB 8 h (fun x8 h => wSl 21 h (fun x21 l21 c21 h => wI 22 h (fun x22 h => wI 23 h (fun x23 h => wSl 41 h (fun x41 l41 c41 h => wI 42 h (fun x42 h => wI 43 h (fun x43 h => (conv (by kernel_rfl) h)))))))))))))

theorem l07_GraphFirst_62ok (nx93 : Int → HP) (nx111 : Int → HP) (nx143 : Bool → Int → HP) : Ok Pr (l07_GraphFirst_60_M Q E nx93 nx111 nx143) l07_GraphFirst_p57 (l07_GraphFirst_q30 Q E nx93 nx111 nx143) E := fun τ H h =>
  (conv (by kernel_rfl) (vc_seq (K := (l07_GraphFirst_57_M Q E nx93 nx111 nx143)) (l07_GraphFirst_61ok Q E nx93 nx111 nx143 τ H h) (l07_GraphFirst_59ok Q E nx93 nx111 nx143)))

def l07_GraphFirst_63 (nx93 : Int → HP) (nx111 : Int → HP) (Q : QT) (E : ET) (x3 : OA) (l3 c3 : Nat) (x4 : OA) (l4 c4 : Nat) (x5 x6 x7 : Int) (x21 : OA) (l21 c21 : Nat) (x22 x23 : Int) (x41 : OA) (l41 c41 : Nat) (x42 : Int) (x8 : Bool) (x43 : Int) (H : Heap) : Prop :=
 ∃ (I : Bool → Int → HP) (μ : Bool → Int → Heap → Nat), I x8 x43 H ∧ ∀ (x8 : Bool) (x43 : Int) (H : Heap), I x8 x43 H →
 l07_GraphFirst_60 nx93 nx111 (fun x8' x43' H1 => I x8' x43' H1 ∧ μ x8' x43' H1 < μ x8 x43 H) Q E x3 l3 c3 x4 l4 c4 x5 x6 x7 x8 x21 l21 c21 x22 x23 x41 l41 c41 x42 x43 H

def l07_GraphFirst_63_M (nx93 : Int → HP) (nx111 : Int → HP) (τ : Tau) (H : Heap) : Prop := mSl (τ 3) fun x3 l3 c3 => mSl (τ 4) fun x4 l4 c4 => mI .i64 (τ 5) fun x5 => mI .i64 (τ 6) fun x6 => mI .i64 (τ 7) fun x7 => mSl (τ 21) fun x21 l21 c21 => mI .i64 (τ 22) fun x22 => mI .i64 (τ 23) fun x23 => mSl (τ 41) fun x41 l41 c41 => mI .i64 (τ 42) fun x42 => mB (τ 8) fun x8 => mI .i64 (τ 43) fun x43 => l07_GraphFirst_63 nx93 nx111 Q E x3 l3 c3 x4 l4 c4 x5 x6 x7 x21 l21 c21 x22 x23 x41 l41 c41 x42 x8 x43 H

theorem l07_GraphFirst_64ok (nx93 : Int → HP) (nx111 : Int → HP) : Ok Pr (l07_GraphFirst_63_M Q E nx93 nx111) (sI l07_GraphFirst_p55) (l07_GraphFirst_q29 Q E nx93 nx111) E := fun τ H h =>
  wSl 3 h (fun x3 l3 c3 h => wSl 4 h (fun x4 l4 c4 h => wI 5 h (fun x5 h => wI 6 h (fun x6 h => wI 7 h (fun x7 h => wSl 21 h (fun x21 l21 c21 h => wI 22 h (fun x22 h => wI 23 h (fun x23 h => wSl 41 h (fun x41 l41 c41 h => wI 42 h (fun x42 h => wB 8 h (fun x8 h => wI 43 h (fun x43 h => match h with | ⟨I, μ, h0, hr⟩ => (conv (by kernel_rfl) (vc_loopG (c := sI (sI l07_GraphFirst_p55)) (τ := (Tau.upd (Tau.upd (Tau.upd (Tau.upd (Tau.upd (Tau.upd (Tau.upd (Tau.upd (Tau.upd (Tau.upd (Tau.upd (Tau.upd τ 3 (.slice x3 l3 c3)) 4 (.slice x4 l4 c4)) 5 (.int .i64 x5)) 6 (.int .i64 x6)) 7 (.int .i64 x7)) 21 (.slice x21 l21 c21)) 22 (.int .i64 x22)) 23 (.int .i64 x23)) 41 (.slice x41 l41 c41)) 42 (.int .i64 x42)) 8 (.bool x8)) 43 (.int .i64 x43))) [3, 4, 5, 6, 7, 21, 22, 23, 41, 42] (fun τ H => mB (τ 8) fun x8' => mI .i64 (τ 43) fun x43' => I x8' x43' H) (fun τ H => μ (gB (τ 8)) (gI (τ 43)) H) (by kernel_rfl) h0 (fun τ1 H1 hf hI => uF 3 (.slice x3 l3 c3) (hf 3 (by simp)) (uF 4 (.slice x4 l4 c4) (hf 4 (by simp)) (uF 5 (.int .i64 x5) (hf 5 (by simp)) (uF 6 (.int .i64 x6) (hf 6 (by simp)) (uF 7 (.int .i64 x7) (hf 7 (by simp)) (uF 21 (.slice x21 l21 c21) (hf 21 (by simp)) (uF 22 (.int .i64 x22) (hf 22 (by simp)) (uF 23 (.int .i64 x23) (hf 23 (by simp)) (uF 41 (.slice x41 l41 c41) (hf 41 (by simp)) (uF 42 (.int .i64 x42) (hf 42 (by simp)) (uB 8 hI (fun x8r h => uI 43 h (fun x43r h => lgx (l07_GraphFirst_62ok Q E nx93 nx111 (fun x8' x43' H2 => I x8' x43' H2 ∧ μ x8' x43' H2 < μ x8r x43r H1) (Tau.upd (Tau.upd (Tau.upd (Tau.upd (Tau.upd (Tau.upd (Tau.upd (Tau.upd (Tau.upd (Tau.upd (Tau.upd (Tau.upd τ1 3 (.slice x3 l3 c3)) 4 (.slice x4 l4 c4)) 5 (.int .i64 x5)) 6 (.int .i64 x6)) 7 (.int .i64 x7)) 21 (.slice x21 l21 c21)) 22 (.int .i64 x22)) 23 (.int .i64 x23)) 41 (.slice x41 l41 c41)) 42 (.int .i64 x42)) 8 (.bool x8r)) 43 (.int .i64 x43r)) H1 (conv (by kernel_rfl) (hr x8r x43r H1 h))) (fun τ2 H2 hk => kB 8 hk (fun x8' h => kI 43 h (fun x43' h => conv (by kernel_rfl) h))))))))))))))))))))))))))))))

theorem l07_GraphFirst_65ok (nx93 : Int → HP) (nx111 : Int → HP) : Ok Pr (l07_GraphFirst_63_M Q E nx93 nx111) l07_GraphFirst_p55 (l07_GraphFirst_q28 Q E nx93 nx111) E := fun τ H h =>
  (conv (by kernel_rfl) (l07_GraphFirst_64ok Q E nx93 nx111 τ H h))

noncomputable def l07_GraphFirst_q34 (nx93 : Int → HP) (nx111 : Int → HP) : XT := (xthen (l07_GraphFirst_63_M Q E nx93 nx111) (l07_GraphFirst_q28 Q E nx93 nx111))

def l07_GraphFirst_66 (nx93 : Int → HP) (nx111 : Int → HP) (Q : QT) (E : ET) (x3 : OA) (l3 c3 : Nat) (x4 : OA) (l4 c4 : Nat) (x5 x6 x7 : Int) (x8 : Bool) (x21 : OA) (l21 c21 : Nat) (x22 x23 : Int) (H : Heap) : Prop :=
 Does Pr 10 #[(.slice x3 l3 c3), (.int .i64 x7)] H (fun v154 H155 =>
 ∃ (p156 : OA) (l157 c158 : Nat), v154 = (.slice p156 l157 c158) ∧ l07_GraphFirst_63 nx93 nx111 Q E x3 l3 c3 x4 l4 c4 x5 x6 x7 x21 l21 c21 x22 x23 p156 l157 c158 (l157 : Int) x8 0 H155) E

def l07_GraphFirst_66_M (nx93 : Int → HP) (nx111 : Int → HP) (τ : Tau) (H : Heap) : Prop := mSl (τ 3) fun x3 l3 c3 => mSl (τ 4) fun x4 l4 c4 => mI .i64 (τ 5) fun x5 => mI .i64 (τ 6) fun x6 => mI .i64 (τ 7) fun x7 => mB (τ 8) fun x8 => mSl (τ 21) fun x21 l21 c21 => mI .i64 (τ 22) fun x22 => mI .i64 (τ 23) fun x23 => l07_GraphFirst_66 nx93 nx111 Q E x3 l3 c3 x4 l4 c4 x5 x6 x7 x8 x21 l21 c21 x22 x23 H

theorem l07_GraphFirst_67ok (nx93 : Int → HP) (nx111 : Int → HP) : Ok Pr (l07_GraphFirst_66_M Q E nx93 nx111) (sA (sA l07_GraphFirst_p52)) (l07_GraphFirst_q34 Q E nx93 nx111) E := fun τ H h =>
  wSl 3 h (fun x3 l3 c3 h => wSl 4 h (fun x4 l4 c4 h => wI 5 h (fun x5 h => wI 6 h (fun x6 h => wI 7 h (fun x7 h => wB 8 h (fun x8 h => wSl 21 h (fun x21 l21 c21 h => wI 22 h (fun x22 h => wI 23 h (fun x23 h => (conv (by kernel_rfl) h))))))))))

theorem l07_GraphFirst_68ok (nx93 : Int → HP) (nx111 : Int → HP) : Ok Pr (l07_GraphFirst_66_M Q E nx93 nx111) (sA l07_GraphFirst_p52) (l07_GraphFirst_q28 Q E nx93 nx111) E := fun τ H h =>
  (conv (by kernel_rfl) (vc_seq (K := (l07_GraphFirst_63_M Q E nx93 nx111)) (l07_GraphFirst_67ok Q E nx93 nx111 τ H h) (l07_GraphFirst_65ok Q E nx93 nx111)))

theorem l07_GraphFirst_69ok (nx93 : Int → HP) (nx111 : Int → HP) : Ok Pr (l07_GraphFirst_66_M Q E nx93 nx111) l07_GraphFirst_p52 (l07_GraphFirst_q27 Q E nx93 nx111) E := fun τ H h =>
  (conv (by kernel_rfl) (vc_seq (K := (l07_GraphFirst_50_M Q E nx93 nx111)) (l07_GraphFirst_68ok Q E nx93 nx111 τ H h) (l07_GraphFirst_51ok Q E nx93 nx111)))

noncomputable def l07_GraphFirst_q35 (nx93 : Int → HP) (nx111 : Int → HP) : XT := (xthen (l07_GraphFirst_66_M Q E nx93 nx111) (l07_GraphFirst_q27 Q E nx93 nx111))

def l07_GraphFirst_70 (nx93 : Int → HP) (nx111 : Int → HP) (Q : QT) (E : ET) (x3 : OA) (l3 c3 : Nat) (x4 : OA) (l4 c4 : Nat) (x5 x6 x7 : Int) (x21 : OA) (l21 c21 : Nat) (x22 x23 : Int) (H : Heap) : Prop :=
 (0 ≤ x5 ∧ x5 ≤ (c4 : Int)) ∧ Does Pr 11 #[(.slice (if c4 = 0 then x4 else Option.map (fun a => Addr.add a (0 * 1)) x4) (x5.toNat - 0) (c4 - 0)), (.int .i64 x7)] H (fun v159 H160 =>
 ∃ b161 : Bool, v159 = (.bool b161) ∧ l07_GraphFirst_66 nx93 nx111 Q E x3 l3 c3 x4 l4 c4 x5 x6 x7 (!b161) x21 l21 c21 x22 x23 H160) E

def l07_GraphFirst_70_M (nx93 : Int → HP) (nx111 : Int → HP) (τ : Tau) (H : Heap) : Prop := mSl (τ 3) fun x3 l3 c3 => mSl (τ 4) fun x4 l4 c4 => mI .i64 (τ 5) fun x5 => mI .i64 (τ 6) fun x6 => mI .i64 (τ 7) fun x7 => mSl (τ 21) fun x21 l21 c21 => mI .i64 (τ 22) fun x22 => mI .i64 (τ 23) fun x23 => l07_GraphFirst_70 nx93 nx111 Q E x3 l3 c3 x4 l4 c4 x5 x6 x7 x21 l21 c21 x22 x23 H

theorem l07_GraphFirst_71ok (nx93 : Int → HP) (nx111 : Int → HP) : Ok Pr (l07_GraphFirst_70_M Q E nx93 nx111) (sA (sI (sA l07_GraphFirst_p48))) (l07_GraphFirst_q35 Q E nx93 nx111) E := fun τ H h =>
  wSl 3 h (fun x3 l3 c3 h => wSl 4 h (fun x4 l4 c4 h => wI 5 h (fun x5 h => wI 6 h (fun x6 h => wI 7 h (fun x7 h => wSl 21 h (fun x21 l21 c21 h => wI 22 h (fun x22 h => wI 23 h (fun x23 h => (conv (by kernel_rfl) h)))))))))

theorem l07_GraphFirst_72ok (nx93 : Int → HP) (nx111 : Int → HP) : Ok Pr (l07_GraphFirst_70_M Q E nx93 nx111) (sI (sA l07_GraphFirst_p48)) (l07_GraphFirst_q27 Q E nx93 nx111) E := fun τ H h =>
  (conv (by kernel_rfl) (vc_seq (K := (l07_GraphFirst_66_M Q E nx93 nx111)) (l07_GraphFirst_71ok Q E nx93 nx111 τ H h) (l07_GraphFirst_69ok Q E nx93 nx111)))

theorem l07_GraphFirst_73ok (nx93 : Int → HP) (nx111 : Int → HP) : Ok Pr (l07_GraphFirst_70_M Q E nx93 nx111) (sA l07_GraphFirst_p48) (xthen (l07_GraphFirst_48_M Q E nx93 nx111) (l07_GraphFirst_q25 Q E nx93 nx111)) E := fun τ H h =>
  (conv (by kernel_rfl) (l07_GraphFirst_72ok Q E nx93 nx111 τ H h))

theorem l07_GraphFirst_74ok (nx93 : Int → HP) (nx111 : Int → HP) : Ok Pr (l07_GraphFirst_70_M Q E nx93 nx111) l07_GraphFirst_p48 (l07_GraphFirst_q25 Q E nx93 nx111) E := fun τ H h =>
  (conv (by kernel_rfl) (vc_seq (K := (l07_GraphFirst_48_M Q E nx93 nx111)) (l07_GraphFirst_73ok Q E nx93 nx111 τ H h) (l07_GraphFirst_49ok Q E nx93 nx111)))

noncomputable def l07_GraphFirst_q36 (nx93 : Int → HP) (nx111 : Int → HP) : XT := (xthen (l07_GraphFirst_70_M Q E nx93 nx111) (l07_GraphFirst_q25 Q E nx93 nx111))

def l07_GraphFirst_75 (nx93 : Int → HP) (nx111 : Int → HP) (Q : QT) (E : ET) (x3 : OA) (l3 c3 : Nat) (x4 : OA) (l4 c4 : Nat) (x5 x6 x7 : Int) (x21 : OA) (l21 c21 : Nat) (x22 x23 : Int) (H : Heap) : Prop :=
 sel (decide (x7 < x6))
 (l07_GraphFirst_70 nx93 nx111 Q E x3 l3 c3 x4 l4 c4 x5 x6 x7 x21 l21 c21 x22 x23 H)
 (l07_GraphFirst_46 nx93 Q E x3 l3 c3 x4 l4 c4 x21 l21 c21 x22 x23 H)

def l07_GraphFirst_75_M (nx93 : Int → HP) (nx111 : Int → HP) (τ : Tau) (H : Heap) : Prop := mSl (τ 3) fun x3 l3 c3 => mSl (τ 4) fun x4 l4 c4 => mI .i64 (τ 5) fun x5 => mI .i64 (τ 6) fun x6 => mI .i64 (τ 7) fun x7 => mSl (τ 21) fun x21 l21 c21 => mI .i64 (τ 22) fun x22 => mI .i64 (τ 23) fun x23 => l07_GraphFirst_75 nx93 nx111 Q E x3 l3 c3 x4 l4 c4 x5 x6 x7 x21 l21 c21 x22 x23 H

theorem l07_GraphFirst_76ok (nx93 : Int → HP) (nx111 : Int → HP) : Ok Pr (l07_GraphFirst_75_M Q E nx93 nx111) (sA (sI l07_GraphFirst_p46)) (l07_GraphFirst_q36 Q E nx93 nx111) E := fun τ H h =>
  wSl 3 h (fun x3 l3 c3 h => wSl 4 h (fun x4 l4 c4 h => wI 5 h (fun x5 h => wI 6 h (fun x6 h => wI 7 h (fun x7 h => wSl 21 h (fun x21 l21 c21 h => wI 22 h (fun x22 h => wI 23 h (fun x23 h => (conv (by kernel_rfl) h)))))))))

theorem l07_GraphFirst_77ok (nx93 : Int → HP) (nx111 : Int → HP) : Ok Pr (l07_GraphFirst_75_M Q E nx93 nx111) (sI l07_GraphFirst_p46) (l07_GraphFirst_q25 Q E nx93 nx111) E := fun τ H h =>
  (conv (by kernel_rfl) (vc_seq (K := (l07_GraphFirst_70_M Q E nx93 nx111)) (l07_GraphFirst_76ok Q E nx93 nx111 τ H h) (l07_GraphFirst_74ok Q E nx93 nx111)))

def l07_GraphFirst_78 (nx93 : Int → HP) (Q : QT) (E : ET) (x3 : OA) (l3 c3 : Nat) (x4 : OA) (l4 c4 : Nat) (x5 x6 : Int) (x21 : OA) (l21 c21 : Nat) (x22 x23 x7 : Int) (H : Heap) : Prop :=
 ∃ (I : Int → HP) (μ : Int → Heap → Nat), I x7 H ∧ ∀ (x7 : Int) (H : Heap), I x7 H →
 l07_GraphFirst_75 nx93 (fun x7' H1 => I x7' H1 ∧ μ x7' H1 < μ x7 H) Q E x3 l3 c3 x4 l4 c4 x5 x6 x7 x21 l21 c21 x22 x23 H

def l07_GraphFirst_78_M (nx93 : Int → HP) (τ : Tau) (H : Heap) : Prop := mSl (τ 3) fun x3 l3 c3 => mSl (τ 4) fun x4 l4 c4 => mI .i64 (τ 5) fun x5 => mI .i64 (τ 6) fun x6 => mSl (τ 21) fun x21 l21 c21 => mI .i64 (τ 22) fun x22 => mI .i64 (τ 23) fun x23 => mI .i64 (τ 7) fun x7 => l07_GraphFirst_78 nx93 Q E x3 l3 c3 x4 l4 c4 x5 x6 x21 l21 c21 x22 x23 x7 H

theorem l07_GraphFirst_79ok (nx93 : Int → HP) : Ok Pr (l07_GraphFirst_78_M Q E nx93) l07_GraphFirst_p46 (xblock 2 (l07_GraphFirst_q23 Q E nx93)) E := fun τ H h =>
  wSl 3 h (fun x3 l3 c3 h => wSl 4 h (fun x4 l4 c4 h => wI 5 h (fun x5 h => wI 6 h (fun x6 h => wSl 21 h (fun x21 l21 c21 h => wI 22 h (fun x22 h => wI 23 h (fun x23 h => wI 7 h (fun x7 h => match h with | ⟨I, μ, h0, hr⟩ => (conv (by kernel_rfl) (vc_loopG (c := sI l07_GraphFirst_p46) (τ := (Tau.upd (Tau.upd (Tau.upd (Tau.upd (Tau.upd (Tau.upd (Tau.upd (Tau.upd τ 3 (.slice x3 l3 c3)) 4 (.slice x4 l4 c4)) 5 (.int .i64 x5)) 6 (.int .i64 x6)) 21 (.slice x21 l21 c21)) 22 (.int .i64 x22)) 23 (.int .i64 x23)) 7 (.int .i64 x7))) [3, 4, 5, 6, 21, 22, 23] (fun τ H => mI .i64 (τ 7) fun x7' => I x7' H) (fun τ H => μ (gI (τ 7)) H) (by kernel_rfl) h0 (fun τ1 H1 hf hI => uF 3 (.slice x3 l3 c3) (hf 3 (by simp)) (uF 4 (.slice x4 l4 c4) (hf 4 (by simp)) (uF 5 (.int .i64 x5) (hf 5 (by simp)) (uF 6 (.int .i64 x6) (hf 6 (by simp)) (uF 21 (.slice x21 l21 c21) (hf 21 (by simp)) (uF 22 (.int .i64 x22) (hf 22 (by simp)) (uF 23 (.int .i64 x23) (hf 23 (by simp)) (uI 7 hI (fun x7r h => lgx (l07_GraphFirst_77ok Q E nx93 (fun x7' H2 => I x7' H2 ∧ μ x7' H2 < μ x7r H1) (Tau.upd (Tau.upd (Tau.upd (Tau.upd (Tau.upd (Tau.upd (Tau.upd (Tau.upd τ1 3 (.slice x3 l3 c3)) 4 (.slice x4 l4 c4)) 5 (.int .i64 x5)) 6 (.int .i64 x6)) 21 (.slice x21 l21 c21)) 22 (.int .i64 x22)) 23 (.int .i64 x23)) 7 (.int .i64 x7r)) H1 (conv (by kernel_rfl) (hr x7r H1 h))) (fun τ2 H2 hk => kI 7 hk (fun x7' h => conv (by kernel_rfl) h)))))))))))))))))))))

theorem l07_GraphFirst_80ok (nx93 : Int → HP) : Ok Pr (l07_GraphFirst_78_M Q E nx93) (sB (sB l07_GraphFirst_p43)) (l07_GraphFirst_q23 Q E nx93) E := fun τ H h =>
  (conv (by kernel_rfl) (l07_GraphFirst_79ok Q E nx93 τ H h))

noncomputable def l07_GraphFirst_q37 (nx93 : Int → HP) : XT := (xthen (l07_GraphFirst_78_M Q E nx93) (l07_GraphFirst_q23 Q E nx93))

def l07_GraphFirst_81 (nx93 : Int → HP) (Q : QT) (E : ET) (x3 : OA) (l3 c3 : Nat) (x4 : OA) (l4 c4 : Nat) (x5 x6 : Int) (x21 : OA) (l21 c21 : Nat) (x22 x23 : Int) (H : Heap) : Prop :=
 l07_GraphFirst_78 nx93 Q E x3 l3 c3 x4 l4 c4 x5 x6 x21 l21 c21 x22 x23 0 H

def l07_GraphFirst_81_M (nx93 : Int → HP) (τ : Tau) (H : Heap) : Prop := mSl (τ 3) fun x3 l3 c3 => mSl (τ 4) fun x4 l4 c4 => mI .i64 (τ 5) fun x5 => mI .i64 (τ 6) fun x6 => mSl (τ 21) fun x21 l21 c21 => mI .i64 (τ 22) fun x22 => mI .i64 (τ 23) fun x23 => l07_GraphFirst_81 nx93 Q E x3 l3 c3 x4 l4 c4 x5 x6 x21 l21 c21 x22 x23 H

theorem l07_GraphFirst_82ok (nx93 : Int → HP) : Ok Pr (l07_GraphFirst_81_M Q E nx93) (sA (sB l07_GraphFirst_p43)) (l07_GraphFirst_q37 Q E nx93) E := fun τ H h =>
  wSl 3 h (fun x3 l3 c3 h => wSl 4 h (fun x4 l4 c4 h => wI 5 h (fun x5 h => wI 6 h (fun x6 h => wSl 21 h (fun x21 l21 c21 h => wI 22 h (fun x22 h => wI 23 h (fun x23 h => (conv (by kernel_rfl) h))))))))

theorem l07_GraphFirst_83ok (nx93 : Int → HP) : Ok Pr (l07_GraphFirst_81_M Q E nx93) (sB l07_GraphFirst_p43) (l07_GraphFirst_q23 Q E nx93) E := fun τ H h =>
  (conv (by kernel_rfl) (vc_seq (K := (l07_GraphFirst_78_M Q E nx93)) (l07_GraphFirst_82ok Q E nx93 τ H h) (l07_GraphFirst_80ok Q E nx93)))

noncomputable def l07_GraphFirst_q38 (nx93 : Int → HP) : XT := (xthen (l07_GraphFirst_81_M Q E nx93) (l07_GraphFirst_q23 Q E nx93))

def l07_GraphFirst_84 (nx93 : Int → HP) (Q : QT) (E : ET) (x3 : OA) (l3 c3 : Nat) (x4 : OA) (l4 c4 : Nat) (x21 : OA) (l21 c21 : Nat) (x22 x23 : Int) (H : Heap) : Prop :=
 (0 ≤ x23 ∧ x23 < (l21 : Int)) ∧ ptr x21 fun q162 =>
 ldI .i64 (Addr.add q162 (x23.toNat * 1)) H fun n163 =>
 l07_GraphFirst_81 nx93 Q E x3 l3 c3 x4 l4 c4 x23 n163 x21 l21 c21 x22 x23 H

def l07_GraphFirst_84_M (nx93 : Int → HP) (τ : Tau) (H : Heap) : Prop := mSl (τ 3) fun x3 l3 c3 => mSl (τ 4) fun x4 l4 c4 => mSl (τ 21) fun x21 l21 c21 => mI .i64 (τ 22) fun x22 => mI .i64 (τ 23) fun x23 => l07_GraphFirst_84 nx93 Q E x3 l3 c3 x4 l4 c4 x21 l21 c21 x22 x23 H

theorem l07_GraphFirst_85ok (nx93 : Int → HP) : Ok Pr (l07_GraphFirst_84_M Q E nx93) (sA l07_GraphFirst_p43) (l07_GraphFirst_q38 Q E nx93) E := fun τ H h =>
  wSl 3 h (fun x3 l3 c3 h => wSl 4 h (fun x4 l4 c4 h => wSl 21 h (fun x21 l21 c21 h => wI 22 h (fun x22 h => wI 23 h (fun x23 h => (conv (by kernel_rfl) h))))))

theorem l07_GraphFirst_86ok (nx93 : Int → HP) : Ok Pr (l07_GraphFirst_84_M Q E nx93) l07_GraphFirst_p43 (l07_GraphFirst_q23 Q E nx93) E := fun τ H h =>
  (conv (by kernel_rfl) (vc_seq (K := (l07_GraphFirst_81_M Q E nx93)) (l07_GraphFirst_85ok Q E nx93 τ H h) (l07_GraphFirst_83ok Q E nx93)))

theorem l07_GraphFirst_87ok (nx93 : Int → HP) : Ok Pr (l07_GraphFirst_84_M Q E nx93) (sA (sB l07_GraphFirst_p39)) (xthen (l07_GraphFirst_46_M Q E nx93) (l07_GraphFirst_q21 Q E nx93)) E := fun τ H h =>
  (conv (by kernel_rfl) (l07_GraphFirst_86ok Q E nx93 τ H h))

theorem l07_GraphFirst_88ok (nx93 : Int → HP) : Ok Pr (l07_GraphFirst_84_M Q E nx93) (sB l07_GraphFirst_p39) (l07_GraphFirst_q21 Q E nx93) E := fun τ H h =>
  (conv (by kernel_rfl) (vc_seq (K := (l07_GraphFirst_46_M Q E nx93)) (l07_GraphFirst_87ok Q E nx93 τ H h) (l07_GraphFirst_47ok Q E nx93)))

noncomputable def l07_GraphFirst_q39 (nx93 : Int → HP) : XT := (xthen (l07_GraphFirst_84_M Q E nx93) (l07_GraphFirst_q21 Q E nx93))

def l07_GraphFirst_89 (nx93 : Int → HP) (Q : QT) (E : ET) (x3 : OA) (l3 c3 : Nat) (x4 : OA) (l4 c4 : Nat) (x21 : OA) (l21 c21 : Nat) (x22 x23 : Int) (x24 : Bool) (H : Heap) : Prop :=
 sel x24
 (l07_GraphFirst_84 nx93 Q E x3 l3 c3 x4 l4 c4 x21 l21 c21 x22 x23 H)
 (l07_GraphFirst_42 Q E x3 l3 c3 x4 l4 c4 H)

def l07_GraphFirst_89_M (nx93 : Int → HP) (τ : Tau) (H : Heap) : Prop := mSl (τ 3) fun x3 l3 c3 => mSl (τ 4) fun x4 l4 c4 => mSl (τ 21) fun x21 l21 c21 => mI .i64 (τ 22) fun x22 => mI .i64 (τ 23) fun x23 => mB (τ 24) fun x24 => l07_GraphFirst_89 nx93 Q E x3 l3 c3 x4 l4 c4 x21 l21 c21 x22 x23 x24 H

theorem l07_GraphFirst_90ok (nx93 : Int → HP) : Ok Pr (l07_GraphFirst_89_M Q E nx93) (sA l07_GraphFirst_p39) (l07_GraphFirst_q39 Q E nx93) E := fun τ H h =>
  wSl 3 h (fun x3 l3 c3 h => wSl 4 h (fun x4 l4 c4 h => wSl 21 h (fun x21 l21 c21 h => wI 22 h (fun x22 h => wI 23 h (fun x23 h => wB 24 h (fun x24 h => (conv (by kernel_rfl) h)))))))

theorem l07_GraphFirst_91ok (nx93 : Int → HP) : Ok Pr (l07_GraphFirst_89_M Q E nx93) l07_GraphFirst_p39 (l07_GraphFirst_q21 Q E nx93) E := fun τ H h =>
  (conv (by kernel_rfl) (vc_seq (K := (l07_GraphFirst_84_M Q E nx93)) (l07_GraphFirst_90ok Q E nx93 τ H h) (l07_GraphFirst_88ok Q E nx93)))

noncomputable def l07_GraphFirst_q40 (nx93 : Int → HP) : XT := (xthen (l07_GraphFirst_89_M Q E nx93) (l07_GraphFirst_q21 Q E nx93))

def l07_GraphFirst_92 (nx93 : Int → HP) (Q : QT) (E : ET) (x3 : OA) (l3 c3 : Nat) (x4 : OA) (l4 c4 : Nat) (x21 : OA) (l21 c21 : Nat) (x22 x23 : Int) (H : Heap) : Prop :=
 l07_GraphFirst_89 nx93 Q E x3 l3 c3 x4 l4 c4 x21 l21 c21 x22 x23 (decide (x23 < x22)) H

def l07_GraphFirst_92_M (nx93 : Int → HP) (τ : Tau) (H : Heap) : Prop := mSl (τ 3) fun x3 l3 c3 => mSl (τ 4) fun x4 l4 c4 => mSl (τ 21) fun x21 l21 c21 => mI .i64 (τ 22) fun x22 => mI .i64 (τ 23) fun x23 => l07_GraphFirst_92 nx93 Q E x3 l3 c3 x4 l4 c4 x21 l21 c21 x22 x23 H

theorem l07_GraphFirst_93ok (nx93 : Int → HP) : Ok Pr (l07_GraphFirst_92_M Q E nx93) (sA (sI l07_GraphFirst_p37)) (l07_GraphFirst_q40 Q E nx93) E := fun τ H h =>
  wSl 3 h (fun x3 l3 c3 h => wSl 4 h (fun x4 l4 c4 h => wSl 21 h (fun x21 l21 c21 h => wI 22 h (fun x22 h => wI 23 h (fun x23 h => (conv (by kernel_rfl) h))))))

theorem l07_GraphFirst_94ok (nx93 : Int → HP) : Ok Pr (l07_GraphFirst_92_M Q E nx93) (sI l07_GraphFirst_p37) (l07_GraphFirst_q21 Q E nx93) E := fun τ H h =>
  (conv (by kernel_rfl) (vc_seq (K := (l07_GraphFirst_89_M Q E nx93)) (l07_GraphFirst_93ok Q E nx93 τ H h) (l07_GraphFirst_91ok Q E nx93)))

def l07_GraphFirst_95 (Q : QT) (E : ET) (x3 : OA) (l3 c3 : Nat) (x4 : OA) (l4 c4 : Nat) (x21 : OA) (l21 c21 : Nat) (x22 x23 : Int) (H : Heap) : Prop :=
 ∃ (I : Int → HP) (μ : Int → Heap → Nat), I x23 H ∧ ∀ (x23 : Int) (H : Heap), I x23 H →
 l07_GraphFirst_92 (fun x23' H1 => I x23' H1 ∧ μ x23' H1 < μ x23 H) Q E x3 l3 c3 x4 l4 c4 x21 l21 c21 x22 x23 H

def l07_GraphFirst_95_M  (τ : Tau) (H : Heap) : Prop := mSl (τ 3) fun x3 l3 c3 => mSl (τ 4) fun x4 l4 c4 => mSl (τ 21) fun x21 l21 c21 => mI .i64 (τ 22) fun x22 => mI .i64 (τ 23) fun x23 => l07_GraphFirst_95 Q E x3 l3 c3 x4 l4 c4 x21 l21 c21 x22 x23 H

theorem l07_GraphFirst_96ok  : Ok Pr (l07_GraphFirst_95_M Q E) l07_GraphFirst_p37 (xblock 0 (l07_GraphFirst_q19 Q E)) E := fun τ H h =>
  wSl 3 h (fun x3 l3 c3 h => wSl 4 h (fun x4 l4 c4 h => wSl 21 h (fun x21 l21 c21 h => wI 22 h (fun x22 h => wI 23 h (fun x23 h => match h with | ⟨I, μ, h0, hr⟩ => (conv (by kernel_rfl) (vc_loopG (c := sI l07_GraphFirst_p37) (τ := (Tau.upd (Tau.upd (Tau.upd (Tau.upd (Tau.upd τ 3 (.slice x3 l3 c3)) 4 (.slice x4 l4 c4)) 21 (.slice x21 l21 c21)) 22 (.int .i64 x22)) 23 (.int .i64 x23))) [3, 4, 21, 22] (fun τ H => mI .i64 (τ 23) fun x23' => I x23' H) (fun τ H => μ (gI (τ 23)) H) (by kernel_rfl) h0 (fun τ1 H1 hf hI => uF 3 (.slice x3 l3 c3) (hf 3 (by simp)) (uF 4 (.slice x4 l4 c4) (hf 4 (by simp)) (uF 21 (.slice x21 l21 c21) (hf 21 (by simp)) (uF 22 (.int .i64 x22) (hf 22 (by simp)) (uI 23 hI (fun x23r h => lgx (l07_GraphFirst_94ok Q E (fun x23' H2 => I x23' H2 ∧ μ x23' H2 < μ x23r H1) (Tau.upd (Tau.upd (Tau.upd (Tau.upd (Tau.upd τ1 3 (.slice x3 l3 c3)) 4 (.slice x4 l4 c4)) 21 (.slice x21 l21 c21)) 22 (.int .i64 x22)) 23 (.int .i64 x23r)) H1 (conv (by kernel_rfl) (hr x23r H1 h))) (fun τ2 H2 hk => kI 23 hk (fun x23' h => conv (by kernel_rfl) h)))))))))))))))

theorem l07_GraphFirst_97ok  : Ok Pr (l07_GraphFirst_95_M Q E) (sB (sA l07_GraphFirst_p4)) (l07_GraphFirst_q19 Q E) E := fun τ H h =>
  (conv (by kernel_rfl) (l07_GraphFirst_96ok Q E τ H h))

noncomputable def l07_GraphFirst_q41  : XT := (xthen (l07_GraphFirst_95_M Q E) (l07_GraphFirst_q19 Q E))

def l07_GraphFirst_98 (Q : QT) (E : ET) (x3 : OA) (l3 c3 : Nat) (x4 : OA) (l4 c4 : Nat) (H : Heap) : Prop :=
 l07_GraphFirst_95 Q E x3 l3 c3 x4 l4 c4 x4 l4 c4 (l4 : Int) 0 H

def l07_GraphFirst_98_M  (τ : Tau) (H : Heap) : Prop := mSl (τ 3) fun x3 l3 c3 => mSl (τ 4) fun x4 l4 c4 => l07_GraphFirst_98 Q E x3 l3 c3 x4 l4 c4 H

theorem l07_GraphFirst_99ok  : Ok Pr (l07_GraphFirst_98_M Q E) (sA (sA l07_GraphFirst_p4)) (l07_GraphFirst_q41 Q E) E := fun τ H h =>
  wSl 3 h (fun x3 l3 c3 h => wSl 4 h (fun x4 l4 c4 h => (conv (by kernel_rfl) h)))

theorem l07_GraphFirst_100ok  : Ok Pr (l07_GraphFirst_98_M Q E) (sA l07_GraphFirst_p4) (l07_GraphFirst_q19 Q E) E := fun τ H h =>
  (conv (by kernel_rfl) (vc_seq (K := (l07_GraphFirst_95_M Q E)) (l07_GraphFirst_99ok Q E τ H h) (l07_GraphFirst_97ok Q E)))

theorem l07_GraphFirst_101ok  : Ok Pr (l07_GraphFirst_98_M Q E) l07_GraphFirst_p4 (l07_GraphFirst_q1 Q E) E := fun τ H h =>
  (conv (by kernel_rfl) (vc_seq (K := (l07_GraphFirst_42_M Q E)) (l07_GraphFirst_100ok Q E τ H h) (l07_GraphFirst_45ok Q E)))

def l07_GraphFirst_102 (Q : QT) (E : ET) (x3 : OA) (l3 c3 : Nat) (H : Heap) : Prop :=
 Does Pr 8 #[(.slice x3 l3 c3)] H (fun v164 H165 =>
 ∃ (p166 : OA) (l167 c168 : Nat), v164 = (.slice p166 l167 c168) ∧ l07_GraphFirst_98 Q E x3 l3 c3 p166 l167 c168 H165) E

def l07_GraphFirst_102_M  (τ : Tau) (H : Heap) : Prop := mSl (τ 3) fun x3 l3 c3 => l07_GraphFirst_102 Q E x3 l3 c3 H

theorem l07_GraphFirst_103ok  : Ok Pr (l07_GraphFirst_102_M Q E) (sA (sB (sB (sB (bodyOf Try.f4))))) (xthen (l07_GraphFirst_98_M Q E) (l07_GraphFirst_q1 Q E)) E := fun τ H h =>
  wSl 3 h (fun x3 l3 c3 h => (conv (by kernel_rfl) h))

theorem l07_GraphFirst_104ok  : Ok Pr (l07_GraphFirst_102_M Q E) (sB (sB (sB (bodyOf Try.f4)))) (l07_GraphFirst_q1 Q E) E := fun τ H h =>
  (conv (by kernel_rfl) (vc_seq (K := (l07_GraphFirst_98_M Q E)) (l07_GraphFirst_103ok Q E τ H h) (l07_GraphFirst_101ok Q E)))

def l07_GraphFirst_105 (Q : QT) (E : ET) (x0 : OA) (l0 c0 : Nat) (H : Heap) : Prop :=
 Does Pr 7 #[(.slice x0 l0 c0)] H (fun v169 H170 =>
 ∃ (p171 : OA) (l172 c173 : Nat), v169 = (.slice p171 l172 c173) ∧ l07_GraphFirst_102 Q E p171 l172 c173 H170) E

def l07_GraphFirst_105_M  (τ : Tau) (H : Heap) : Prop := mSl (τ 0) fun x0 l0 c0 => l07_GraphFirst_105 Q E x0 l0 c0 H

theorem l07_GraphFirst_106ok  : Ok Pr (l07_GraphFirst_105_M Q E) (sA (sB (sB (bodyOf Try.f4)))) (xthen (l07_GraphFirst_102_M Q E) (l07_GraphFirst_q1 Q E)) E := fun τ H h =>
  wSl 0 h (fun x0 l0 c0 h => (conv (by kernel_rfl) h))

theorem l07_GraphFirst_107ok  : Ok Pr (l07_GraphFirst_105_M Q E) (sB (sB (bodyOf Try.f4))) (l07_GraphFirst_q1 Q E) E := fun τ H h =>
  (conv (by kernel_rfl) (vc_seq (K := (l07_GraphFirst_102_M Q E)) (l07_GraphFirst_106ok Q E τ H h) (l07_GraphFirst_104ok Q E)))

def l07_GraphFirst_108 (Q : QT) (E : ET) (x0 : OA) (l0 c0 : Nat) (H : Heap) : Prop :=
 Does Pr 6 #[] H (fun v174 H175 =>
 ∃ b176 : Bool, v174 = (.bool b176) ∧ sel (!b176)
 (Q (.bool false) H175)
 (l07_GraphFirst_105 Q E x0 l0 c0 H175)) E

def l07_GraphFirst_108_M  (τ : Tau) (H : Heap) : Prop := mSl (τ 0) fun x0 l0 c0 => l07_GraphFirst_108 Q E x0 l0 c0 H

theorem l07_GraphFirst_109ok  : Ok Pr (l07_GraphFirst_108_M Q E) (sA (sB (bodyOf Try.f4))) (xthen (l07_GraphFirst_105_M Q E) (l07_GraphFirst_q1 Q E)) E := fun τ H h =>
  wSl 0 h (fun x0 l0 c0 h => (conv (by kernel_rfl) h))

theorem l07_GraphFirst_110ok  : Ok Pr (l07_GraphFirst_108_M Q E) (sB (bodyOf Try.f4)) (l07_GraphFirst_q1 Q E) E := fun τ H h =>
  (conv (by kernel_rfl) (vc_seq (K := (l07_GraphFirst_105_M Q E)) (l07_GraphFirst_109ok Q E τ H h) (l07_GraphFirst_107ok Q E)))

def l07_GraphFirst (Q : QT) (E : ET) (a0 : OA) (a0l : Nat) (a0c : Nat) (H : Heap) : Prop :=
 l07_GraphFirst_108 Q E a0 a0l a0c H

theorem l07_GraphFirst_fn (a0 : OA) (a0l : Nat) (a0c : Nat) (Q : QT) (E : ET) (H : Heap) (h : l07_GraphFirst Q E a0 a0l a0c H)   : Does Pr 4 #[(.slice a0 a0l a0c)] H Q E :=
  Fn_of_vc (fn := Try.f4) (c := (bodyOf Try.f4)) (args := [(.slice a0 a0l a0c)]) mixed (by kernel_rfl) (by kernel_rfl) (by kernel_rfl) (by kernel_rfl) (by kernel_rfl) ((conv (B := vc Pr (bodyOf Try.f4) (argT [(.slice a0 a0l a0c)]) (l07_GraphFirst_q1 Q E) E H) (by kernel_rfl) (vc_seq (K := (l07_GraphFirst_108_M Q E)) (conv (B := vc Pr (sA (bodyOf Try.f4)) (argT [(.slice a0 a0l a0c)]) (xthen (l07_GraphFirst_108_M Q E) (l07_GraphFirst_q1 Q E)) E H) (by kernel_rfl) h) (l07_GraphFirst_110ok Q E))))

/-! jobmux/jobmuxlaw07.sane -/
noncomputable def l07_sane_q1 (Q : QT) (E : ET)  : XT := (retQ Pr (Try.f6).results.toList Q)

def l07_sane (Q : QT) (E : ET)  (H : Heap) : Prop :=
 nw (.cells #[(.string ⟨[98].toArray⟩)] 9 (0, 0)) H fun i1 H2 =>
 nw (.cells #[(.string ⟨[97].toArray⟩), (.string ⟨#[]⟩), (.slice none 0 0), (.slice (some ⟨i1, 0, none⟩) 1 1), (.bool false), (.string ⟨#[]⟩), (.int .i64 0), (.int .u64 0), (.int .u64 0), (.int .u64 0), (.int .i64 0), (.int .u64 0), (.slice none 0 0), (.int .i64 0), (.int .i64 0), (.string ⟨[98].toArray⟩), (.string ⟨#[]⟩), (.slice none 0 0), (.slice none 0 0), (.bool false), (.string ⟨#[]⟩), (.int .i64 0), (.int .u64 0), (.int .u64 0), (.int .u64 0), (.int .i64 0), (.int .u64 0), (.slice none 0 0), (.int .i64 0), (.int .i64 0)] 36 (0, 0)) H2 fun i3 H4 =>
 Does Pr 8 #[(.slice (some ⟨i3, 0, none⟩) 2 2)] H4 (fun v5 H6 =>
 ∃ (p7 : OA) (l8 c9 : Nat), v5 = (.slice p7 l8 c9) ∧ nw (.cells #[(.string ⟨[97].toArray⟩)] 9 (0, 0)) H6 fun i10 H11 =>
 (0 ≤ (1 : Int) ∧ (1 : Int) < ((2 : Nat) : Int)) ∧ wr ⟨i3, 18, none⟩ [(.slice (some ⟨i10, 0, none⟩) 1 1)] H11 fun H12 =>
 sel (((l8 : Int) : Int) == 2)
 ((0 ≤ (0 : Int) ∧ (0 : Int) < (l8 : Int)) ∧ ptr p7 fun q13 =>
 ldI .i64 q13 H12 fun n14 =>
 sel (n14 == 1)
 ((0 ≤ (1 : Int) ∧ (1 : Int) < (l8 : Int)) ∧ ptr p7 fun q15 =>
 ldI .i64 (Addr.add q15 1) H12 fun n16 =>
 sel (n16 == 0)
 (Does Pr 8 #[(.slice (some ⟨i3, 0, none⟩) 2 2)] H12 (fun v17 H18 =>
 ∃ (p19 : OA) (l20 c21 : Nat), v17 = (.slice p19 l20 c21) ∧ sel (((l20 : Int) : Int) == 0)
 (Does Pr 9 #[(.slice (some ⟨i3, 0, none⟩) 2 2)] H18 (fun v22 H23 =>
 ∃ (p24 : OA) (l25 c26 : Nat), v22 = (.slice p24 l25 c26) ∧ Q (.bool (((l25 : Int) : Int) == 2)) H23) E)
 (Q (.bool false) H18)) E)
 (Q (.bool false) H12))
 (Q (.bool false) H12))
 (Q (.bool false) H12)) E

theorem l07_sane_fn  (Q : QT) (E : ET) (H : Heap) (h : l07_sane Q E  H)   : Does Pr 6 #[] H Q E :=
  Fn_of_vc (fn := Try.f6) (c := (bodyOf Try.f6)) (args := []) mixed (by kernel_rfl) (by kernel_rfl) (by kernel_rfl) (by kernel_rfl) (by kernel_rfl) ((conv (B := vc Pr (bodyOf Try.f6) (argT []) (l07_sane_q1 Q E) E H) (by kernel_rfl) h))

/-! jobmux/jobmuxlaw07.wild -/
noncomputable def l07_wild_q1 (Q : QT) (E : ET)  : XT := (retQ Pr (Try.f7).results.toList Q)

noncomputable def l07_wild_p1 : Code := sB (bodyOf Try.f7)

def l07_wild_1 (Q : QT) (E : ET) (x4 : OA) (l4 c4 : Nat) (H : Heap) : Prop :=
 Q (.slice x4 l4 c4) H

def l07_wild_1_M  (τ : Tau) (H : Heap) : Prop := mSl (τ 4) fun x4 l4 c4 => l07_wild_1 Q E x4 l4 c4 H

theorem l07_wild_2ok  : Ok Pr (l07_wild_1_M Q E) (sB (sB (sB l07_wild_p1))) (l07_wild_q1 Q E) E := fun τ H h =>
  wSl 4 h (fun x4 l4 c4 h => (conv (by kernel_rfl) h))

noncomputable def l07_wild_q2  : XT := (xthen (l07_wild_1_M Q E) (l07_wild_q1 Q E))

noncomputable def l07_wild_p5 : Code := sA (sB (sB l07_wild_p1))

noncomputable def l07_wild_q4 (nx64 : OA → Nat → Nat → Int → HP) : XT := (xthen (fun τ H => mSl (τ 4) fun x4' l4' c4' => mI .i64 (τ 5) fun x5' => nx64 x4' l4' c4' x5' H) (xblock 0 (l07_wild_q2 Q E)))

noncomputable def l07_wild_p8 : Code := sI (sI (sB l07_wild_p5))

noncomputable def l07_wild_p9 : Code := sB l07_wild_p8

def l07_wild_3 (nx64 : OA → Nat → Nat → Int → HP) (Q : QT) (E : ET) (x3 x4 : OA) (l4 c4 : Nat) (x5 : Int) (H : Heap) : Prop :=
 nx64 x4 l4 c4 (IntKind.wrap .i64 (x5 + 1)) H

def l07_wild_3_M (nx64 : OA → Nat → Nat → Int → HP) (τ : Tau) (H : Heap) : Prop := mP (τ 3) fun x3 => mSl (τ 4) fun x4 l4 c4 => mI .i64 (τ 5) fun x5 => l07_wild_3 nx64 Q E x3 x4 l4 c4 x5 H

theorem l07_wild_4ok (nx64 : OA → Nat → Nat → Int → HP) : Ok Pr (l07_wild_3_M Q E nx64) (sB l07_wild_p9) (l07_wild_q4 Q E nx64) E := fun τ H h =>
  wP 3 h (fun x3 h => wSl 4 h (fun x4 l4 c4 h => wI 5 h (fun x5 h => (conv (by kernel_rfl) h))))

noncomputable def l07_wild_q6 (nx64 : OA → Nat → Nat → Int → HP) : XT := (xblock 1 (xthen (l07_wild_3_M Q E nx64) (l07_wild_q4 Q E nx64)))

noncomputable def l07_wild_p13 : Code := sB (sI (sA l07_wild_p9))

def l07_wild_5 (nx64 : OA → Nat → Nat → Int → HP) (Q : QT) (E : ET) (x3 x4 : OA) (l4 c4 : Nat) (x5 : Int) (x6 : OA) (H : Heap) : Prop :=
 ptr x6 fun q155 =>
 ∃ s156 : ByteArray, ∃ s157 : ByteArray, ∃ (p158 : OA) (l159 c160 : Nat), ∃ (p161 : OA) (l162 c163 : Nat), ∃ b164 : Bool, ∃ s165 : ByteArray, ∃ n166 n167 n168 n169 n170 n171 : Int, ∃ (p172 : OA) (l173 c174 : Nat), ∃ n175 n176 : Int, Heap.rd H q155 0 [(.string s156), (.string s157), (.slice p158 l159 c160), (.slice p161 l162 c163), (.bool b164), (.string s165), (.int .i64 n166), (.int .u64 n167), (.int .u64 n168), (.int .u64 n169), (.int .i64 n170), (.int .u64 n171), (.slice p172 l173 c174), (.int .i64 n175), (.int .i64 n176)] ∧ nw (.cells #[(.string s156), (.string s157), (.slice p158 l159 c160), (.slice p161 l162 c163), (.bool b164), (.string s165), (.int .i64 n166), (.int .u64 n167), (.int .u64 n168), (.int .u64 n169), (.int .i64 n170), (.int .u64 n171), (.slice p172 l173 c174), (.int .i64 n175), (.int .i64 n176)] 36 (0, 0)) H fun i177 H178 =>
 app Pr 24 x4 l4 c4 (.slice (some ⟨i177, 0, none⟩) 1 1) H178 fun p179 l180 c181 H182 =>
 l07_wild_3 nx64 Q E x3 p179 l180 c181 x5 H182

def l07_wild_5_M (nx64 : OA → Nat → Nat → Int → HP) (τ : Tau) (H : Heap) : Prop := mP (τ 3) fun x3 => mSl (τ 4) fun x4 l4 c4 => mI .i64 (τ 5) fun x5 => mP (τ 6) fun x6 => l07_wild_5 nx64 Q E x3 x4 l4 c4 x5 x6 H

theorem l07_wild_6ok (nx64 : OA → Nat → Nat → Int → HP) : Ok Pr (l07_wild_5_M Q E nx64) (sB (sB l07_wild_p13)) (l07_wild_q6 Q E nx64) E := fun τ H h =>
  wP 3 h (fun x3 h => wSl 4 h (fun x4 l4 c4 h => wI 5 h (fun x5 h => wP 6 h (fun x6 h => (conv (by kernel_rfl) h)))))

noncomputable def l07_wild_q7 (nx64 : OA → Nat → Nat → Int → HP) : XT := (xthen (l07_wild_5_M Q E nx64) (l07_wild_q6 Q E nx64))

noncomputable def l07_wild_p16 : Code := sA (sB l07_wild_p13)

noncomputable def l07_wild_q9 (nx64 : OA → Nat → Nat → Int → HP) (nx186 : Int → HP) : XT := (xthen (fun τ H => mI .i64 (τ 7) fun x7' => nx186 x7' H) (xblock 2 (l07_wild_q7 Q E nx64)))

noncomputable def l07_wild_p19 : Code := sI (sI (sB l07_wild_p16))

def l07_wild_7 (nx64 : OA → Nat → Nat → Int → HP) (nx186 : Int → HP) (Q : QT) (E : ET) (x3 x4 : OA) (l4 c4 : Nat) (x5 : Int) (x6 : OA) (x7 : Int) (H : Heap) : Prop :=
 ∃ Z187 : Nat → Prop,
 ptr x6 fun q188 =>
 Z187 (Addr.block (Addr.add q188 3)) ∧ ldSl (Addr.add q188 3) H fun p189 l190 c191 =>
 Does Pr 16 #[(.pointer x3), (.int .i64 8)] H (fun v192 H193 =>
 ∃ n194 : Int, v192 = (.int .i64 n194) ∧ (∀ z, Z187 z → H z ≠ none → H193 z = H z) ∧ (∀ z, Z187 z → H193 z ≠ none → H193 z = H193 z) ∧ nw (.cells #[(.int .u8 (IntKind.wrap .u8 (IntKind.wrap .i64 (97 + n194))))] 5 (0, 0)) H193 fun i195 H196 =>
 ∃ bs197 : List UInt8, bs197.length = 1 ∧ Heap.rdS H196 (some ⟨i195, 0, none⟩) (bs197.map byteV) ∧ (∀ z, Z187 z → H196 z ≠ none → H196 z = H196 z) ∧ nw (.cells #[(.string (⟨bs197.toArray⟩ : ByteArray))] 9 (0, 0)) H196 fun i198 H199 =>
 app Pr 31 p189 l190 c191 (.slice (some ⟨i198, 0, none⟩) 1 1) H199 fun p200 l201 c202 H203 =>
 ptr x6 fun q204 =>
 wr (Addr.add q204 3) [(.slice p200 l201 c202)] H203 fun H205 =>
 nx186 (IntKind.wrap .i64 (x7 - 1)) H205) (fun _ _ => False)

def l07_wild_7_M (nx64 : OA → Nat → Nat → Int → HP) (nx186 : Int → HP) (τ : Tau) (H : Heap) : Prop := mP (τ 3) fun x3 => mSl (τ 4) fun x4 l4 c4 => mI .i64 (τ 5) fun x5 => mP (τ 6) fun x6 => mI .i64 (τ 7) fun x7 => l07_wild_7 nx64 nx186 Q E x3 x4 l4 c4 x5 x6 x7 H

theorem l07_wild_8ok (nx64 : OA → Nat → Nat → Int → HP) (nx186 : Int → HP) : Ok Pr (l07_wild_7_M Q E nx64 nx186) (sB l07_wild_p19) (l07_wild_q9 Q E nx64 nx186) E := fun τ H h =>
  wP 3 h (fun x3 h => wSl 4 h (fun x4 l4 c4 h => wI 5 h (fun x5 h => wP 6 h (fun x6 h => wI 7 h (fun x7 h => (conv (by kernel_rfl) h))))))

noncomputable def l07_wild_q10 (nx64 : OA → Nat → Nat → Int → HP) (nx186 : Int → HP) : XT := (xthen (l07_wild_7_M Q E nx64 nx186) (l07_wild_q9 Q E nx64 nx186))

def l07_wild_9 (nx64 : OA → Nat → Nat → Int → HP) (nx186 : Int → HP) (Q : QT) (E : ET) (x3 x4 : OA) (l4 c4 : Nat) (x5 : Int) (x6 : OA) (x7 : Int) (H : Heap) : Prop :=
 sel (decide (x7 > 0))
 (l07_wild_7 nx64 nx186 Q E x3 x4 l4 c4 x5 x6 x7 H)
 (l07_wild_5 nx64 Q E x3 x4 l4 c4 x5 x6 H)

def l07_wild_9_M (nx64 : OA → Nat → Nat → Int → HP) (nx186 : Int → HP) (τ : Tau) (H : Heap) : Prop := mP (τ 3) fun x3 => mSl (τ 4) fun x4 l4 c4 => mI .i64 (τ 5) fun x5 => mP (τ 6) fun x6 => mI .i64 (τ 7) fun x7 => l07_wild_9 nx64 nx186 Q E x3 x4 l4 c4 x5 x6 x7 H

theorem l07_wild_10ok (nx64 : OA → Nat → Nat → Int → HP) (nx186 : Int → HP) : Ok Pr (l07_wild_9_M Q E nx64 nx186) (sA l07_wild_p19) (l07_wild_q10 Q E nx64 nx186) E := fun τ H h =>
  wP 3 h (fun x3 h => wSl 4 h (fun x4 l4 c4 h => wI 5 h (fun x5 h => wP 6 h (fun x6 h => wI 7 h (fun x7 h => (conv (by kernel_rfl) h))))))

theorem l07_wild_11ok (nx64 : OA → Nat → Nat → Int → HP) (nx186 : Int → HP) : Ok Pr (l07_wild_9_M Q E nx64 nx186) l07_wild_p19 (l07_wild_q9 Q E nx64 nx186) E := fun τ H h =>
  (conv (by kernel_rfl) (vc_seq (K := (l07_wild_7_M Q E nx64 nx186)) (l07_wild_10ok Q E nx64 nx186 τ H h) (l07_wild_8ok Q E nx64 nx186)))

def l07_wild_12 (nx64 : OA → Nat → Nat → Int → HP) (Q : QT) (E : ET) (x3 x4 : OA) (l4 c4 : Nat) (x5 : Int) (x6 : OA) (x7 : Int) (H : Heap) : Prop :=
 ∃ (I : Int → HP) (μ : Int → Heap → Nat), I x7 H ∧ ∀ (x7 : Int) (H : Heap), I x7 H →
 l07_wild_9 nx64 (fun x7' H1 => I x7' H1 ∧ μ x7' H1 < μ x7 H) Q E x3 x4 l4 c4 x5 x6 x7 H

def l07_wild_12_M (nx64 : OA → Nat → Nat → Int → HP) (τ : Tau) (H : Heap) : Prop := mP (τ 3) fun x3 => mSl (τ 4) fun x4 l4 c4 => mI .i64 (τ 5) fun x5 => mP (τ 6) fun x6 => mI .i64 (τ 7) fun x7 => l07_wild_12 nx64 Q E x3 x4 l4 c4 x5 x6 x7 H

theorem l07_wild_13ok (nx64 : OA → Nat → Nat → Int → HP) : Ok Pr (l07_wild_12_M Q E nx64) (sI (sB l07_wild_p16)) (xblock 2 (l07_wild_q7 Q E nx64)) E := fun τ H h =>
  wP 3 h (fun x3 h => wSl 4 h (fun x4 l4 c4 h => wI 5 h (fun x5 h => wP 6 h (fun x6 h => wI 7 h (fun x7 h => match h with | ⟨I, μ, h0, hr⟩ => (conv (by kernel_rfl) (vc_loopG (c := sI (sI (sB l07_wild_p16))) (τ := (Tau.upd (Tau.upd (Tau.upd (Tau.upd (Tau.upd τ 3 (.pointer x3)) 4 (.slice x4 l4 c4)) 5 (.int .i64 x5)) 6 (.pointer x6)) 7 (.int .i64 x7))) [3, 4, 5, 6] (fun τ H => mI .i64 (τ 7) fun x7' => I x7' H) (fun τ H => μ (gI (τ 7)) H) (by kernel_rfl) h0 (fun τ1 H1 hf hI => uF 3 (.pointer x3) (hf 3 (by simp)) (uF 4 (.slice x4 l4 c4) (hf 4 (by simp)) (uF 5 (.int .i64 x5) (hf 5 (by simp)) (uF 6 (.pointer x6) (hf 6 (by simp)) (uI 7 hI (fun x7r h => lgx (l07_wild_11ok Q E nx64 (fun x7' H2 => I x7' H2 ∧ μ x7' H2 < μ x7r H1) (Tau.upd (Tau.upd (Tau.upd (Tau.upd (Tau.upd τ1 3 (.pointer x3)) 4 (.slice x4 l4 c4)) 5 (.int .i64 x5)) 6 (.pointer x6)) 7 (.int .i64 x7r)) H1 (conv (by kernel_rfl) (hr x7r H1 h))) (fun τ2 H2 hk => kI 7 hk (fun x7' h => conv (by kernel_rfl) h)))))))))))))))

theorem l07_wild_14ok (nx64 : OA → Nat → Nat → Int → HP) : Ok Pr (l07_wild_12_M Q E nx64) (sB l07_wild_p16) (l07_wild_q7 Q E nx64) E := fun τ H h =>
  (conv (by kernel_rfl) (l07_wild_13ok Q E nx64 τ H h))

noncomputable def l07_wild_q11 (nx64 : OA → Nat → Nat → Int → HP) : XT := (xthen (l07_wild_12_M Q E nx64) (l07_wild_q7 Q E nx64))

def l07_wild_15 (nx64 : OA → Nat → Nat → Int → HP) (Q : QT) (E : ET) (x3 x4 : OA) (l4 c4 : Nat) (x5 : Int) (x6 : OA) (H : Heap) : Prop :=
 Does Pr 16 #[(.pointer x3), (.int .i64 3)] H (fun v206 H207 =>
 ∃ n208 : Int, v206 = (.int .i64 n208) ∧ l07_wild_12 nx64 Q E x3 x4 l4 c4 x5 x6 n208 H207) E

def l07_wild_15_M (nx64 : OA → Nat → Nat → Int → HP) (τ : Tau) (H : Heap) : Prop := mP (τ 3) fun x3 => mSl (τ 4) fun x4 l4 c4 => mI .i64 (τ 5) fun x5 => mP (τ 6) fun x6 => l07_wild_15 nx64 Q E x3 x4 l4 c4 x5 x6 H

theorem l07_wild_16ok (nx64 : OA → Nat → Nat → Int → HP) : Ok Pr (l07_wild_15_M Q E nx64) (sA l07_wild_p16) (l07_wild_q11 Q E nx64) E := fun τ H h =>
  wP 3 h (fun x3 h => wSl 4 h (fun x4 l4 c4 h => wI 5 h (fun x5 h => wP 6 h (fun x6 h => (conv (by kernel_rfl) h)))))

theorem l07_wild_17ok (nx64 : OA → Nat → Nat → Int → HP) : Ok Pr (l07_wild_15_M Q E nx64) l07_wild_p16 (l07_wild_q7 Q E nx64) E := fun τ H h =>
  (conv (by kernel_rfl) (vc_seq (K := (l07_wild_12_M Q E nx64)) (l07_wild_16ok Q E nx64 τ H h) (l07_wild_14ok Q E nx64)))

theorem l07_wild_18ok (nx64 : OA → Nat → Nat → Int → HP) : Ok Pr (l07_wild_15_M Q E nx64) (sB l07_wild_p13) (l07_wild_q6 Q E nx64) E := fun τ H h =>
  (conv (by kernel_rfl) (vc_seq (K := (l07_wild_5_M Q E nx64)) (l07_wild_17ok Q E nx64 τ H h) (l07_wild_6ok Q E nx64)))

noncomputable def l07_wild_q12 (nx64 : OA → Nat → Nat → Int → HP) : XT := (xthen (l07_wild_15_M Q E nx64) (l07_wild_q6 Q E nx64))

def l07_wild_19 (nx64 : OA → Nat → Nat → Int → HP) (Q : QT) (E : ET) (x3 x4 : OA) (l4 c4 : Nat) (x5 : Int) (x6 : OA) (H : Heap) : Prop :=
 Does Pr 16 #[(.pointer x3), (.int .i64 8)] H (fun v209 H210 =>
 ∃ n211 : Int, v209 = (.int .i64 n211) ∧ sel (n211 == 0)
 (ptr x6 fun q212 =>
 wr q212 [(.string ⟨[97].toArray⟩)] H210 fun H213 =>
 l07_wild_15 nx64 Q E x3 x4 l4 c4 x5 x6 H213)
 (l07_wild_15 nx64 Q E x3 x4 l4 c4 x5 x6 H210)) E

def l07_wild_19_M (nx64 : OA → Nat → Nat → Int → HP) (τ : Tau) (H : Heap) : Prop := mP (τ 3) fun x3 => mSl (τ 4) fun x4 l4 c4 => mI .i64 (τ 5) fun x5 => mP (τ 6) fun x6 => l07_wild_19 nx64 Q E x3 x4 l4 c4 x5 x6 H

theorem l07_wild_20ok (nx64 : OA → Nat → Nat → Int → HP) : Ok Pr (l07_wild_19_M Q E nx64) (sA l07_wild_p13) (l07_wild_q12 Q E nx64) E := fun τ H h =>
  wP 3 h (fun x3 h => wSl 4 h (fun x4 l4 c4 h => wI 5 h (fun x5 h => wP 6 h (fun x6 h => (conv (by kernel_rfl) h)))))

theorem l07_wild_21ok (nx64 : OA → Nat → Nat → Int → HP) : Ok Pr (l07_wild_19_M Q E nx64) l07_wild_p13 (l07_wild_q6 Q E nx64) E := fun τ H h =>
  (conv (by kernel_rfl) (vc_seq (K := (l07_wild_15_M Q E nx64)) (l07_wild_20ok Q E nx64 τ H h) (l07_wild_18ok Q E nx64)))

def l07_wild_22 (nx64 : OA → Nat → Nat → Int → HP) (Q : QT) (E : ET) (x3 x4 : OA) (l4 c4 : Nat) (x5 : Int) (H : Heap) : Prop :=
 nw (.cells #[(.int .u8 (IntKind.wrap .u8 (IntKind.wrap .i64 (97 + x5))))] 5 (0, 0)) H fun i214 H215 =>
 ∃ bs216 : List UInt8, bs216.length = 1 ∧ Heap.rdS H215 (some ⟨i214, 0, none⟩) (bs216.map byteV) ∧ nw (.cells #[(.string ⟨#[]⟩), (.string ⟨#[]⟩), (.slice none 0 0), (.slice none 0 0), (.bool false), (.string ⟨#[]⟩), (.int .i64 0), (.int .u64 0), (.int .u64 0), (.int .u64 0), (.int .i64 0), (.int .u64 0), (.slice none 0 0), (.int .i64 0), (.int .i64 0)] 36 (0, 0)) H215 fun i217 H218 =>
 wr ⟨i217, 0, none⟩ [(.string (⟨bs216.toArray⟩ : ByteArray)), (.string ⟨#[]⟩), (.slice none 0 0), (.slice none 0 0), (.bool false), (.string ⟨#[]⟩), (.int .i64 0), (.int .u64 0), (.int .u64 0), (.int .u64 0), (.int .i64 0), (.int .u64 0), (.slice none 0 0), (.int .i64 0), (.int .i64 0)] H218 fun H219 =>
 l07_wild_19 nx64 Q E x3 x4 l4 c4 x5 (some ⟨i217, 0, none⟩) H219

def l07_wild_22_M (nx64 : OA → Nat → Nat → Int → HP) (τ : Tau) (H : Heap) : Prop := mP (τ 3) fun x3 => mSl (τ 4) fun x4 l4 c4 => mI .i64 (τ 5) fun x5 => l07_wild_22 nx64 Q E x3 x4 l4 c4 x5 H

theorem l07_wild_23ok (nx64 : OA → Nat → Nat → Int → HP) : Ok Pr (l07_wild_22_M Q E nx64) (sA (sI (sA l07_wild_p9))) (xthen (l07_wild_19_M Q E nx64) (l07_wild_q6 Q E nx64)) E := fun τ H h =>
  wP 3 h (fun x3 h => wSl 4 h (fun x4 l4 c4 h => wI 5 h (fun x5 h => (conv (by kernel_rfl) h))))

theorem l07_wild_24ok (nx64 : OA → Nat → Nat → Int → HP) : Ok Pr (l07_wild_22_M Q E nx64) (sI (sA l07_wild_p9)) (l07_wild_q6 Q E nx64) E := fun τ H h =>
  (conv (by kernel_rfl) (vc_seq (K := (l07_wild_19_M Q E nx64)) (l07_wild_23ok Q E nx64 τ H h) (l07_wild_21ok Q E nx64)))

theorem l07_wild_25ok (nx64 : OA → Nat → Nat → Int → HP) : Ok Pr (l07_wild_22_M Q E nx64) (sA l07_wild_p9) (xthen (l07_wild_3_M Q E nx64) (l07_wild_q4 Q E nx64)) E := fun τ H h =>
  (conv (by kernel_rfl) (l07_wild_24ok Q E nx64 τ H h))

theorem l07_wild_26ok (nx64 : OA → Nat → Nat → Int → HP) : Ok Pr (l07_wild_22_M Q E nx64) l07_wild_p9 (l07_wild_q4 Q E nx64) E := fun τ H h =>
  (conv (by kernel_rfl) (vc_seq (K := (l07_wild_3_M Q E nx64)) (l07_wild_25ok Q E nx64 τ H h) (l07_wild_4ok Q E nx64)))

noncomputable def l07_wild_q14 (nx64 : OA → Nat → Nat → Int → HP) : XT := (xthen (l07_wild_22_M Q E nx64) (l07_wild_q4 Q E nx64))

def l07_wild_27 (nx64 : OA → Nat → Nat → Int → HP) (Q : QT) (E : ET) (x3 x4 : OA) (l4 c4 : Nat) (x5 : Int) (x15 : Bool) (H : Heap) : Prop :=
 sel x15
 (l07_wild_22 nx64 Q E x3 x4 l4 c4 x5 H)
 (l07_wild_1 Q E x4 l4 c4 H)

def l07_wild_27_M (nx64 : OA → Nat → Nat → Int → HP) (τ : Tau) (H : Heap) : Prop := mP (τ 3) fun x3 => mSl (τ 4) fun x4 l4 c4 => mI .i64 (τ 5) fun x5 => mB (τ 15) fun x15 => l07_wild_27 nx64 Q E x3 x4 l4 c4 x5 x15 H

theorem l07_wild_28ok (nx64 : OA → Nat → Nat → Int → HP) : Ok Pr (l07_wild_27_M Q E nx64) (sB (sA l07_wild_p8)) (l07_wild_q14 Q E nx64) E := fun τ H h =>
  wP 3 h (fun x3 h => wSl 4 h (fun x4 l4 c4 h => wI 5 h (fun x5 h => wB 15 h (fun x15 h => (conv (by kernel_rfl) h)))))

noncomputable def l07_wild_q15 (nx64 : OA → Nat → Nat → Int → HP) : XT := (xthen (l07_wild_27_M Q E nx64) (l07_wild_q14 Q E nx64))

def l07_wild_29 (nx64 : OA → Nat → Nat → Int → HP) (Q : QT) (E : ET) (x3 x4 : OA) (l4 c4 : Nat) (x5 : Int) (H : Heap) : Prop :=
 sel (decide (x5 < 6))
 (Does Pr 15 #[(.pointer x3)] H (fun v223 H224 =>
 ∃ b225 : Bool, v223 = (.bool b225) ∧ l07_wild_27 nx64 Q E x3 x4 l4 c4 x5 b225 H224) E)
 (l07_wild_27 nx64 Q E x3 x4 l4 c4 x5 false H)

def l07_wild_29_M (nx64 : OA → Nat → Nat → Int → HP) (τ : Tau) (H : Heap) : Prop := mP (τ 3) fun x3 => mSl (τ 4) fun x4 l4 c4 => mI .i64 (τ 5) fun x5 => l07_wild_29 nx64 Q E x3 x4 l4 c4 x5 H

theorem l07_wild_30ok (nx64 : OA → Nat → Nat → Int → HP) : Ok Pr (l07_wild_29_M Q E nx64) (sA (sA l07_wild_p8)) (l07_wild_q15 Q E nx64) E := fun τ H h =>
  wP 3 h (fun x3 h => wSl 4 h (fun x4 l4 c4 h => wI 5 h (fun x5 h => (conv (by kernel_rfl) h))))

theorem l07_wild_31ok (nx64 : OA → Nat → Nat → Int → HP) : Ok Pr (l07_wild_29_M Q E nx64) (sA l07_wild_p8) (l07_wild_q14 Q E nx64) E := fun τ H h =>
  (conv (by kernel_rfl) (vc_seq (K := (l07_wild_27_M Q E nx64)) (l07_wild_30ok Q E nx64 τ H h) (l07_wild_28ok Q E nx64)))

theorem l07_wild_32ok (nx64 : OA → Nat → Nat → Int → HP) : Ok Pr (l07_wild_29_M Q E nx64) l07_wild_p8 (l07_wild_q4 Q E nx64) E := fun τ H h =>
  (conv (by kernel_rfl) (vc_seq (K := (l07_wild_22_M Q E nx64)) (l07_wild_31ok Q E nx64 τ H h) (l07_wild_26ok Q E nx64)))

def l07_wild_33 (Q : QT) (E : ET) (x3 x4 : OA) (l4 c4 : Nat) (x5 : Int) (H : Heap) : Prop :=
 ∃ (I : OA → Nat → Nat → Int → HP) (μ : OA → Nat → Nat → Int → Heap → Nat), I x4 l4 c4 x5 H ∧ ∀ (x4 : OA) (l4 c4 : Nat) (x5 : Int) (H : Heap), I x4 l4 c4 x5 H →
 l07_wild_29 (fun x4' l4' c4' x5' H1 => I x4' l4' c4' x5' H1 ∧ μ x4' l4' c4' x5' H1 < μ x4 l4 c4 x5 H) Q E x3 x4 l4 c4 x5 H

def l07_wild_33_M  (τ : Tau) (H : Heap) : Prop := mP (τ 3) fun x3 => mSl (τ 4) fun x4 l4 c4 => mI .i64 (τ 5) fun x5 => l07_wild_33 Q E x3 x4 l4 c4 x5 H

theorem l07_wild_34ok  : Ok Pr (l07_wild_33_M Q E) (sI (sB l07_wild_p5)) (xblock 0 (l07_wild_q2 Q E)) E := fun τ H h =>
  wP 3 h (fun x3 h => wSl 4 h (fun x4 l4 c4 h => wI 5 h (fun x5 h => match h with | ⟨I, μ, h0, hr⟩ => (conv (by kernel_rfl) (vc_loopG (c := sI (sI (sB l07_wild_p5))) (τ := (Tau.upd (Tau.upd (Tau.upd τ 3 (.pointer x3)) 4 (.slice x4 l4 c4)) 5 (.int .i64 x5))) [3] (fun τ H => mSl (τ 4) fun x4' l4' c4' => mI .i64 (τ 5) fun x5' => I x4' l4' c4' x5' H) (fun τ H => μ (gL1 (τ 4)) (gL2 (τ 4)) (gL3 (τ 4)) (gI (τ 5)) H) (by kernel_rfl) h0 (fun τ1 H1 hf hI => uF 3 (.pointer x3) (hf 3 (by simp)) (uSl 4 hI (fun x4r l4r c4r h => uI 5 h (fun x5r h => lgx (l07_wild_32ok Q E (fun x4' l4' c4' x5' H2 => I x4' l4' c4' x5' H2 ∧ μ x4' l4' c4' x5' H2 < μ x4r l4r c4r x5r H1) (Tau.upd (Tau.upd (Tau.upd τ1 3 (.pointer x3)) 4 (.slice x4r l4r c4r)) 5 (.int .i64 x5r)) H1 (conv (by kernel_rfl) (hr x4r l4r c4r x5r H1 h))) (fun τ2 H2 hk => kSl 4 hk (fun x4' l4' c4' h => kI 5 h (fun x5' h => conv (by kernel_rfl) h))))))))))))

theorem l07_wild_35ok  : Ok Pr (l07_wild_33_M Q E) (sB l07_wild_p5) (l07_wild_q2 Q E) E := fun τ H h =>
  (conv (by kernel_rfl) (l07_wild_34ok Q E τ H h))

noncomputable def l07_wild_q16  : XT := (xthen (l07_wild_33_M Q E) (l07_wild_q2 Q E))

def l07_wild_36 (Q : QT) (E : ET) (x3 x4 : OA) (l4 c4 : Nat) (H : Heap) : Prop :=
 l07_wild_33 Q E x3 x4 l4 c4 0 H

def l07_wild_36_M  (τ : Tau) (H : Heap) : Prop := mP (τ 3) fun x3 => mSl (τ 4) fun x4 l4 c4 => l07_wild_36 Q E x3 x4 l4 c4 H

theorem l07_wild_37ok  : Ok Pr (l07_wild_36_M Q E) (sA l07_wild_p5) (l07_wild_q16 Q E) E := fun τ H h =>
  wP 3 h (fun x3 h => wSl 4 h (fun x4 l4 c4 h => (conv (by kernel_rfl) h)))

theorem l07_wild_38ok  : Ok Pr (l07_wild_36_M Q E) l07_wild_p5 (l07_wild_q2 Q E) E := fun τ H h =>
  (conv (by kernel_rfl) (vc_seq (K := (l07_wild_33_M Q E)) (l07_wild_37ok Q E τ H h) (l07_wild_35ok Q E)))

theorem l07_wild_39ok  : Ok Pr (l07_wild_36_M Q E) (sB (sB l07_wild_p1)) (l07_wild_q1 Q E) E := fun τ H h =>
  (conv (by kernel_rfl) (vc_seq (K := (l07_wild_1_M Q E)) (l07_wild_38ok Q E τ H h) (l07_wild_2ok Q E)))

def l07_wild_40 (Q : QT) (E : ET) (x3 : OA) (H : Heap) : Prop :=
 l07_wild_36 Q E x3 none 0 0 H

def l07_wild_40_M  (τ : Tau) (H : Heap) : Prop := mP (τ 3) fun x3 => l07_wild_40 Q E x3 H

theorem l07_wild_41ok  : Ok Pr (l07_wild_40_M Q E) (sA (sB l07_wild_p1)) (xthen (l07_wild_36_M Q E) (l07_wild_q1 Q E)) E := fun τ H h =>
  wP 3 h (fun x3 h => (conv (by kernel_rfl) h))

theorem l07_wild_42ok  : Ok Pr (l07_wild_40_M Q E) (sB l07_wild_p1) (l07_wild_q1 Q E) E := fun τ H h =>
  (conv (by kernel_rfl) (vc_seq (K := (l07_wild_36_M Q E)) (l07_wild_41ok Q E τ H h) (l07_wild_39ok Q E)))

def l07_wild_43 (Q : QT) (E : ET) (x0 : OA) (l0 c0 : Nat) (H : Heap) : Prop :=
 Does Pr 14 #[(.slice x0 l0 c0)] H (fun v226 H227 =>
 ∃ p228 : OA, v226 = (.pointer p228) ∧ l07_wild_40 Q E p228 H227) E

def l07_wild_43_M  (τ : Tau) (H : Heap) : Prop := mSl (τ 0) fun x0 l0 c0 => l07_wild_43 Q E x0 l0 c0 H

theorem l07_wild_44ok  : Ok Pr (l07_wild_43_M Q E) (sA l07_wild_p1) (xthen (l07_wild_40_M Q E) (l07_wild_q1 Q E)) E := fun τ H h =>
  wSl 0 h (fun x0 l0 c0 h => (conv (by kernel_rfl) h))

theorem l07_wild_45ok  : Ok Pr (l07_wild_43_M Q E) l07_wild_p1 (l07_wild_q1 Q E) E := fun τ H h =>
  (conv (by kernel_rfl) (vc_seq (K := (l07_wild_40_M Q E)) (l07_wild_44ok Q E τ H h) (l07_wild_42ok Q E)))

def l07_wild (Q : QT) (E : ET) (a0 : OA) (a0l : Nat) (a0c : Nat) (H : Heap) : Prop :=
 l07_wild_43 Q E a0 a0l a0c H

theorem l07_wild_fn (a0 : OA) (a0l : Nat) (a0c : Nat) (Q : QT) (E : ET) (H : Heap) (h : l07_wild Q E a0 a0l a0c H)   : Does Pr 7 #[(.slice a0 a0l a0c)] H Q E :=
  Fn_of_vc (fn := Try.f7) (c := (bodyOf Try.f7)) (args := [(.slice a0 a0l a0c)]) mixed (by kernel_rfl) (by kernel_rfl) (by kernel_rfl) (by kernel_rfl) (by kernel_rfl) ((conv (B := vc Pr (bodyOf Try.f7) (argT [(.slice a0 a0l a0c)]) (l07_wild_q1 Q E) E H) (by kernel_rfl) (vc_seq (K := (l07_wild_43_M Q E)) (conv (B := vc Pr (sA (bodyOf Try.f7)) (argT [(.slice a0 a0l a0c)]) (xthen (l07_wild_43_M Q E) (l07_wild_q1 Q E)) E H) (by kernel_rfl) h) (l07_wild_45ok Q E))))

end Go.Proofs.Ytombjgnlpdnclaa
