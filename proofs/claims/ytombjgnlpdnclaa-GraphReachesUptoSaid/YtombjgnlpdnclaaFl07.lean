import Derived.Test.YtombjgnlpdnclaaVPr
/- Printed by gen.py: the Go functions of package l07 over a heap view, and that the model does so. -/
namespace Go.Proofs.Ytombjgnlpdnclaa
open Go.V
set_option linter.unusedVariables false
set_option maxRecDepth 100000
variable (Q : QT) (E : ET)
/-! jobmux/jobmuxlaw07.GraphReaches -/
noncomputable def l07_GraphReaches_q1 (Q : QT) (E : ET)  : XT := (retQ Pr (Try.f5).results.toList Q)

noncomputable def l07_GraphReaches_p1 : Code := sB (bodyOf Try.f5)

noncomputable def l07_GraphReaches_p4 : Code := sB (sB (sB l07_GraphReaches_p1))

def l07_GraphReaches_1 (Q : QT) (E : ET) (x1 : Int) (x5 : OA) (l5 c5 : Nat) (x6 : OA) (l6 c6 : Nat) (H : Heap) : Prop :=
 Does Pr 8 #[(.slice x5 l5 c5)] H (fun v35 H36 =>
 ∃ (p37 : OA) (l38 c39 : Nat), v35 = (.slice p37 l38 c39) ∧ sel (decide (((l38 : Int) : Int) < (l5 : Int)))
 (Q (.bool true) H36)
 (Does Pr 11 #[(.slice x6 l6 c6), (.int .i64 x1)] H36 (fun v40 H41 =>
 ∃ b42 : Bool, v40 = (.bool b42) ∧ Q (.bool (!b42)) H41) E)) E

def l07_GraphReaches_1_M  (τ : Tau) (H : Heap) : Prop := mI .i64 (τ 1) fun x1 => mSl (τ 5) fun x5 l5 c5 => mSl (τ 6) fun x6 l6 c6 => l07_GraphReaches_1 Q E x1 x5 l5 c5 x6 l6 c6 H

theorem l07_GraphReaches_2ok  : Ok Pr (l07_GraphReaches_1_M Q E) (sB (sB (sB l07_GraphReaches_p4))) (l07_GraphReaches_q1 Q E) E := fun τ H h =>
  wI 1 h (fun x1 h => wSl 5 h (fun x5 l5 c5 h => wSl 6 h (fun x6 l6 c6 h => (conv (by kernel_rfl) h))))

noncomputable def l07_GraphReaches_q2  : XT := (xthen (l07_GraphReaches_1_M Q E) (l07_GraphReaches_q1 Q E))

noncomputable def l07_GraphReaches_p8 : Code := sA (sB (sB l07_GraphReaches_p4))

noncomputable def l07_GraphReaches_q4 (nx43 : Int → HP) : XT := (xthen (fun τ H => mI .i64 (τ 31) fun x31' => nx43 x31' H) (xblock 0 (l07_GraphReaches_q2 Q E)))

noncomputable def l07_GraphReaches_p11 : Code := sI (sI (sB l07_GraphReaches_p8))

noncomputable def l07_GraphReaches_p13 : Code := sB (sB l07_GraphReaches_p11)

def l07_GraphReaches_3 (nx43 : Int → HP) (Q : QT) (E : ET) (x1 : Int) (x5 : OA) (l5 c5 : Nat) (x6 : OA) (l6 c6 : Nat) (x30 x31 : Int) (H : Heap) : Prop :=
 nx43 (IntKind.wrap .i64 (x31 + 1)) H

def l07_GraphReaches_3_M (nx43 : Int → HP) (τ : Tau) (H : Heap) : Prop := mI .i64 (τ 1) fun x1 => mSl (τ 5) fun x5 l5 c5 => mSl (τ 6) fun x6 l6 c6 => mI .i64 (τ 30) fun x30 => mI .i64 (τ 31) fun x31 => l07_GraphReaches_3 nx43 Q E x1 x5 l5 c5 x6 l6 c6 x30 x31 H

theorem l07_GraphReaches_4ok (nx43 : Int → HP) : Ok Pr (l07_GraphReaches_3_M Q E nx43) (sB l07_GraphReaches_p13) (l07_GraphReaches_q4 Q E nx43) E := fun τ H h =>
  wI 1 h (fun x1 h => wSl 5 h (fun x5 l5 c5 h => wSl 6 h (fun x6 l6 c6 h => wI 30 h (fun x30 h => wI 31 h (fun x31 h => (conv (by kernel_rfl) h))))))

noncomputable def l07_GraphReaches_q6 (nx43 : Int → HP) : XT := (xblock 1 (xthen (l07_GraphReaches_3_M Q E nx43) (l07_GraphReaches_q4 Q E nx43)))

noncomputable def l07_GraphReaches_p17 : Code := sB (sI (sA l07_GraphReaches_p13))

def l07_GraphReaches_5 (nx43 : Int → HP) (Q : QT) (E : ET) (x1 : Int) (x5 : OA) (l5 c5 : Nat) (x6 : OA) (l6 c6 : Nat) (x7 : Int) (x8 : Bool) (x30 x31 : Int) (H : Heap) : Prop :=
 Does Pr 11 #[(.slice x6 l6 c6), (.int .i64 x7)] H (fun v67 H68 =>
 ∃ b69 : Bool, v67 = (.bool b69) ∧ sel (!(x8 == b69))
 (Q (.bool false) H68)
 (l07_GraphReaches_3 nx43 Q E x1 x5 l5 c5 x6 l6 c6 x30 x31 H68)) E

def l07_GraphReaches_5_M (nx43 : Int → HP) (τ : Tau) (H : Heap) : Prop := mI .i64 (τ 1) fun x1 => mSl (τ 5) fun x5 l5 c5 => mSl (τ 6) fun x6 l6 c6 => mI .i64 (τ 7) fun x7 => mB (τ 8) fun x8 => mI .i64 (τ 30) fun x30 => mI .i64 (τ 31) fun x31 => l07_GraphReaches_5 nx43 Q E x1 x5 l5 c5 x6 l6 c6 x7 x8 x30 x31 H

theorem l07_GraphReaches_6ok (nx43 : Int → HP) : Ok Pr (l07_GraphReaches_5_M Q E nx43) (sB (sB l07_GraphReaches_p17)) (l07_GraphReaches_q6 Q E nx43) E := fun τ H h =>
  wI 1 h (fun x1 h => wSl 5 h (fun x5 l5 c5 h => wSl 6 h (fun x6 l6 c6 h => wI 7 h (fun x7 h => wB 8 h (fun x8 h => wI 30 h (fun x30 h => wI 31 h (fun x31 h => (conv (by kernel_rfl) h))))))))

noncomputable def l07_GraphReaches_q7 (nx43 : Int → HP) : XT := (xthen (l07_GraphReaches_5_M Q E nx43) (l07_GraphReaches_q6 Q E nx43))

noncomputable def l07_GraphReaches_p20 : Code := sA (sB l07_GraphReaches_p17)

noncomputable def l07_GraphReaches_q8 (nx43 : Int → HP) : XT := (xblock 2 (l07_GraphReaches_q7 Q E nx43))

noncomputable def l07_GraphReaches_q9 (nx43 : Int → HP) (nx75 : Bool → Int → HP) : XT := (xthen (fun τ H => mB (τ 8) fun x8' => mI .i64 (τ 38) fun x38' => nx75 x8' x38' H) (l07_GraphReaches_q8 Q E nx43))

noncomputable def l07_GraphReaches_p23 : Code := sI (sI (sB l07_GraphReaches_p20))

noncomputable def l07_GraphReaches_p25 : Code := sB (sB l07_GraphReaches_p23)

def l07_GraphReaches_7 (nx43 : Int → HP) (nx75 : Bool → Int → HP) (Q : QT) (E : ET) (x1 : Int) (x5 : OA) (l5 c5 : Nat) (x6 : OA) (l6 c6 : Nat) (x7 : Int) (x8 : Bool) (x30 x31 : Int) (x36 : OA) (l36 c36 : Nat) (x37 x38 : Int) (H : Heap) : Prop :=
 nx75 x8 (IntKind.wrap .i64 (x38 + 1)) H

def l07_GraphReaches_7_M (nx43 : Int → HP) (nx75 : Bool → Int → HP) (τ : Tau) (H : Heap) : Prop := mI .i64 (τ 1) fun x1 => mSl (τ 5) fun x5 l5 c5 => mSl (τ 6) fun x6 l6 c6 => mI .i64 (τ 7) fun x7 => mB (τ 8) fun x8 => mI .i64 (τ 30) fun x30 => mI .i64 (τ 31) fun x31 => mSl (τ 36) fun x36 l36 c36 => mI .i64 (τ 37) fun x37 => mI .i64 (τ 38) fun x38 => l07_GraphReaches_7 nx43 nx75 Q E x1 x5 l5 c5 x6 l6 c6 x7 x8 x30 x31 x36 l36 c36 x37 x38 H

theorem l07_GraphReaches_8ok (nx43 : Int → HP) (nx75 : Bool → Int → HP) : Ok Pr (l07_GraphReaches_7_M Q E nx43 nx75) (sB l07_GraphReaches_p25) (l07_GraphReaches_q9 Q E nx43 nx75) E := fun τ H h =>
  wI 1 h (fun x1 h => wSl 5 h (fun x5 l5 c5 h => wSl 6 h (fun x6 l6 c6 h => wI 7 h (fun x7 h => wB 8 h (fun x8 h => wI 30 h (fun x30 h => wI 31 h (fun x31 h => wSl 36 h (fun x36 l36 c36 h => wI 37 h (fun x37 h => wI 38 h (fun x38 h => (conv (by kernel_rfl) h)))))))))))

noncomputable def l07_GraphReaches_q10 (nx43 : Int → HP) (nx75 : Bool → Int → HP) : XT := (xthen (l07_GraphReaches_7_M Q E nx43 nx75) (l07_GraphReaches_q9 Q E nx43 nx75))

def l07_GraphReaches_9 (nx43 : Int → HP) (nx75 : Bool → Int → HP) (Q : QT) (E : ET) (x1 : Int) (x5 : OA) (l5 c5 : Nat) (x6 : OA) (l6 c6 : Nat) (x7 : Int) (x8 : Bool) (x30 x31 : Int) (x36 : OA) (l36 c36 : Nat) (x37 x38 : Int) (H : Heap) : Prop :=
 (0 ≤ x38 ∧ x38 < (l36 : Int)) ∧ ptr x36 fun q81 =>
 ldI .i64 (Addr.add q81 (x38.toNat * 1)) H fun n82 =>
 sel x8
 (l07_GraphReaches_7 nx43 nx75 Q E x1 x5 l5 c5 x6 l6 c6 x7 true x30 x31 x36 l36 c36 x37 x38 H)
 (sel (n82 == x1)
 (l07_GraphReaches_7 nx43 nx75 Q E x1 x5 l5 c5 x6 l6 c6 x7 true x30 x31 x36 l36 c36 x37 x38 H)
 (Does Pr 11 #[(.slice x6 l6 c6), (.int .i64 n82)] H (fun v83 H84 =>
 ∃ b85 : Bool, v83 = (.bool b85) ∧ l07_GraphReaches_7 nx43 nx75 Q E x1 x5 l5 c5 x6 l6 c6 x7 b85 x30 x31 x36 l36 c36 x37 x38 H84) E))

def l07_GraphReaches_9_M (nx43 : Int → HP) (nx75 : Bool → Int → HP) (τ : Tau) (H : Heap) : Prop := mI .i64 (τ 1) fun x1 => mSl (τ 5) fun x5 l5 c5 => mSl (τ 6) fun x6 l6 c6 => mI .i64 (τ 7) fun x7 => mB (τ 8) fun x8 => mI .i64 (τ 30) fun x30 => mI .i64 (τ 31) fun x31 => mSl (τ 36) fun x36 l36 c36 => mI .i64 (τ 37) fun x37 => mI .i64 (τ 38) fun x38 => l07_GraphReaches_9 nx43 nx75 Q E x1 x5 l5 c5 x6 l6 c6 x7 x8 x30 x31 x36 l36 c36 x37 x38 H

theorem l07_GraphReaches_10ok (nx43 : Int → HP) (nx75 : Bool → Int → HP) : Ok Pr (l07_GraphReaches_9_M Q E nx43 nx75) (sA l07_GraphReaches_p25) (l07_GraphReaches_q10 Q E nx43 nx75) E := fun τ H h =>
  wI 1 h (fun x1 h => wSl 5 h (fun x5 l5 c5 h => wSl 6 h (fun x6 l6 c6 h => wI 7 h (fun x7 h => wB 8 h (fun x8 h => wI 30 h (fun x30 h => wI 31 h (fun x31 h => wSl 36 h (fun x36 l36 c36 h => wI 37 h (fun x37 h => wI 38 h (fun x38 h => (conv (by kernel_rfl) h)))))))))))

theorem l07_GraphReaches_11ok (nx43 : Int → HP) (nx75 : Bool → Int → HP) : Ok Pr (l07_GraphReaches_9_M Q E nx43 nx75) l07_GraphReaches_p25 (l07_GraphReaches_q9 Q E nx43 nx75) E := fun τ H h =>
  (conv (by kernel_rfl) (vc_seq (K := (l07_GraphReaches_7_M Q E nx43 nx75)) (l07_GraphReaches_10ok Q E nx43 nx75 τ H h) (l07_GraphReaches_8ok Q E nx43 nx75)))

noncomputable def l07_GraphReaches_q11 (nx43 : Int → HP) (nx75 : Bool → Int → HP) : XT := (xthen (l07_GraphReaches_9_M Q E nx43 nx75) (l07_GraphReaches_q9 Q E nx43 nx75))

def l07_GraphReaches_12 (nx43 : Int → HP) (nx75 : Bool → Int → HP) (Q : QT) (E : ET) (x1 : Int) (x5 : OA) (l5 c5 : Nat) (x6 : OA) (l6 c6 : Nat) (x7 : Int) (x8 : Bool) (x30 x31 : Int) (x36 : OA) (l36 c36 : Nat) (x37 x38 : Int) (x39 : Bool) (H : Heap) : Prop :=
 sel x39
 (l07_GraphReaches_9 nx43 nx75 Q E x1 x5 l5 c5 x6 l6 c6 x7 x8 x30 x31 x36 l36 c36 x37 x38 H)
 (l07_GraphReaches_5 nx43 Q E x1 x5 l5 c5 x6 l6 c6 x7 x8 x30 x31 H)

def l07_GraphReaches_12_M (nx43 : Int → HP) (nx75 : Bool → Int → HP) (τ : Tau) (H : Heap) : Prop := mI .i64 (τ 1) fun x1 => mSl (τ 5) fun x5 l5 c5 => mSl (τ 6) fun x6 l6 c6 => mI .i64 (τ 7) fun x7 => mB (τ 8) fun x8 => mI .i64 (τ 30) fun x30 => mI .i64 (τ 31) fun x31 => mSl (τ 36) fun x36 l36 c36 => mI .i64 (τ 37) fun x37 => mI .i64 (τ 38) fun x38 => mB (τ 39) fun x39 => l07_GraphReaches_12 nx43 nx75 Q E x1 x5 l5 c5 x6 l6 c6 x7 x8 x30 x31 x36 l36 c36 x37 x38 x39 H

theorem l07_GraphReaches_13ok (nx43 : Int → HP) (nx75 : Bool → Int → HP) : Ok Pr (l07_GraphReaches_12_M Q E nx43 nx75) (sA (sB l07_GraphReaches_p23)) (l07_GraphReaches_q11 Q E nx43 nx75) E := fun τ H h =>
  wI 1 h (fun x1 h => wSl 5 h (fun x5 l5 c5 h => wSl 6 h (fun x6 l6 c6 h => wI 7 h (fun x7 h => wB 8 h (fun x8 h => wI 30 h (fun x30 h => wI 31 h (fun x31 h => wSl 36 h (fun x36 l36 c36 h => wI 37 h (fun x37 h => wI 38 h (fun x38 h => wB 39 h (fun x39 h => (conv (by kernel_rfl) h))))))))))))

theorem l07_GraphReaches_14ok (nx43 : Int → HP) (nx75 : Bool → Int → HP) : Ok Pr (l07_GraphReaches_12_M Q E nx43 nx75) (sB l07_GraphReaches_p23) (l07_GraphReaches_q9 Q E nx43 nx75) E := fun τ H h =>
  (conv (by kernel_rfl) (vc_seq (K := (l07_GraphReaches_9_M Q E nx43 nx75)) (l07_GraphReaches_13ok Q E nx43 nx75 τ H h) (l07_GraphReaches_11ok Q E nx43 nx75)))

noncomputable def l07_GraphReaches_q12 (nx43 : Int → HP) (nx75 : Bool → Int → HP) : XT := (xthen (l07_GraphReaches_12_M Q E nx43 nx75) (l07_GraphReaches_q9 Q E nx43 nx75))

def l07_GraphReaches_15 (nx43 : Int → HP) (nx75 : Bool → Int → HP) (Q : QT) (E : ET) (x1 : Int) (x5 : OA) (l5 c5 : Nat) (x6 : OA) (l6 c6 : Nat) (x7 : Int) (x8 : Bool) (x30 x31 : Int) (x36 : OA) (l36 c36 : Nat) (x37 x38 : Int) (H : Heap) : Prop :=
 l07_GraphReaches_12 nx43 nx75 Q E x1 x5 l5 c5 x6 l6 c6 x7 x8 x30 x31 x36 l36 c36 x37 x38 (decide (x38 < x37)) H

def l07_GraphReaches_15_M (nx43 : Int → HP) (nx75 : Bool → Int → HP) (τ : Tau) (H : Heap) : Prop := mI .i64 (τ 1) fun x1 => mSl (τ 5) fun x5 l5 c5 => mSl (τ 6) fun x6 l6 c6 => mI .i64 (τ 7) fun x7 => mB (τ 8) fun x8 => mI .i64 (τ 30) fun x30 => mI .i64 (τ 31) fun x31 => mSl (τ 36) fun x36 l36 c36 => mI .i64 (τ 37) fun x37 => mI .i64 (τ 38) fun x38 => l07_GraphReaches_15 nx43 nx75 Q E x1 x5 l5 c5 x6 l6 c6 x7 x8 x30 x31 x36 l36 c36 x37 x38 H

theorem l07_GraphReaches_16ok (nx43 : Int → HP) (nx75 : Bool → Int → HP) : Ok Pr (l07_GraphReaches_15_M Q E nx43 nx75) (sA l07_GraphReaches_p23) (l07_GraphReaches_q12 Q E nx43 nx75) E := fun τ H h =>
  wI 1 h (fun x1 h => wSl 5 h (fun x5 l5 c5 h => wSl 6 h (fun x6 l6 c6 h => wI 7 h (fun x7 h => wB 8 h (fun x8 h => wI 30 h (fun x30 h => wI 31 h (fun x31 h => wSl 36 h (fun x36 l36 c36 h => wI 37 h (fun x37 h => wI 38 h (fun x38 h => (conv (by kernel_rfl) h)))))))))))

theorem l07_GraphReaches_17ok (nx43 : Int → HP) (nx75 : Bool → Int → HP) : Ok Pr (l07_GraphReaches_15_M Q E nx43 nx75) l07_GraphReaches_p23 (l07_GraphReaches_q9 Q E nx43 nx75) E := fun τ H h =>
  (conv (by kernel_rfl) (vc_seq (K := (l07_GraphReaches_12_M Q E nx43 nx75)) (l07_GraphReaches_16ok Q E nx43 nx75 τ H h) (l07_GraphReaches_14ok Q E nx43 nx75)))

def l07_GraphReaches_18 (nx43 : Int → HP) (Q : QT) (E : ET) (x1 : Int) (x5 : OA) (l5 c5 : Nat) (x6 : OA) (l6 c6 : Nat) (x7 x30 x31 : Int) (x36 : OA) (l36 c36 : Nat) (x37 : Int) (x8 : Bool) (x38 : Int) (H : Heap) : Prop :=
 ∃ (I : Bool → Int → HP) (μ : Bool → Int → Heap → Nat), I x8 x38 H ∧ ∀ (x8 : Bool) (x38 : Int) (H : Heap), I x8 x38 H →
 l07_GraphReaches_15 nx43 (fun x8' x38' H1 => I x8' x38' H1 ∧ μ x8' x38' H1 < μ x8 x38 H) Q E x1 x5 l5 c5 x6 l6 c6 x7 x8 x30 x31 x36 l36 c36 x37 x38 H

def l07_GraphReaches_18_M (nx43 : Int → HP) (τ : Tau) (H : Heap) : Prop := mI .i64 (τ 1) fun x1 => mSl (τ 5) fun x5 l5 c5 => mSl (τ 6) fun x6 l6 c6 => mI .i64 (τ 7) fun x7 => mI .i64 (τ 30) fun x30 => mI .i64 (τ 31) fun x31 => mSl (τ 36) fun x36 l36 c36 => mI .i64 (τ 37) fun x37 => mB (τ 8) fun x8 => mI .i64 (τ 38) fun x38 => l07_GraphReaches_18 nx43 Q E x1 x5 l5 c5 x6 l6 c6 x7 x30 x31 x36 l36 c36 x37 x8 x38 H

theorem l07_GraphReaches_19ok (nx43 : Int → HP) : Ok Pr (l07_GraphReaches_18_M Q E nx43) (sI (sB l07_GraphReaches_p20)) (l07_GraphReaches_q8 Q E nx43) E := fun τ H h =>
  wI 1 h (fun x1 h => wSl 5 h (fun x5 l5 c5 h => wSl 6 h (fun x6 l6 c6 h => wI 7 h (fun x7 h => wI 30 h (fun x30 h => wI 31 h (fun x31 h => wSl 36 h (fun x36 l36 c36 h => wI 37 h (fun x37 h => wB 8 h (fun x8 h => wI 38 h (fun x38 h => match h with | ⟨I, μ, h0, hr⟩ => (conv (by kernel_rfl) (vc_loopG (c := sI (sI (sB l07_GraphReaches_p20))) (τ := (Tau.upd (Tau.upd (Tau.upd (Tau.upd (Tau.upd (Tau.upd (Tau.upd (Tau.upd (Tau.upd (Tau.upd τ 1 (.int .i64 x1)) 5 (.slice x5 l5 c5)) 6 (.slice x6 l6 c6)) 7 (.int .i64 x7)) 30 (.int .i64 x30)) 31 (.int .i64 x31)) 36 (.slice x36 l36 c36)) 37 (.int .i64 x37)) 8 (.bool x8)) 38 (.int .i64 x38))) [1, 5, 6, 7, 30, 31, 36, 37] (fun τ H => mB (τ 8) fun x8' => mI .i64 (τ 38) fun x38' => I x8' x38' H) (fun τ H => μ (gB (τ 8)) (gI (τ 38)) H) (by kernel_rfl) h0 (fun τ1 H1 hf hI => uF 1 (.int .i64 x1) (hf 1 (by simp)) (uF 5 (.slice x5 l5 c5) (hf 5 (by simp)) (uF 6 (.slice x6 l6 c6) (hf 6 (by simp)) (uF 7 (.int .i64 x7) (hf 7 (by simp)) (uF 30 (.int .i64 x30) (hf 30 (by simp)) (uF 31 (.int .i64 x31) (hf 31 (by simp)) (uF 36 (.slice x36 l36 c36) (hf 36 (by simp)) (uF 37 (.int .i64 x37) (hf 37 (by simp)) (uB 8 hI (fun x8r h => uI 38 h (fun x38r h => lgx (l07_GraphReaches_17ok Q E nx43 (fun x8' x38' H2 => I x8' x38' H2 ∧ μ x8' x38' H2 < μ x8r x38r H1) (Tau.upd (Tau.upd (Tau.upd (Tau.upd (Tau.upd (Tau.upd (Tau.upd (Tau.upd (Tau.upd (Tau.upd τ1 1 (.int .i64 x1)) 5 (.slice x5 l5 c5)) 6 (.slice x6 l6 c6)) 7 (.int .i64 x7)) 30 (.int .i64 x30)) 31 (.int .i64 x31)) 36 (.slice x36 l36 c36)) 37 (.int .i64 x37)) 8 (.bool x8r)) 38 (.int .i64 x38r)) H1 (conv (by kernel_rfl) (hr x8r x38r H1 h))) (fun τ2 H2 hk => kB 8 hk (fun x8' h => kI 38 h (fun x38' h => conv (by kernel_rfl) h))))))))))))))))))))))))))

theorem l07_GraphReaches_20ok (nx43 : Int → HP) : Ok Pr (l07_GraphReaches_18_M Q E nx43) (sB l07_GraphReaches_p20) (l07_GraphReaches_q7 Q E nx43) E := fun τ H h =>
  (conv (by kernel_rfl) (l07_GraphReaches_19ok Q E nx43 τ H h))

noncomputable def l07_GraphReaches_q13 (nx43 : Int → HP) : XT := (xthen (l07_GraphReaches_18_M Q E nx43) (l07_GraphReaches_q7 Q E nx43))

def l07_GraphReaches_21 (nx43 : Int → HP) (Q : QT) (E : ET) (x1 : Int) (x5 : OA) (l5 c5 : Nat) (x6 : OA) (l6 c6 : Nat) (x7 : Int) (x8 : Bool) (x30 x31 : Int) (H : Heap) : Prop :=
 Does Pr 10 #[(.slice x5 l5 c5), (.int .i64 x7)] H (fun v86 H87 =>
 ∃ (p88 : OA) (l89 c90 : Nat), v86 = (.slice p88 l89 c90) ∧ l07_GraphReaches_18 nx43 Q E x1 x5 l5 c5 x6 l6 c6 x7 x30 x31 p88 l89 c90 (l89 : Int) x8 0 H87) E

def l07_GraphReaches_21_M (nx43 : Int → HP) (τ : Tau) (H : Heap) : Prop := mI .i64 (τ 1) fun x1 => mSl (τ 5) fun x5 l5 c5 => mSl (τ 6) fun x6 l6 c6 => mI .i64 (τ 7) fun x7 => mB (τ 8) fun x8 => mI .i64 (τ 30) fun x30 => mI .i64 (τ 31) fun x31 => l07_GraphReaches_21 nx43 Q E x1 x5 l5 c5 x6 l6 c6 x7 x8 x30 x31 H

theorem l07_GraphReaches_22ok (nx43 : Int → HP) : Ok Pr (l07_GraphReaches_21_M Q E nx43) (sA l07_GraphReaches_p20) (l07_GraphReaches_q13 Q E nx43) E := fun τ H h =>
  wI 1 h (fun x1 h => wSl 5 h (fun x5 l5 c5 h => wSl 6 h (fun x6 l6 c6 h => wI 7 h (fun x7 h => wB 8 h (fun x8 h => wI 30 h (fun x30 h => wI 31 h (fun x31 h => (conv (by kernel_rfl) h))))))))

theorem l07_GraphReaches_23ok (nx43 : Int → HP) : Ok Pr (l07_GraphReaches_21_M Q E nx43) l07_GraphReaches_p20 (l07_GraphReaches_q7 Q E nx43) E := fun τ H h =>
  (conv (by kernel_rfl) (vc_seq (K := (l07_GraphReaches_18_M Q E nx43)) (l07_GraphReaches_22ok Q E nx43 τ H h) (l07_GraphReaches_20ok Q E nx43)))

theorem l07_GraphReaches_24ok (nx43 : Int → HP) : Ok Pr (l07_GraphReaches_21_M Q E nx43) (sB l07_GraphReaches_p17) (l07_GraphReaches_q6 Q E nx43) E := fun τ H h =>
  (conv (by kernel_rfl) (vc_seq (K := (l07_GraphReaches_5_M Q E nx43)) (l07_GraphReaches_23ok Q E nx43 τ H h) (l07_GraphReaches_6ok Q E nx43)))

noncomputable def l07_GraphReaches_q14 (nx43 : Int → HP) : XT := (xthen (l07_GraphReaches_21_M Q E nx43) (l07_GraphReaches_q6 Q E nx43))

def l07_GraphReaches_25 (nx43 : Int → HP) (Q : QT) (E : ET) (x1 : Int) (x5 : OA) (l5 c5 : Nat) (x6 : OA) (l6 c6 : Nat) (x7 x30 x31 : Int) (H : Heap) : Prop :=
 l07_GraphReaches_21 nx43 Q E x1 x5 l5 c5 x6 l6 c6 x7 false x30 x31 H

def l07_GraphReaches_25_M (nx43 : Int → HP) (τ : Tau) (H : Heap) : Prop := mI .i64 (τ 1) fun x1 => mSl (τ 5) fun x5 l5 c5 => mSl (τ 6) fun x6 l6 c6 => mI .i64 (τ 7) fun x7 => mI .i64 (τ 30) fun x30 => mI .i64 (τ 31) fun x31 => l07_GraphReaches_25 nx43 Q E x1 x5 l5 c5 x6 l6 c6 x7 x30 x31 H

theorem l07_GraphReaches_26ok (nx43 : Int → HP) : Ok Pr (l07_GraphReaches_25_M Q E nx43) (sA l07_GraphReaches_p17) (l07_GraphReaches_q14 Q E nx43) E := fun τ H h =>
  wI 1 h (fun x1 h => wSl 5 h (fun x5 l5 c5 h => wSl 6 h (fun x6 l6 c6 h => wI 7 h (fun x7 h => wI 30 h (fun x30 h => wI 31 h (fun x31 h => (conv (by kernel_rfl) h)))))))

theorem l07_GraphReaches_27ok (nx43 : Int → HP) : Ok Pr (l07_GraphReaches_25_M Q E nx43) l07_GraphReaches_p17 (l07_GraphReaches_q6 Q E nx43) E := fun τ H h =>
  (conv (by kernel_rfl) (vc_seq (K := (l07_GraphReaches_21_M Q E nx43)) (l07_GraphReaches_26ok Q E nx43 τ H h) (l07_GraphReaches_24ok Q E nx43)))

noncomputable def l07_GraphReaches_q15 (nx43 : Int → HP) : XT := (xthen (l07_GraphReaches_25_M Q E nx43) (l07_GraphReaches_q6 Q E nx43))

def l07_GraphReaches_28 (nx43 : Int → HP) (Q : QT) (E : ET) (x1 : Int) (x5 : OA) (l5 c5 : Nat) (x6 : OA) (l6 c6 : Nat) (x30 x31 : Int) (H : Heap) : Prop :=
 l07_GraphReaches_25 nx43 Q E x1 x5 l5 c5 x6 l6 c6 x31 x30 x31 H

def l07_GraphReaches_28_M (nx43 : Int → HP) (τ : Tau) (H : Heap) : Prop := mI .i64 (τ 1) fun x1 => mSl (τ 5) fun x5 l5 c5 => mSl (τ 6) fun x6 l6 c6 => mI .i64 (τ 30) fun x30 => mI .i64 (τ 31) fun x31 => l07_GraphReaches_28 nx43 Q E x1 x5 l5 c5 x6 l6 c6 x30 x31 H

theorem l07_GraphReaches_29ok (nx43 : Int → HP) : Ok Pr (l07_GraphReaches_28_M Q E nx43) (sA (sI (sA l07_GraphReaches_p13))) (l07_GraphReaches_q15 Q E nx43) E := fun τ H h =>
  wI 1 h (fun x1 h => wSl 5 h (fun x5 l5 c5 h => wSl 6 h (fun x6 l6 c6 h => wI 30 h (fun x30 h => wI 31 h (fun x31 h => (conv (by kernel_rfl) h))))))

theorem l07_GraphReaches_30ok (nx43 : Int → HP) : Ok Pr (l07_GraphReaches_28_M Q E nx43) (sI (sA l07_GraphReaches_p13)) (l07_GraphReaches_q6 Q E nx43) E := fun τ H h =>
  (conv (by kernel_rfl) (vc_seq (K := (l07_GraphReaches_25_M Q E nx43)) (l07_GraphReaches_29ok Q E nx43 τ H h) (l07_GraphReaches_27ok Q E nx43)))

theorem l07_GraphReaches_31ok (nx43 : Int → HP) : Ok Pr (l07_GraphReaches_28_M Q E nx43) (sA l07_GraphReaches_p13) (xthen (l07_GraphReaches_3_M Q E nx43) (l07_GraphReaches_q4 Q E nx43)) E := fun τ H h =>
  (conv (by kernel_rfl) (l07_GraphReaches_30ok Q E nx43 τ H h))

theorem l07_GraphReaches_32ok (nx43 : Int → HP) : Ok Pr (l07_GraphReaches_28_M Q E nx43) l07_GraphReaches_p13 (l07_GraphReaches_q4 Q E nx43) E := fun τ H h =>
  (conv (by kernel_rfl) (vc_seq (K := (l07_GraphReaches_3_M Q E nx43)) (l07_GraphReaches_31ok Q E nx43 τ H h) (l07_GraphReaches_4ok Q E nx43)))

noncomputable def l07_GraphReaches_q16 (nx43 : Int → HP) : XT := (xthen (l07_GraphReaches_28_M Q E nx43) (l07_GraphReaches_q4 Q E nx43))

def l07_GraphReaches_33 (nx43 : Int → HP) (Q : QT) (E : ET) (x1 : Int) (x5 : OA) (l5 c5 : Nat) (x6 : OA) (l6 c6 : Nat) (x30 x31 : Int) (x32 : Bool) (H : Heap) : Prop :=
 sel x32
 (l07_GraphReaches_28 nx43 Q E x1 x5 l5 c5 x6 l6 c6 x30 x31 H)
 (l07_GraphReaches_1 Q E x1 x5 l5 c5 x6 l6 c6 H)

def l07_GraphReaches_33_M (nx43 : Int → HP) (τ : Tau) (H : Heap) : Prop := mI .i64 (τ 1) fun x1 => mSl (τ 5) fun x5 l5 c5 => mSl (τ 6) fun x6 l6 c6 => mI .i64 (τ 30) fun x30 => mI .i64 (τ 31) fun x31 => mB (τ 32) fun x32 => l07_GraphReaches_33 nx43 Q E x1 x5 l5 c5 x6 l6 c6 x30 x31 x32 H

theorem l07_GraphReaches_34ok (nx43 : Int → HP) : Ok Pr (l07_GraphReaches_33_M Q E nx43) (sA (sB l07_GraphReaches_p11)) (l07_GraphReaches_q16 Q E nx43) E := fun τ H h =>
  wI 1 h (fun x1 h => wSl 5 h (fun x5 l5 c5 h => wSl 6 h (fun x6 l6 c6 h => wI 30 h (fun x30 h => wI 31 h (fun x31 h => wB 32 h (fun x32 h => (conv (by kernel_rfl) h)))))))

theorem l07_GraphReaches_35ok (nx43 : Int → HP) : Ok Pr (l07_GraphReaches_33_M Q E nx43) (sB l07_GraphReaches_p11) (l07_GraphReaches_q4 Q E nx43) E := fun τ H h =>
  (conv (by kernel_rfl) (vc_seq (K := (l07_GraphReaches_28_M Q E nx43)) (l07_GraphReaches_34ok Q E nx43 τ H h) (l07_GraphReaches_32ok Q E nx43)))

noncomputable def l07_GraphReaches_q17 (nx43 : Int → HP) : XT := (xthen (l07_GraphReaches_33_M Q E nx43) (l07_GraphReaches_q4 Q E nx43))

def l07_GraphReaches_36 (nx43 : Int → HP) (Q : QT) (E : ET) (x1 : Int) (x5 : OA) (l5 c5 : Nat) (x6 : OA) (l6 c6 : Nat) (x30 x31 : Int) (H : Heap) : Prop :=
 l07_GraphReaches_33 nx43 Q E x1 x5 l5 c5 x6 l6 c6 x30 x31 (decide (x31 < x30)) H

def l07_GraphReaches_36_M (nx43 : Int → HP) (τ : Tau) (H : Heap) : Prop := mI .i64 (τ 1) fun x1 => mSl (τ 5) fun x5 l5 c5 => mSl (τ 6) fun x6 l6 c6 => mI .i64 (τ 30) fun x30 => mI .i64 (τ 31) fun x31 => l07_GraphReaches_36 nx43 Q E x1 x5 l5 c5 x6 l6 c6 x30 x31 H

theorem l07_GraphReaches_37ok (nx43 : Int → HP) : Ok Pr (l07_GraphReaches_36_M Q E nx43) (sA l07_GraphReaches_p11) (l07_GraphReaches_q17 Q E nx43) E := fun τ H h =>
  wI 1 h (fun x1 h => wSl 5 h (fun x5 l5 c5 h => wSl 6 h (fun x6 l6 c6 h => wI 30 h (fun x30 h => wI 31 h (fun x31 h => (conv (by kernel_rfl) h))))))

theorem l07_GraphReaches_38ok (nx43 : Int → HP) : Ok Pr (l07_GraphReaches_36_M Q E nx43) l07_GraphReaches_p11 (l07_GraphReaches_q4 Q E nx43) E := fun τ H h =>
  (conv (by kernel_rfl) (vc_seq (K := (l07_GraphReaches_33_M Q E nx43)) (l07_GraphReaches_37ok Q E nx43 τ H h) (l07_GraphReaches_35ok Q E nx43)))

def l07_GraphReaches_39 (Q : QT) (E : ET) (x1 : Int) (x5 : OA) (l5 c5 : Nat) (x6 : OA) (l6 c6 : Nat) (x30 x31 : Int) (H : Heap) : Prop :=
 ∃ (I : Int → HP) (μ : Int → Heap → Nat), I x31 H ∧ ∀ (x31 : Int) (H : Heap), I x31 H →
 l07_GraphReaches_36 (fun x31' H1 => I x31' H1 ∧ μ x31' H1 < μ x31 H) Q E x1 x5 l5 c5 x6 l6 c6 x30 x31 H

def l07_GraphReaches_39_M  (τ : Tau) (H : Heap) : Prop := mI .i64 (τ 1) fun x1 => mSl (τ 5) fun x5 l5 c5 => mSl (τ 6) fun x6 l6 c6 => mI .i64 (τ 30) fun x30 => mI .i64 (τ 31) fun x31 => l07_GraphReaches_39 Q E x1 x5 l5 c5 x6 l6 c6 x30 x31 H

theorem l07_GraphReaches_40ok  : Ok Pr (l07_GraphReaches_39_M Q E) (sI (sB l07_GraphReaches_p8)) (xblock 0 (l07_GraphReaches_q2 Q E)) E := fun τ H h =>
  wI 1 h (fun x1 h => wSl 5 h (fun x5 l5 c5 h => wSl 6 h (fun x6 l6 c6 h => wI 30 h (fun x30 h => wI 31 h (fun x31 h => match h with | ⟨I, μ, h0, hr⟩ => (conv (by kernel_rfl) (vc_loopG (c := sI (sI (sB l07_GraphReaches_p8))) (τ := (Tau.upd (Tau.upd (Tau.upd (Tau.upd (Tau.upd τ 1 (.int .i64 x1)) 5 (.slice x5 l5 c5)) 6 (.slice x6 l6 c6)) 30 (.int .i64 x30)) 31 (.int .i64 x31))) [1, 5, 6, 30] (fun τ H => mI .i64 (τ 31) fun x31' => I x31' H) (fun τ H => μ (gI (τ 31)) H) (by kernel_rfl) h0 (fun τ1 H1 hf hI => uF 1 (.int .i64 x1) (hf 1 (by simp)) (uF 5 (.slice x5 l5 c5) (hf 5 (by simp)) (uF 6 (.slice x6 l6 c6) (hf 6 (by simp)) (uF 30 (.int .i64 x30) (hf 30 (by simp)) (uI 31 hI (fun x31r h => lgx (l07_GraphReaches_38ok Q E (fun x31' H2 => I x31' H2 ∧ μ x31' H2 < μ x31r H1) (Tau.upd (Tau.upd (Tau.upd (Tau.upd (Tau.upd τ1 1 (.int .i64 x1)) 5 (.slice x5 l5 c5)) 6 (.slice x6 l6 c6)) 30 (.int .i64 x30)) 31 (.int .i64 x31r)) H1 (conv (by kernel_rfl) (hr x31r H1 h))) (fun τ2 H2 hk => kI 31 hk (fun x31' h => conv (by kernel_rfl) h)))))))))))))))

theorem l07_GraphReaches_41ok  : Ok Pr (l07_GraphReaches_39_M Q E) (sB l07_GraphReaches_p8) (l07_GraphReaches_q2 Q E) E := fun τ H h =>
  (conv (by kernel_rfl) (l07_GraphReaches_40ok Q E τ H h))

noncomputable def l07_GraphReaches_q18  : XT := (xthen (l07_GraphReaches_39_M Q E) (l07_GraphReaches_q2 Q E))

def l07_GraphReaches_42 (Q : QT) (E : ET) (x1 : Int) (x5 : OA) (l5 c5 : Nat) (x6 : OA) (l6 c6 : Nat) (H : Heap) : Prop :=
 l07_GraphReaches_39 Q E x1 x5 l5 c5 x6 l6 c6 (l5 : Int) 0 H

def l07_GraphReaches_42_M  (τ : Tau) (H : Heap) : Prop := mI .i64 (τ 1) fun x1 => mSl (τ 5) fun x5 l5 c5 => mSl (τ 6) fun x6 l6 c6 => l07_GraphReaches_42 Q E x1 x5 l5 c5 x6 l6 c6 H

theorem l07_GraphReaches_43ok  : Ok Pr (l07_GraphReaches_42_M Q E) (sA l07_GraphReaches_p8) (l07_GraphReaches_q18 Q E) E := fun τ H h =>
  wI 1 h (fun x1 h => wSl 5 h (fun x5 l5 c5 h => wSl 6 h (fun x6 l6 c6 h => (conv (by kernel_rfl) h))))

theorem l07_GraphReaches_44ok  : Ok Pr (l07_GraphReaches_42_M Q E) l07_GraphReaches_p8 (l07_GraphReaches_q2 Q E) E := fun τ H h =>
  (conv (by kernel_rfl) (vc_seq (K := (l07_GraphReaches_39_M Q E)) (l07_GraphReaches_43ok Q E τ H h) (l07_GraphReaches_41ok Q E)))

theorem l07_GraphReaches_45ok  : Ok Pr (l07_GraphReaches_42_M Q E) (sB (sB l07_GraphReaches_p4)) (l07_GraphReaches_q1 Q E) E := fun τ H h =>
  (conv (by kernel_rfl) (vc_seq (K := (l07_GraphReaches_1_M Q E)) (l07_GraphReaches_44ok Q E τ H h) (l07_GraphReaches_2ok Q E)))

noncomputable def l07_GraphReaches_q19  : XT := (xthen (l07_GraphReaches_42_M Q E) (l07_GraphReaches_q1 Q E))

def l07_GraphReaches_46 (Q : QT) (E : ET) (x1 : Int) (x5 : OA) (l5 c5 : Nat) (H : Heap) : Prop :=
 Does Pr 13 #[(.slice x5 l5 c5), (.int .i64 x1)] H (fun v91 H92 =>
 ∃ (p93 : OA) (l94 c95 : Nat), v91 = (.slice p93 l94 c95) ∧ l07_GraphReaches_42 Q E x1 x5 l5 c5 p93 l94 c95 H92) E

def l07_GraphReaches_46_M  (τ : Tau) (H : Heap) : Prop := mI .i64 (τ 1) fun x1 => mSl (τ 5) fun x5 l5 c5 => l07_GraphReaches_46 Q E x1 x5 l5 c5 H

theorem l07_GraphReaches_47ok  : Ok Pr (l07_GraphReaches_46_M Q E) (sA (sB l07_GraphReaches_p4)) (l07_GraphReaches_q19 Q E) E := fun τ H h =>
  wI 1 h (fun x1 h => wSl 5 h (fun x5 l5 c5 h => (conv (by kernel_rfl) h)))

theorem l07_GraphReaches_48ok  : Ok Pr (l07_GraphReaches_46_M Q E) (sB l07_GraphReaches_p4) (l07_GraphReaches_q1 Q E) E := fun τ H h =>
  (conv (by kernel_rfl) (vc_seq (K := (l07_GraphReaches_42_M Q E)) (l07_GraphReaches_47ok Q E τ H h) (l07_GraphReaches_45ok Q E)))

noncomputable def l07_GraphReaches_q20  : XT := (xthen (l07_GraphReaches_46_M Q E) (l07_GraphReaches_q1 Q E))

def l07_GraphReaches_49 (Q : QT) (E : ET) (x1 : Int) (x5 : OA) (l5 c5 : Nat) (H : Heap) : Prop :=
 Does Pr 12 #[(.int .i64 x1), (.int .i64 (l5 : Int))] H (fun v96 H97 =>
 ∃ n98 : Int, v96 = (.int .i64 n98) ∧ l07_GraphReaches_46 Q E n98 x5 l5 c5 H97) E

def l07_GraphReaches_49_M  (τ : Tau) (H : Heap) : Prop := mI .i64 (τ 1) fun x1 => mSl (τ 5) fun x5 l5 c5 => l07_GraphReaches_49 Q E x1 x5 l5 c5 H

theorem l07_GraphReaches_50ok  : Ok Pr (l07_GraphReaches_49_M Q E) (sA l07_GraphReaches_p4) (l07_GraphReaches_q20 Q E) E := fun τ H h =>
  wI 1 h (fun x1 h => wSl 5 h (fun x5 l5 c5 h => (conv (by kernel_rfl) h)))

theorem l07_GraphReaches_51ok  : Ok Pr (l07_GraphReaches_49_M Q E) l07_GraphReaches_p4 (l07_GraphReaches_q1 Q E) E := fun τ H h =>
  (conv (by kernel_rfl) (vc_seq (K := (l07_GraphReaches_46_M Q E)) (l07_GraphReaches_50ok Q E τ H h) (l07_GraphReaches_48ok Q E)))

noncomputable def l07_GraphReaches_q21  : XT := (xthen (l07_GraphReaches_49_M Q E) (l07_GraphReaches_q1 Q E))

def l07_GraphReaches_52 (Q : QT) (E : ET) (x1 : Int) (x5 : OA) (l5 c5 : Nat) (H : Heap) : Prop :=
 sel (((l5 : Int) : Int) == 0)
 (Does Pr 8 #[(.slice x5 l5 c5)] H (fun v99 H100 =>
 ∃ (p101 : OA) (l102 c103 : Nat), v99 = (.slice p101 l102 c103) ∧ Q (.bool (((l102 : Int) : Int) == 0)) H100) E)
 (l07_GraphReaches_49 Q E x1 x5 l5 c5 H)

def l07_GraphReaches_52_M  (τ : Tau) (H : Heap) : Prop := mI .i64 (τ 1) fun x1 => mSl (τ 5) fun x5 l5 c5 => l07_GraphReaches_52 Q E x1 x5 l5 c5 H

theorem l07_GraphReaches_53ok  : Ok Pr (l07_GraphReaches_52_M Q E) (sA (sB (sB l07_GraphReaches_p1))) (l07_GraphReaches_q21 Q E) E := fun τ H h =>
  wI 1 h (fun x1 h => wSl 5 h (fun x5 l5 c5 h => (conv (by kernel_rfl) h)))

theorem l07_GraphReaches_54ok  : Ok Pr (l07_GraphReaches_52_M Q E) (sB (sB l07_GraphReaches_p1)) (l07_GraphReaches_q1 Q E) E := fun τ H h =>
  (conv (by kernel_rfl) (vc_seq (K := (l07_GraphReaches_49_M Q E)) (l07_GraphReaches_53ok Q E τ H h) (l07_GraphReaches_51ok Q E)))

noncomputable def l07_GraphReaches_q22  : XT := (xthen (l07_GraphReaches_52_M Q E) (l07_GraphReaches_q1 Q E))

def l07_GraphReaches_55 (Q : QT) (E : ET) (x0 : OA) (l0 c0 : Nat) (x1 : Int) (H : Heap) : Prop :=
 Does Pr 7 #[(.slice x0 l0 c0)] H (fun v104 H105 =>
 ∃ (p106 : OA) (l107 c108 : Nat), v104 = (.slice p106 l107 c108) ∧ l07_GraphReaches_52 Q E x1 p106 l107 c108 H105) E

def l07_GraphReaches_55_M  (τ : Tau) (H : Heap) : Prop := mSl (τ 0) fun x0 l0 c0 => mI .i64 (τ 1) fun x1 => l07_GraphReaches_55 Q E x0 l0 c0 x1 H

theorem l07_GraphReaches_56ok  : Ok Pr (l07_GraphReaches_55_M Q E) (sA (sB l07_GraphReaches_p1)) (l07_GraphReaches_q22 Q E) E := fun τ H h =>
  wSl 0 h (fun x0 l0 c0 h => wI 1 h (fun x1 h => (conv (by kernel_rfl) h)))

theorem l07_GraphReaches_57ok  : Ok Pr (l07_GraphReaches_55_M Q E) (sB l07_GraphReaches_p1) (l07_GraphReaches_q1 Q E) E := fun τ H h =>
  (conv (by kernel_rfl) (vc_seq (K := (l07_GraphReaches_52_M Q E)) (l07_GraphReaches_56ok Q E τ H h) (l07_GraphReaches_54ok Q E)))

noncomputable def l07_GraphReaches_q23  : XT := (xthen (l07_GraphReaches_55_M Q E) (l07_GraphReaches_q1 Q E))

def l07_GraphReaches_58 (Q : QT) (E : ET) (x0 : OA) (l0 c0 : Nat) (x1 : Int) (H : Heap) : Prop :=
 Does Pr 6 #[] H (fun v109 H110 =>
 ∃ b111 : Bool, v109 = (.bool b111) ∧ sel (!b111)
 (Q (.bool false) H110)
 (l07_GraphReaches_55 Q E x0 l0 c0 x1 H110)) E

def l07_GraphReaches_58_M  (τ : Tau) (H : Heap) : Prop := mSl (τ 0) fun x0 l0 c0 => mI .i64 (τ 1) fun x1 => l07_GraphReaches_58 Q E x0 l0 c0 x1 H

theorem l07_GraphReaches_59ok  : Ok Pr (l07_GraphReaches_58_M Q E) (sA l07_GraphReaches_p1) (l07_GraphReaches_q23 Q E) E := fun τ H h =>
  wSl 0 h (fun x0 l0 c0 h => wI 1 h (fun x1 h => (conv (by kernel_rfl) h)))

theorem l07_GraphReaches_60ok  : Ok Pr (l07_GraphReaches_58_M Q E) l07_GraphReaches_p1 (l07_GraphReaches_q1 Q E) E := fun τ H h =>
  (conv (by kernel_rfl) (vc_seq (K := (l07_GraphReaches_55_M Q E)) (l07_GraphReaches_59ok Q E τ H h) (l07_GraphReaches_57ok Q E)))

def l07_GraphReaches (Q : QT) (E : ET) (a0 : OA) (a0l : Nat) (a0c : Nat) (a1 : Int) (H : Heap) : Prop :=
 l07_GraphReaches_58 Q E a0 a0l a0c a1 H

theorem l07_GraphReaches_fn (a0 : OA) (a0l : Nat) (a0c : Nat) (a1 : Int) (Q : QT) (E : ET) (H : Heap) (h : l07_GraphReaches Q E a0 a0l a0c a1 H)   : Does Pr 5 #[(.slice a0 a0l a0c), (.int .i64 a1)] H Q E :=
  Fn_of_vc (fn := Try.f5) (c := (bodyOf Try.f5)) (args := [(.slice a0 a0l a0c), (.int .i64 a1)]) mixed (by kernel_rfl) (by kernel_rfl) (by kernel_rfl) (by kernel_rfl) (by kernel_rfl) ((conv (B := vc Pr (bodyOf Try.f5) (argT [(.slice a0 a0l a0c), (.int .i64 a1)]) (l07_GraphReaches_q1 Q E) E H) (by kernel_rfl) (vc_seq (K := (l07_GraphReaches_58_M Q E)) (conv (B := vc Pr (sA (bodyOf Try.f5)) (argT [(.slice a0 a0l a0c), (.int .i64 a1)]) (xthen (l07_GraphReaches_58_M Q E) (l07_GraphReaches_q1 Q E)) E H) (by kernel_rfl) h) (l07_GraphReaches_60ok Q E))))

/-! jobmux/jobmuxlaw07.sane -/
noncomputable def l07_sane_q1 (Q : QT) (E : ET)  : XT := (retQ Pr (Try.f6).results.toList Q)

def l07_sane (Q : QT) (E : ET)  (H : Heap) : Prop :=
 nw (.cells #[(.string ⟨[98].toArray⟩)] 9 (0, 0)) H fun i1 H2 =>
 nw (.cells #[(.string ⟨[97].toArray⟩), (.string ⟨#[]⟩), (.slice none 0 0), (.slice (some ⟨i1, 0, none⟩) 1 1), (.bool false), (.string ⟨#[]⟩), (.int .i64 0), (.int .u64 0), (.int .u64 0), (.int .u64 0), (.int .i64 0), (.int .u64 0), (.slice none 0 0), (.int .i64 0), (.int .i64 0), (.string ⟨[98].toArray⟩), (.string ⟨#[]⟩), (.slice none 0 0), (.slice none 0 0), (.bool false), (.string ⟨#[]⟩), (.int .i64 0), (.int .u64 0), (.int .u64 0), (.int .u64 0), (.int .i64 0), (.int .u64 0), (.slice none 0 0), (.int .i64 0), (.int .i64 0)] 36 (0, 0)) H2 fun i3 H4 =>
 Does Pr 8 #[(.slice (some ⟨i3, 0, none⟩) 2 2)] H4 (fun v5 H6 =>
 ∃ (p7 : OA) (l8 c9 : Nat), v5 = (.slice p7 l8 c9) ∧ nw (.cells #[(.string ⟨[97].toArray⟩)] 9 (0, 0)) H6 fun i10 H11 =>
 (0 ≤ (1 : Int) ∧ (1 : Int) < ((2 : Nat) : Int)) ∧ wr ⟨i3, 18, none⟩ [(.slice (some ⟨i10, 0, none⟩) 1 1)] H11 fun H12 =>
 sel (((l8 : Int) : Int) == 2)
 ((0 ≤ (0 : Int) ∧ (0 : Int) < (l8 : Int)) ∧ ptr p7 fun q13 =>
 ldI .i64 q13 H12 fun n14 =>
 sel (n14 == 1)
 ((0 ≤ (1 : Int) ∧ (1 : Int) < (l8 : Int)) ∧ ptr p7 fun q15 =>
 ldI .i64 (Addr.add q15 1) H12 fun n16 =>
 sel (n16 == 0)
 (Does Pr 8 #[(.slice (some ⟨i3, 0, none⟩) 2 2)] H12 (fun v17 H18 =>
 ∃ (p19 : OA) (l20 c21 : Nat), v17 = (.slice p19 l20 c21) ∧ sel (((l20 : Int) : Int) == 0)
 (Does Pr 9 #[(.slice (some ⟨i3, 0, none⟩) 2 2)] H18 (fun v22 H23 =>
 ∃ (p24 : OA) (l25 c26 : Nat), v22 = (.slice p24 l25 c26) ∧ Q (.bool (((l25 : Int) : Int) == 2)) H23) E)
 (Q (.bool false) H18)) E)
 (Q (.bool false) H12))
 (Q (.bool false) H12))
 (Q (.bool false) H12)) E

theorem l07_sane_fn  (Q : QT) (E : ET) (H : Heap) (h : l07_sane Q E  H)   : Does Pr 6 #[] H Q E :=
  Fn_of_vc (fn := Try.f6) (c := (bodyOf Try.f6)) (args := []) mixed (by kernel_rfl) (by kernel_rfl) (by kernel_rfl) (by kernel_rfl) (by kernel_rfl) ((conv (B := vc Pr (bodyOf Try.f6) (argT []) (l07_sane_q1 Q E) E H) (by kernel_rfl) h))

/-! jobmux/jobmuxlaw07.wild -/
noncomputable def l07_wild_q1 (Q : QT) (E : ET)  : XT := (retQ Pr (Try.f7).results.toList Q)

noncomputable def l07_wild_p1 : Code := sB (bodyOf Try.f7)

def l07_wild_1 (Q : QT) (E : ET) (x4 : OA) (l4 c4 : Nat) (H : Heap) : Prop :=
 Q (.slice x4 l4 c4) H

def l07_wild_1_M  (τ : Tau) (H : Heap) : Prop := mSl (τ 4) fun x4 l4 c4 => l07_wild_1 Q E x4 l4 c4 H

theorem l07_wild_2ok  : Ok Pr (l07_wild_1_M Q E) (sB (sB (sB l07_wild_p1))) (l07_wild_q1 Q E) E := fun τ H h =>
  wSl 4 h (fun x4 l4 c4 h => (conv (by kernel_rfl) h))

noncomputable def l07_wild_q2  : XT := (xthen (l07_wild_1_M Q E) (l07_wild_q1 Q E))

noncomputable def l07_wild_p5 : Code := sA (sB (sB l07_wild_p1))

noncomputable def l07_wild_q4 (nx64 : OA → Nat → Nat → Int → HP) : XT := (xthen (fun τ H => mSl (τ 4) fun x4' l4' c4' => mI .i64 (τ 5) fun x5' => nx64 x4' l4' c4' x5' H) (xblock 0 (l07_wild_q2 Q E)))

noncomputable def l07_wild_p8 : Code := sI (sI (sB l07_wild_p5))

noncomputable def l07_wild_p9 : Code := sB l07_wild_p8

def l07_wild_3 (nx64 : OA → Nat → Nat → Int → HP) (Q : QT) (E : ET) (x3 x4 : OA) (l4 c4 : Nat) (x5 : Int) (H : Heap) : Prop :=
 nx64 x4 l4 c4 (IntKind.wrap .i64 (x5 + 1)) H

def l07_wild_3_M (nx64 : OA → Nat → Nat → Int → HP) (τ : Tau) (H : Heap) : Prop := mP (τ 3) fun x3 => mSl (τ 4) fun x4 l4 c4 => mI .i64 (τ 5) fun x5 => l07_wild_3 nx64 Q E x3 x4 l4 c4 x5 H

theorem l07_wild_4ok (nx64 : OA → Nat → Nat → Int → HP) : Ok Pr (l07_wild_3_M Q E nx64) (sB l07_wild_p9) (l07_wild_q4 Q E nx64) E := fun τ H h =>
  wP 3 h (fun x3 h => wSl 4 h (fun x4 l4 c4 h => wI 5 h (fun x5 h => (conv (by kernel_rfl) h))))

noncomputable def l07_wild_q6 (nx64 : OA → Nat → Nat → Int → HP) : XT := (xblock 1 (xthen (l07_wild_3_M Q E nx64) (l07_wild_q4 Q E nx64)))

noncomputable def l07_wild_p13 : Code := sB (sI (sA l07_wild_p9))

def l07_wild_5 (nx64 : OA → Nat → Nat → Int → HP) (Q : QT) (E : ET) (x3 x4 : OA) (l4 c4 : Nat) (x5 : Int) (x6 : OA) (H : Heap) : Prop :=
 ptr x6 fun q155 =>
 ∃ s156 : ByteArray, ∃ s157 : ByteArray, ∃ (p158 : OA) (l159 c160 : Nat), ∃ (p161 : OA) (l162 c163 : Nat), ∃ b164 : Bool, ∃ s165 : ByteArray, ∃ n166 n167 n168 n169 n170 n171 : Int, ∃ (p172 : OA) (l173 c174 : Nat), ∃ n175 n176 : Int, Heap.rd H q155 0 [(.string s156), (.string s157), (.slice p158 l159 c160), (.slice p161 l162 c163), (.bool b164), (.string s165), (.int .i64 n166), (.int .u64 n167), (.int .u64 n168), (.int .u64 n169), (.int .i64 n170), (.int .u64 n171), (.slice p172 l173 c174), (.int .i64 n175), (.int .i64 n176)] ∧ nw (.cells #[(.string s156), (.string s157), (.slice p158 l159 c160), (.slice p161 l162 c163), (.bool b164), (.string s165), (.int .i64 n166), (.int .u64 n167), (.int .u64 n168), (.int .u64 n169), (.int .i64 n170), (.int .u64 n171), (.slice p172 l173 c174), (.int .i64 n175), (.int .i64 n176)] 36 (0, 0)) H fun i177 H178 =>
 app Pr 24 x4 l4 c4 (.slice (some ⟨i177, 0, none⟩) 1 1) H178 fun p179 l180 c181 H182 =>
 l07_wild_3 nx64 Q E x3 p179 l180 c181 x5 H182

def l07_wild_5_M (nx64 : OA → Nat → Nat → Int → HP) (τ : Tau) (H : Heap) : Prop := mP (τ 3) fun x3 => mSl (τ 4) fun x4 l4 c4 => mI .i64 (τ 5) fun x5 => mP (τ 6) fun x6 => l07_wild_5 nx64 Q E x3 x4 l4 c4 x5 x6 H

theorem l07_wild_6ok (nx64 : OA → Nat → Nat → Int → HP) : Ok Pr (l07_wild_5_M Q E nx64) (sB (sB l07_wild_p13)) (l07_wild_q6 Q E nx64) E := fun τ H h =>
  wP 3 h (fun x3 h => wSl 4 h (fun x4 l4 c4 h => wI 5 h (fun x5 h => wP 6 h (fun x6 h => (conv (by kernel_rfl) h)))))

noncomputable def l07_wild_q7 (nx64 : OA → Nat → Nat → Int → HP) : XT := (xthen (l07_wild_5_M Q E nx64) (l07_wild_q6 Q E nx64))

noncomputable def l07_wild_p16 : Code := sA (sB l07_wild_p13)

noncomputable def l07_wild_q9 (nx64 : OA → Nat → Nat → Int → HP) (nx186 : Int → HP) : XT := (xthen (fun τ H => mI .i64 (τ 7) fun x7' => nx186 x7' H) (xblock 2 (l07_wild_q7 Q E nx64)))

noncomputable def l07_wild_p19 : Code := sI (sI (sB l07_wild_p16))

def l07_wild_7 (nx64 : OA → Nat → Nat → Int → HP) (nx186 : Int → HP) (Q : QT) (E : ET) (x3 x4 : OA) (l4 c4 : Nat) (x5 : Int) (x6 : OA) (x7 : Int) (H : Heap) : Prop :=
 ∃ Z187 : Nat → Prop,
 ptr x6 fun q188 =>
 Z187 (Addr.block (Addr.add q188 3)) ∧ ldSl (Addr.add q188 3) H fun p189 l190 c191 =>
 Does Pr 16 #[(.pointer x3), (.int .i64 8)] H (fun v192 H193 =>
 ∃ n194 : Int, v192 = (.int .i64 n194) ∧ (∀ z, Z187 z → H z ≠ none → H193 z = H z) ∧ (∀ z, Z187 z → H193 z ≠ none → H193 z = H193 z) ∧ nw (.cells #[(.int .u8 (IntKind.wrap .u8 (IntKind.wrap .i64 (97 + n194))))] 5 (0, 0)) H193 fun i195 H196 =>
 ∃ bs197 : List UInt8, bs197.length = 1 ∧ Heap.rdS H196 (some ⟨i195, 0, none⟩) (bs197.map byteV) ∧ (∀ z, Z187 z → H196 z ≠ none → H196 z = H196 z) ∧ nw (.cells #[(.string (⟨bs197.toArray⟩ : ByteArray))] 9 (0, 0)) H196 fun i198 H199 =>
 app Pr 31 p189 l190 c191 (.slice (some ⟨i198, 0, none⟩) 1 1) H199 fun p200 l201 c202 H203 =>
 ptr x6 fun q204 =>
 wr (Addr.add q204 3) [(.slice p200 l201 c202)] H203 fun H205 =>
 nx186 (IntKind.wrap .i64 (x7 - 1)) H205) (fun _ _ => False)

def l07_wild_7_M (nx64 : OA → Nat → Nat → Int → HP) (nx186 : Int → HP) (τ : Tau) (H : Heap) : Prop := mP (τ 3) fun x3 => mSl (τ 4) fun x4 l4 c4 => mI .i64 (τ 5) fun x5 => mP (τ 6) fun x6 => mI .i64 (τ 7) fun x7 => l07_wild_7 nx64 nx186 Q E x3 x4 l4 c4 x5 x6 x7 H

theorem l07_wild_8ok (nx64 : OA → Nat → Nat → Int → HP) (nx186 : Int → HP) : Ok Pr (l07_wild_7_M Q E nx64 nx186) (sB l07_wild_p19) (l07_wild_q9 Q E nx64 nx186) E := fun τ H h =>
  wP 3 h (fun x3 h => wSl 4 h (fun x4 l4 c4 h => wI 5 h (fun x5 h => wP 6 h (fun x6 h => wI 7 h (fun x7 h => (conv (by kernel_rfl) h))))))

noncomputable def l07_wild_q10 (nx64 : OA → Nat → Nat → Int → HP) (nx186 : Int → HP) : XT := (xthen (l07_wild_7_M Q E nx64 nx186) (l07_wild_q9 Q E nx64 nx186))

def l07_wild_9 (nx64 : OA → Nat → Nat → Int → HP) (nx186 : Int → HP) (Q : QT) (E : ET) (x3 x4 : OA) (l4 c4 : Nat) (x5 : Int) (x6 : OA) (x7 : Int) (H : Heap) : Prop :=
 sel (decide (x7 > 0))
 (l07_wild_7 nx64 nx186 Q E x3 x4 l4 c4 x5 x6 x7 H)
 (l07_wild_5 nx64 Q E x3 x4 l4 c4 x5 x6 H)

def l07_wild_9_M (nx64 : OA → Nat → Nat → Int → HP) (nx186 : Int → HP) (τ : Tau) (H : Heap) : Prop := mP (τ 3) fun x3 => mSl (τ 4) fun x4 l4 c4 => mI .i64 (τ 5) fun x5 => mP (τ 6) fun x6 => mI .i64 (τ 7) fun x7 => l07_wild_9 nx64 nx186 Q E x3 x4 l4 c4 x5 x6 x7 H

theorem l07_wild_10ok (nx64 : OA → Nat → Nat → Int → HP) (nx186 : Int → HP) : Ok Pr (l07_wild_9_M Q E nx64 nx186) (sA l07_wild_p19) (l07_wild_q10 Q E nx64 nx186) E := fun τ H h =>
  wP 3 h (fun x3 h => wSl 4 h (fun x4 l4 c4 h => wI 5 h (fun x5 h => wP 6 h (fun x6 h => wI 7 h (fun x7 h => (conv (by kernel_rfl) h))))))

theorem l07_wild_11ok (nx64 : OA → Nat → Nat → Int → HP) (nx186 : Int → HP) : Ok Pr (l07_wild_9_M Q E nx64 nx186) l07_wild_p19 (l07_wild_q9 Q E nx64 nx186) E := fun τ H h =>
  (conv (by kernel_rfl) (vc_seq (K := (l07_wild_7_M Q E nx64 nx186)) (l07_wild_10ok Q E nx64 nx186 τ H h) (l07_wild_8ok Q E nx64 nx186)))

def l07_wild_12 (nx64 : OA → Nat → Nat → Int → HP) (Q : QT) (E : ET) (x3 x4 : OA) (l4 c4 : Nat) (x5 : Int) (x6 : OA) (x7 : Int) (H : Heap) : Prop :=
 ∃ (I : Int → HP) (μ : Int → Heap → Nat), I x7 H ∧ ∀ (x7 : Int) (H : Heap), I x7 H →
 l07_wild_9 nx64 (fun x7' H1 => I x7' H1 ∧ μ x7' H1 < μ x7 H) Q E x3 x4 l4 c4 x5 x6 x7 H

def l07_wild_12_M (nx64 : OA → Nat → Nat → Int → HP) (τ : Tau) (H : Heap) : Prop := mP (τ 3) fun x3 => mSl (τ 4) fun x4 l4 c4 => mI .i64 (τ 5) fun x5 => mP (τ 6) fun x6 => mI .i64 (τ 7) fun x7 => l07_wild_12 nx64 Q E x3 x4 l4 c4 x5 x6 x7 H

theorem l07_wild_13ok (nx64 : OA → Nat → Nat → Int → HP) : Ok Pr (l07_wild_12_M Q E nx64) (sI (sB l07_wild_p16)) (xblock 2 (l07_wild_q7 Q E nx64)) E := fun τ H h =>
  wP 3 h (fun x3 h => wSl 4 h (fun x4 l4 c4 h => wI 5 h (fun x5 h => wP 6 h (fun x6 h => wI 7 h (fun x7 h => match h with | ⟨I, μ, h0, hr⟩ => (conv (by kernel_rfl) (vc_loopG (c := sI (sI (sB l07_wild_p16))) (τ := (Tau.upd (Tau.upd (Tau.upd (Tau.upd (Tau.upd τ 3 (.pointer x3)) 4 (.slice x4 l4 c4)) 5 (.int .i64 x5)) 6 (.pointer x6)) 7 (.int .i64 x7))) [3, 4, 5, 6] (fun τ H => mI .i64 (τ 7) fun x7' => I x7' H) (fun τ H => μ (gI (τ 7)) H) (by kernel_rfl) h0 (fun τ1 H1 hf hI => uF 3 (.pointer x3) (hf 3 (by simp)) (uF 4 (.slice x4 l4 c4) (hf 4 (by simp)) (uF 5 (.int .i64 x5) (hf 5 (by simp)) (uF 6 (.pointer x6) (hf 6 (by simp)) (uI 7 hI (fun x7r h => lgx (l07_wild_11ok Q E nx64 (fun x7' H2 => I x7' H2 ∧ μ x7' H2 < μ x7r H1) (Tau.upd (Tau.upd (Tau.upd (Tau.upd (Tau.upd τ1 3 (.pointer x3)) 4 (.slice x4 l4 c4)) 5 (.int .i64 x5)) 6 (.pointer x6)) 7 (.int .i64 x7r)) H1 (conv (by kernel_rfl) (hr x7r H1 h))) (fun τ2 H2 hk => kI 7 hk (fun x7' h => conv (by kernel_rfl) h)))))))))))))))

theorem l07_wild_14ok (nx64 : OA → Nat → Nat → Int → HP) : Ok Pr (l07_wild_12_M Q E nx64) (sB l07_wild_p16) (l07_wild_q7 Q E nx64) E := fun τ H h =>
  (conv (by kernel_rfl) (l07_wild_13ok Q E nx64 τ H h))

noncomputable def l07_wild_q11 (nx64 : OA → Nat → Nat → Int → HP) : XT := (xthen (l07_wild_12_M Q E nx64) (l07_wild_q7 Q E nx64))

def l07_wild_15 (nx64 : OA → Nat → Nat → Int → HP) (Q : QT) (E : ET) (x3 x4 : OA) (l4 c4 : Nat) (x5 : Int) (x6 : OA) (H : Heap) : Prop :=
 Does Pr 16 #[(.pointer x3), (.int .i64 3)] H (fun v206 H207 =>
 ∃ n208 : Int, v206 = (.int .i64 n208) ∧ l07_wild_12 nx64 Q E x3 x4 l4 c4 x5 x6 n208 H207) E

def l07_wild_15_M (nx64 : OA → Nat → Nat → Int → HP) (τ : Tau) (H : Heap) : Prop := mP (τ 3) fun x3 => mSl (τ 4) fun x4 l4 c4 => mI .i64 (τ 5) fun x5 => mP (τ 6) fun x6 => l07_wild_15 nx64 Q E x3 x4 l4 c4 x5 x6 H

theorem l07_wild_16ok (nx64 : OA → Nat → Nat → Int → HP) : Ok Pr (l07_wild_15_M Q E nx64) (sA l07_wild_p16) (l07_wild_q11 Q E nx64) E := fun τ H h =>
  wP 3 h (fun x3 h => wSl 4 h (fun x4 l4 c4 h => wI 5 h (fun x5 h => wP 6 h (fun x6 h => (conv (by kernel_rfl) h)))))

theorem l07_wild_17ok (nx64 : OA → Nat → Nat → Int → HP) : Ok Pr (l07_wild_15_M Q E nx64) l07_wild_p16 (l07_wild_q7 Q E nx64) E := fun τ H h =>
  (conv (by kernel_rfl) (vc_seq (K := (l07_wild_12_M Q E nx64)) (l07_wild_16ok Q E nx64 τ H h) (l07_wild_14ok Q E nx64)))

theorem l07_wild_18ok (nx64 : OA → Nat → Nat → Int → HP) : Ok Pr (l07_wild_15_M Q E nx64) (sB l07_wild_p13) (l07_wild_q6 Q E nx64) E := fun τ H h =>
  (conv (by kernel_rfl) (vc_seq (K := (l07_wild_5_M Q E nx64)) (l07_wild_17ok Q E nx64 τ H h) (l07_wild_6ok Q E nx64)))

noncomputable def l07_wild_q12 (nx64 : OA → Nat → Nat → Int → HP) : XT := (xthen (l07_wild_15_M Q E nx64) (l07_wild_q6 Q E nx64))

def l07_wild_19 (nx64 : OA → Nat → Nat → Int → HP) (Q : QT) (E : ET) (x3 x4 : OA) (l4 c4 : Nat) (x5 : Int) (x6 : OA) (H : Heap) : Prop :=
 Does Pr 16 #[(.pointer x3), (.int .i64 8)] H (fun v209 H210 =>
 ∃ n211 : Int, v209 = (.int .i64 n211) ∧ sel (n211 == 0)
 (ptr x6 fun q212 =>
 wr q212 [(.string ⟨[97].toArray⟩)] H210 fun H213 =>
 l07_wild_15 nx64 Q E x3 x4 l4 c4 x5 x6 H213)
 (l07_wild_15 nx64 Q E x3 x4 l4 c4 x5 x6 H210)) E

def l07_wild_19_M (nx64 : OA → Nat → Nat → Int → HP) (τ : Tau) (H : Heap) : Prop := mP (τ 3) fun x3 => mSl (τ 4) fun x4 l4 c4 => mI .i64 (τ 5) fun x5 => mP (τ 6) fun x6 => l07_wild_19 nx64 Q E x3 x4 l4 c4 x5 x6 H

theorem l07_wild_20ok (nx64 : OA → Nat → Nat → Int → HP) : Ok Pr (l07_wild_19_M Q E nx64) (sA l07_wild_p13) (l07_wild_q12 Q E nx64) E := fun τ H h =>
  wP 3 h (fun x3 h => wSl 4 h (fun x4 l4 c4 h => wI 5 h (fun x5 h => wP 6 h (fun x6 h => (conv (by kernel_rfl) h)))))

theorem l07_wild_21ok (nx64 : OA → Nat → Nat → Int → HP) : Ok Pr (l07_wild_19_M Q E nx64) l07_wild_p13 (l07_wild_q6 Q E nx64) E := fun τ H h =>
  (conv (by kernel_rfl) (vc_seq (K := (l07_wild_15_M Q E nx64)) (l07_wild_20ok Q E nx64 τ H h) (l07_wild_18ok Q E nx64)))

def l07_wild_22 (nx64 : OA → Nat → Nat → Int → HP) (Q : QT) (E : ET) (x3 x4 : OA) (l4 c4 : Nat) (x5 : Int) (H : Heap) : Prop :=
 nw (.cells #[(.int .u8 (IntKind.wrap .u8 (IntKind.wrap .i64 (97 + x5))))] 5 (0, 0)) H fun i214 H215 =>
 ∃ bs216 : List UInt8, bs216.length = 1 ∧ Heap.rdS H215 (some ⟨i214, 0, none⟩) (bs216.map byteV) ∧ nw (.cells #[(.string ⟨#[]⟩), (.string ⟨#[]⟩), (.slice none 0 0), (.slice none 0 0), (.bool false), (.string ⟨#[]⟩), (.int .i64 0), (.int .u64 0), (.int .u64 0), (.int .u64 0), (.int .i64 0), (.int .u64 0), (.slice none 0 0), (.int .i64 0), (.int .i64 0)] 36 (0, 0)) H215 fun i217 H218 =>
 wr ⟨i217, 0, none⟩ [(.string (⟨bs216.toArray⟩ : ByteArray)), (.string ⟨#[]⟩), (.slice none 0 0), (.slice none 0 0), (.bool false), (.string ⟨#[]⟩), (.int .i64 0), (.int .u64 0), (.int .u64 0), (.int .u64 0), (.int .i64 0), (.int .u64 0), (.slice none 0 0), (.int .i64 0), (.int .i64 0)] H218 fun H219 =>
 l07_wild_19 nx64 Q E x3 x4 l4 c4 x5 (some ⟨i217, 0, none⟩) H219

def l07_wild_22_M (nx64 : OA → Nat → Nat → Int → HP) (τ : Tau) (H : Heap) : Prop := mP (τ 3) fun x3 => mSl (τ 4) fun x4 l4 c4 => mI .i64 (τ 5) fun x5 => l07_wild_22 nx64 Q E x3 x4 l4 c4 x5 H

theorem l07_wild_23ok (nx64 : OA → Nat → Nat → Int → HP) : Ok Pr (l07_wild_22_M Q E nx64) (sA (sI (sA l07_wild_p9))) (xthen (l07_wild_19_M Q E nx64) (l07_wild_q6 Q E nx64)) E := fun τ H h =>
  wP 3 h (fun x3 h => wSl 4 h (fun x4 l4 c4 h => wI 5 h (fun x5 h => (conv (by kernel_rfl) h))))

theorem l07_wild_24ok (nx64 : OA → Nat → Nat → Int → HP) : Ok Pr (l07_wild_22_M Q E nx64) (sI (sA l07_wild_p9)) (l07_wild_q6 Q E nx64) E := fun τ H h =>
  (conv (by kernel_rfl) (vc_seq (K := (l07_wild_19_M Q E nx64)) (l07_wild_23ok Q E nx64 τ H h) (l07_wild_21ok Q E nx64)))

theorem l07_wild_25ok (nx64 : OA → Nat → Nat → Int → HP) : Ok Pr (l07_wild_22_M Q E nx64) (sA l07_wild_p9) (xthen (l07_wild_3_M Q E nx64) (l07_wild_q4 Q E nx64)) E := fun τ H h =>
  (conv (by kernel_rfl) (l07_wild_24ok Q E nx64 τ H h))

theorem l07_wild_26ok (nx64 : OA → Nat → Nat → Int → HP) : Ok Pr (l07_wild_22_M Q E nx64) l07_wild_p9 (l07_wild_q4 Q E nx64) E := fun τ H h =>
  (conv (by kernel_rfl) (vc_seq (K := (l07_wild_3_M Q E nx64)) (l07_wild_25ok Q E nx64 τ H h) (l07_wild_4ok Q E nx64)))

noncomputable def l07_wild_q14 (nx64 : OA → Nat → Nat → Int → HP) : XT := (xthen (l07_wild_22_M Q E nx64) (l07_wild_q4 Q E nx64))

def l07_wild_27 (nx64 : OA → Nat → Nat → Int → HP) (Q : QT) (E : ET) (x3 x4 : OA) (l4 c4 : Nat) (x5 : Int) (x15 : Bool) (H : Heap) : Prop :=
 sel x15
 (l07_wild_22 nx64 Q E x3 x4 l4 c4 x5 H)
 (l07_wild_1 Q E x4 l4 c4 H)

def l07_wild_27_M (nx64 : OA → Nat → Nat → Int → HP) (τ : Tau) (H : Heap) : Prop := mP (τ 3) fun x3 => mSl (τ 4) fun x4 l4 c4 => mI .i64 (τ 5) fun x5 => mB (τ 15) fun x15 => l07_wild_27 nx64 Q E x3 x4 l4 c4 x5 x15 H

theorem l07_wild_28ok (nx64 : OA → Nat → Nat → Int → HP) : Ok Pr (l07_wild_27_M Q E nx64) (sB (sA l07_wild_p8)) (l07_wild_q14 Q E nx64) E := fun τ H h =>
  wP 3 h (fun x3 h => wSl 4 h (fun x4 l4 c4 h => wI 5 h (fun x5 h => wB 15 h (fun x15 h => (conv (by kernel_rfl) h)))))

noncomputable def l07_wild_q15 (nx64 : OA → Nat → Nat → Int → HP) : XT := (xthen (l07_wild_27_M Q E nx64) (l07_wild_q14 Q E nx64))

def l07_wild_29 (nx64 : OA → Nat → Nat → Int → HP) (Q : QT) (E : ET) (x3 x4 : OA) (l4 c4 : Nat) (x5 : Int) (H : Heap) : Prop :=
 sel (decide (x5 < 6))
 (Does Pr 15 #[(.pointer x3)] H (fun v223 H224 =>
 ∃ b225 : Bool, v223 = (.bool b225) ∧ l07_wild_27 nx64 Q E x3 x4 l4 c4 x5 b225 H224) E)
 (l07_wild_27 nx64 Q E x3 x4 l4 c4 x5 false H)

def l07_wild_29_M (nx64 : OA → Nat → Nat → Int → HP) (τ : Tau) (H : Heap) : Prop := mP (τ 3) fun x3 => mSl (τ 4) fun x4 l4 c4 => mI .i64 (τ 5) fun x5 => l07_wild_29 nx64 Q E x3 x4 l4 c4 x5 H

theorem l07_wild_30ok (nx64 : OA → Nat → Nat → Int → HP) : Ok Pr (l07_wild_29_M Q E nx64) (sA (sA l07_wild_p8)) (l07_wild_q15 Q E nx64) E := fun τ H h =>
  wP 3 h (fun x3 h => wSl 4 h (fun x4 l4 c4 h => wI 5 h (fun x5 h => (conv (by kernel_rfl) h))))

theorem l07_wild_31ok (nx64 : OA → Nat → Nat → Int → HP) : Ok Pr (l07_wild_29_M Q E nx64) (sA l07_wild_p8) (l07_wild_q14 Q E nx64) E := fun τ H h =>
  (conv (by kernel_rfl) (vc_seq (K := (l07_wild_27_M Q E nx64)) (l07_wild_30ok Q E nx64 τ H h) (l07_wild_28ok Q E nx64)))

theorem l07_wild_32ok (nx64 : OA → Nat → Nat → Int → HP) : Ok Pr (l07_wild_29_M Q E nx64) l07_wild_p8 (l07_wild_q4 Q E nx64) E := fun τ H h =>
  (conv (by kernel_rfl) (vc_seq (K := (l07_wild_22_M Q E nx64)) (l07_wild_31ok Q E nx64 τ H h) (l07_wild_26ok Q E nx64)))

def l07_wild_33 (Q : QT) (E : ET) (x3 x4 : OA) (l4 c4 : Nat) (x5 : Int) (H : Heap) : Prop :=
 ∃ (I : OA → Nat → Nat → Int → HP) (μ : OA → Nat → Nat → Int → Heap → Nat), I x4 l4 c4 x5 H ∧ ∀ (x4 : OA) (l4 c4 : Nat) (x5 : Int) (H : Heap), I x4 l4 c4 x5 H →
 l07_wild_29 (fun x4' l4' c4' x5' H1 => I x4' l4' c4' x5' H1 ∧ μ x4' l4' c4' x5' H1 < μ x4 l4 c4 x5 H) Q E x3 x4 l4 c4 x5 H

def l07_wild_33_M  (τ : Tau) (H : Heap) : Prop := mP (τ 3) fun x3 => mSl (τ 4) fun x4 l4 c4 => mI .i64 (τ 5) fun x5 => l07_wild_33 Q E x3 x4 l4 c4 x5 H

theorem l07_wild_34ok  : Ok Pr (l07_wild_33_M Q E) (sI (sB l07_wild_p5)) (xblock 0 (l07_wild_q2 Q E)) E := fun τ H h =>
  wP 3 h (fun x3 h => wSl 4 h (fun x4 l4 c4 h => wI 5 h (fun x5 h => match h with | ⟨I, μ, h0, hr⟩ => (conv (by kernel_rfl) (vc_loopG (c := sI (sI (sB l07_wild_p5))) (τ := (Tau.upd (Tau.upd (Tau.upd τ 3 (.pointer x3)) 4 (.slice x4 l4 c4)) 5 (.int .i64 x5))) [3] (fun τ H => mSl (τ 4) fun x4' l4' c4' => mI .i64 (τ 5) fun x5' => I x4' l4' c4' x5' H) (fun τ H => μ (gL1 (τ 4)) (gL2 (τ 4)) (gL3 (τ 4)) (gI (τ 5)) H) (by kernel_rfl) h0 (fun τ1 H1 hf hI => uF 3 (.pointer x3) (hf 3 (by simp)) (uSl 4 hI (fun x4r l4r c4r h => uI 5 h (fun x5r h => lgx (l07_wild_32ok Q E (fun x4' l4' c4' x5' H2 => I x4' l4' c4' x5' H2 ∧ μ x4' l4' c4' x5' H2 < μ x4r l4r c4r x5r H1) (Tau.upd (Tau.upd (Tau.upd τ1 3 (.pointer x3)) 4 (.slice x4r l4r c4r)) 5 (.int .i64 x5r)) H1 (conv (by kernel_rfl) (hr x4r l4r c4r x5r H1 h))) (fun τ2 H2 hk => kSl 4 hk (fun x4' l4' c4' h => kI 5 h (fun x5' h => conv (by kernel_rfl) h))))))))))))

theorem l07_wild_35ok  : Ok Pr (l07_wild_33_M Q E) (sB l07_wild_p5) (l07_wild_q2 Q E) E := fun τ H h =>
  (conv (by kernel_rfl) (l07_wild_34ok Q E τ H h))

noncomputable def l07_wild_q16  : XT := (xthen (l07_wild_33_M Q E) (l07_wild_q2 Q E))

def l07_wild_36 (Q : QT) (E : ET) (x3 x4 : OA) (l4 c4 : Nat) (H : Heap) : Prop :=
 l07_wild_33 Q E x3 x4 l4 c4 0 H

def l07_wild_36_M  (τ : Tau) (H : Heap) : Prop := mP (τ 3) fun x3 => mSl (τ 4) fun x4 l4 c4 => l07_wild_36 Q E x3 x4 l4 c4 H

theorem l07_wild_37ok  : Ok Pr (l07_wild_36_M Q E) (sA l07_wild_p5) (l07_wild_q16 Q E) E := fun τ H h =>
  wP 3 h (fun x3 h => wSl 4 h (fun x4 l4 c4 h => (conv (by kernel_rfl) h)))

theorem l07_wild_38ok  : Ok Pr (l07_wild_36_M Q E) l07_wild_p5 (l07_wild_q2 Q E) E := fun τ H h =>
  (conv (by kernel_rfl) (vc_seq (K := (l07_wild_33_M Q E)) (l07_wild_37ok Q E τ H h) (l07_wild_35ok Q E)))

theorem l07_wild_39ok  : Ok Pr (l07_wild_36_M Q E) (sB (sB l07_wild_p1)) (l07_wild_q1 Q E) E := fun τ H h =>
  (conv (by kernel_rfl) (vc_seq (K := (l07_wild_1_M Q E)) (l07_wild_38ok Q E τ H h) (l07_wild_2ok Q E)))

def l07_wild_40 (Q : QT) (E : ET) (x3 : OA) (H : Heap) : Prop :=
 l07_wild_36 Q E x3 none 0 0 H

def l07_wild_40_M  (τ : Tau) (H : Heap) : Prop := mP (τ 3) fun x3 => l07_wild_40 Q E x3 H

theorem l07_wild_41ok  : Ok Pr (l07_wild_40_M Q E) (sA (sB l07_wild_p1)) (xthen (l07_wild_36_M Q E) (l07_wild_q1 Q E)) E := fun τ H h =>
  wP 3 h (fun x3 h => (conv (by kernel_rfl) h))

theorem l07_wild_42ok  : Ok Pr (l07_wild_40_M Q E) (sB l07_wild_p1) (l07_wild_q1 Q E) E := fun τ H h =>
  (conv (by kernel_rfl) (vc_seq (K := (l07_wild_36_M Q E)) (l07_wild_41ok Q E τ H h) (l07_wild_39ok Q E)))

def l07_wild_43 (Q : QT) (E : ET) (x0 : OA) (l0 c0 : Nat) (H : Heap) : Prop :=
 Does Pr 14 #[(.slice x0 l0 c0)] H (fun v226 H227 =>
 ∃ p228 : OA, v226 = (.pointer p228) ∧ l07_wild_40 Q E p228 H227) E

def l07_wild_43_M  (τ : Tau) (H : Heap) : Prop := mSl (τ 0) fun x0 l0 c0 => l07_wild_43 Q E x0 l0 c0 H

theorem l07_wild_44ok  : Ok Pr (l07_wild_43_M Q E) (sA l07_wild_p1) (xthen (l07_wild_40_M Q E) (l07_wild_q1 Q E)) E := fun τ H h =>
  wSl 0 h (fun x0 l0 c0 h => (conv (by kernel_rfl) h))

theorem l07_wild_45ok  : Ok Pr (l07_wild_43_M Q E) l07_wild_p1 (l07_wild_q1 Q E) E := fun τ H h =>
  (conv (by kernel_rfl) (vc_seq (K := (l07_wild_40_M Q E)) (l07_wild_44ok Q E τ H h) (l07_wild_42ok Q E)))

def l07_wild (Q : QT) (E : ET) (a0 : OA) (a0l : Nat) (a0c : Nat) (H : Heap) : Prop :=
 l07_wild_43 Q E a0 a0l a0c H

theorem l07_wild_fn (a0 : OA) (a0l : Nat) (a0c : Nat) (Q : QT) (E : ET) (H : Heap) (h : l07_wild Q E a0 a0l a0c H)   : Does Pr 7 #[(.slice a0 a0l a0c)] H Q E :=
  Fn_of_vc (fn := Try.f7) (c := (bodyOf Try.f7)) (args := [(.slice a0 a0l a0c)]) mixed (by kernel_rfl) (by kernel_rfl) (by kernel_rfl) (by kernel_rfl) (by kernel_rfl) ((conv (B := vc Pr (bodyOf Try.f7) (argT [(.slice a0 a0l a0c)]) (l07_wild_q1 Q E) E H) (by kernel_rfl) (vc_seq (K := (l07_wild_43_M Q E)) (conv (B := vc Pr (sA (bodyOf Try.f7)) (argT [(.slice a0 a0l a0c)]) (xthen (l07_wild_43_M Q E) (l07_wild_q1 Q E)) E H) (by kernel_rfl) h) (l07_wild_45ok Q E))))

end Go.Proofs.Ytombjgnlpdnclaa
