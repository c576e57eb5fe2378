import Derived.Test.YtombjgnlpdnclaaVPr
/- Printed by gen.py: the Go functions of package l07 over a heap view, and that the model does so. -/
namespace Go.Proofs.Ytombjgnlpdnclaa
open Go.V
set_option linter.unusedVariables false
set_option maxRecDepth 100000
variable (Q : QT) (E : ET)
/-! jobmux/jobmuxlaw07.GraphRight -/
noncomputable def l07_GraphRight_q1 (Q : QT) (E : ET)  : XT := (retQ Pr (Try.f3).results.toList Q)

noncomputable def l07_GraphRight_p4 : Code := sB (sB (sB (sB (bodyOf Try.f3))))

def l07_GraphRight_1 (Q : QT) (E : ET)  (H : Heap) : Prop :=
 Q (.bool true) H

def l07_GraphRight_1_M  (τ : Tau) (H : Heap) : Prop := l07_GraphRight_1 Q E  H

theorem l07_GraphRight_2ok  : Ok Pr (l07_GraphRight_1_M Q E) (sB (sB (sB l07_GraphRight_p4))) (l07_GraphRight_q1 Q E) E := fun τ H h =>
  (conv (by kernel_rfl) h)

noncomputable def l07_GraphRight_q2  : XT := (xthen (l07_GraphRight_1_M Q E) (l07_GraphRight_q1 Q E))

noncomputable def l07_GraphRight_p8 : Code := sA (sB (sB l07_GraphRight_p4))

noncomputable def l07_GraphRight_q4 (nx47 : Int → HP) : XT := (xthen (fun τ H => mI .i64 (τ 54) fun x54' => nx47 x54' H) (xblock 4 (l07_GraphRight_q2 Q E)))

noncomputable def l07_GraphRight_p11 : Code := sI (sI (sB l07_GraphRight_p8))

noncomputable def l07_GraphRight_p13 : Code := sB (sB l07_GraphRight_p11)

def l07_GraphRight_3 (nx47 : Int → HP) (Q : QT) (E : ET) (x3 : OA) (l3 c3 : Nat) (x5 : OA) (l5 c5 : Nat) (x52 : OA) (l52 c52 : Nat) (x53 x54 : Int) (H : Heap) : Prop :=
 nx47 (IntKind.wrap .i64 (x54 + 1)) H

def l07_GraphRight_3_M (nx47 : Int → HP) (τ : Tau) (H : Heap) : Prop := mSl (τ 3) fun x3 l3 c3 => mSl (τ 5) fun x5 l5 c5 => mSl (τ 52) fun x52 l52 c52 => mI .i64 (τ 53) fun x53 => mI .i64 (τ 54) fun x54 => l07_GraphRight_3 nx47 Q E x3 l3 c3 x5 l5 c5 x52 l52 c52 x53 x54 H

theorem l07_GraphRight_4ok (nx47 : Int → HP) : Ok Pr (l07_GraphRight_3_M Q E nx47) (sB l07_GraphRight_p13) (l07_GraphRight_q4 Q E nx47) E := fun τ H h =>
  wSl 3 h (fun x3 l3 c3 h => wSl 5 h (fun x5 l5 c5 h => wSl 52 h (fun x52 l52 c52 h => wI 53 h (fun x53 h => wI 54 h (fun x54 h => (conv (by kernel_rfl) h))))))

noncomputable def l07_GraphRight_q6 (nx47 : Int → HP) : XT := (xblock 5 (xthen (l07_GraphRight_3_M Q E nx47) (l07_GraphRight_q4 Q E nx47)))

noncomputable def l07_GraphRight_p17 : Code := sB (sI (sA l07_GraphRight_p13))

def l07_GraphRight_5 (nx47 : Int → HP) (Q : QT) (E : ET) (x3 : OA) (l3 c3 : Nat) (x5 : OA) (l5 c5 : Nat) (x52 : OA) (l52 c52 : Nat) (x53 x54 : Int) (x78 : Bool) (H : Heap) : Prop :=
 sel x78
 (Q (.bool false) H)
 (l07_GraphRight_3 nx47 Q E x3 l3 c3 x5 l5 c5 x52 l52 c52 x53 x54 H)

def l07_GraphRight_5_M (nx47 : Int → HP) (τ : Tau) (H : Heap) : Prop := mSl (τ 3) fun x3 l3 c3 => mSl (τ 5) fun x5 l5 c5 => mSl (τ 52) fun x52 l52 c52 => mI .i64 (τ 53) fun x53 => mI .i64 (τ 54) fun x54 => mB (τ 78) fun x78 => l07_GraphRight_5 nx47 Q E x3 l3 c3 x5 l5 c5 x52 l52 c52 x53 x54 x78 H

theorem l07_GraphRight_6ok (nx47 : Int → HP) : Ok Pr (l07_GraphRight_5_M Q E nx47) (sB l07_GraphRight_p17) (l07_GraphRight_q6 Q E nx47) E := fun τ H h =>
  wSl 3 h (fun x3 l3 c3 h => wSl 5 h (fun x5 l5 c5 h => wSl 52 h (fun x52 l52 c52 h => wI 53 h (fun x53 h => wI 54 h (fun x54 h => wB 78 h (fun x78 h => (conv (by kernel_rfl) h)))))))

noncomputable def l07_GraphRight_q7 (nx47 : Int → HP) : XT := (xthen (l07_GraphRight_5_M Q E nx47) (l07_GraphRight_q6 Q E nx47))

def l07_GraphRight_7 (nx47 : Int → HP) (Q : QT) (E : ET) (x3 : OA) (l3 c3 : Nat) (x5 : OA) (l5 c5 : Nat) (x10 x11 : Int) (x52 : OA) (l52 c52 : Nat) (x53 x54 : Int) (H : Heap) : Prop :=
 ∃ Z80 : Nat → Prop,
 (0 ≤ x10 ∧ x10 ≤ (c5 : Int)) ∧ Does Pr 11 #[(.slice (if c5 = 0 then x5 else Option.map (fun a => Addr.add a (0 * 1)) x5) (x10.toNat - 0) (c5 - 0)), (.int .i64 x11)] H (fun v81 H82 =>
 ∃ b83 : Bool, v81 = (.bool b83) ∧ sel b83
 (l07_GraphRight_5 nx47 Q E x3 l3 c3 x5 l5 c5 x52 l52 c52 x53 x54 true H82)
 (((l5 : Int) : Int) ≠ 0 ∧ (0 ≤ ((Int.tmod (IntKind.wrap .i64 (x10 + 1)) (l5 : Int)) : Int) ∧ ((Int.tmod (IntKind.wrap .i64 (x10 + 1)) (l5 : Int)) : Int) < (l5 : Int)) ∧ ptr x5 fun q84 =>
 Z80 (Addr.block (Addr.add q84 (((Int.tmod (IntKind.wrap .i64 (x10 + 1)) (l5 : Int)) : Int).toNat * 1))) ∧ ldI .i64 (Addr.add q84 (((Int.tmod (IntKind.wrap .i64 (x10 + 1)) (l5 : Int)) : Int).toNat * 1)) H82 fun n85 =>
 Does Pr 10 #[(.slice x3 l3 c3), (.int .i64 x11)] H82 (fun v86 H87 =>
 ∃ (p88 : OA) (l89 c90 : Nat), v86 = (.slice p88 l89 c90) ∧ (∀ z, Z80 z → H82 z ≠ none → H87 z = H82 z) ∧ Does Pr 11 #[(.slice p88 l89 c90), (.int .i64 n85)] H87 (fun v91 H92 =>
 ∃ b93 : Bool, v91 = (.bool b93) ∧ l07_GraphRight_5 nx47 Q E x3 l3 c3 x5 l5 c5 x52 l52 c52 x53 x54 (!b93) H92) (fun _ _ => False)) (fun _ _ => False))) (fun _ _ => False)

def l07_GraphRight_7_M (nx47 : Int → HP) (τ : Tau) (H : Heap) : Prop := mSl (τ 3) fun x3 l3 c3 => mSl (τ 5) fun x5 l5 c5 => mI .i64 (τ 10) fun x10 => mI .i64 (τ 11) fun x11 => mSl (τ 52) fun x52 l52 c52 => mI .i64 (τ 53) fun x53 => mI .i64 (τ 54) fun x54 => l07_GraphRight_7 nx47 Q E x3 l3 c3 x5 l5 c5 x10 x11 x52 l52 c52 x53 x54 H

theorem l07_GraphRight_8ok (nx47 : Int → HP) : Ok Pr (l07_GraphRight_7_M Q E nx47) (sA l07_GraphRight_p17) (l07_GraphRight_q7 Q E nx47) E := fun τ H h =>
  wSl 3 h (fun x3 l3 c3 h => wSl 5 h (fun x5 l5 c5 h => wI 10 h (fun x10 h => wI 11 h (fun x11 h => wSl 52 h (fun x52 l52 c52 h => wI 53 h (fun x53 h => wI 54 h (fun x54 h => (conv (by kernel_rfl) h))))))))

theorem l07_GraphRight_9ok (nx47 : Int → HP) : Ok Pr (l07_GraphRight_7_M Q E nx47) l07_GraphRight_p17 (l07_GraphRight_q6 Q E nx47) E := fun τ H h =>
  (conv (by kernel_rfl) (vc_seq (K := (l07_GraphRight_5_M Q E nx47)) (l07_GraphRight_8ok Q E nx47 τ H h) (l07_GraphRight_6ok Q E nx47)))

noncomputable def l07_GraphRight_q8 (nx47 : Int → HP) : XT := (xthen (l07_GraphRight_7_M Q E nx47) (l07_GraphRight_q6 Q E nx47))

def l07_GraphRight_10 (nx47 : Int → HP) (Q : QT) (E : ET) (x3 : OA) (l3 c3 : Nat) (x5 : OA) (l5 c5 : Nat) (x52 : OA) (l52 c52 : Nat) (x53 x54 : Int) (H : Heap) : Prop :=
 (0 ≤ x54 ∧ x54 < (l52 : Int)) ∧ ptr x52 fun q94 =>
 ldI .i64 (Addr.add q94 (x54.toNat * 1)) H fun n95 =>
 l07_GraphRight_7 nx47 Q E x3 l3 c3 x5 l5 c5 x54 n95 x52 l52 c52 x53 x54 H

def l07_GraphRight_10_M (nx47 : Int → HP) (τ : Tau) (H : Heap) : Prop := mSl (τ 3) fun x3 l3 c3 => mSl (τ 5) fun x5 l5 c5 => mSl (τ 52) fun x52 l52 c52 => mI .i64 (τ 53) fun x53 => mI .i64 (τ 54) fun x54 => l07_GraphRight_10 nx47 Q E x3 l3 c3 x5 l5 c5 x52 l52 c52 x53 x54 H

theorem l07_GraphRight_11ok (nx47 : Int → HP) : Ok Pr (l07_GraphRight_10_M Q E nx47) (sA (sI (sA l07_GraphRight_p13))) (l07_GraphRight_q8 Q E nx47) E := fun τ H h =>
  wSl 3 h (fun x3 l3 c3 h => wSl 5 h (fun x5 l5 c5 h => wSl 52 h (fun x52 l52 c52 h => wI 53 h (fun x53 h => wI 54 h (fun x54 h => (conv (by kernel_rfl) h))))))

theorem l07_GraphRight_12ok (nx47 : Int → HP) : Ok Pr (l07_GraphRight_10_M Q E nx47) (sI (sA l07_GraphRight_p13)) (l07_GraphRight_q6 Q E nx47) E := fun τ H h =>
  (conv (by kernel_rfl) (vc_seq (K := (l07_GraphRight_7_M Q E nx47)) (l07_GraphRight_11ok Q E nx47 τ H h) (l07_GraphRight_9ok Q E nx47)))

theorem l07_GraphRight_13ok (nx47 : Int → HP) : Ok Pr (l07_GraphRight_10_M Q E nx47) (sA l07_GraphRight_p13) (xthen (l07_GraphRight_3_M Q E nx47) (l07_GraphRight_q4 Q E nx47)) E := fun τ H h =>
  (conv (by kernel_rfl) (l07_GraphRight_12ok Q E nx47 τ H h))

theorem l07_GraphRight_14ok (nx47 : Int → HP) : Ok Pr (l07_GraphRight_10_M Q E nx47) l07_GraphRight_p13 (l07_GraphRight_q4 Q E nx47) E := fun τ H h =>
  (conv (by kernel_rfl) (vc_seq (K := (l07_GraphRight_3_M Q E nx47)) (l07_GraphRight_13ok Q E nx47 τ H h) (l07_GraphRight_4ok Q E nx47)))

noncomputable def l07_GraphRight_q9 (nx47 : Int → HP) : XT := (xthen (l07_GraphRight_10_M Q E nx47) (l07_GraphRight_q4 Q E nx47))

def l07_GraphRight_15 (nx47 : Int → HP) (Q : QT) (E : ET) (x3 : OA) (l3 c3 : Nat) (x5 : OA) (l5 c5 : Nat) (x52 : OA) (l52 c52 : Nat) (x53 x54 : Int) (x55 : Bool) (H : Heap) : Prop :=
 sel x55
 (l07_GraphRight_10 nx47 Q E x3 l3 c3 x5 l5 c5 x52 l52 c52 x53 x54 H)
 (l07_GraphRight_1 Q E  H)

def l07_GraphRight_15_M (nx47 : Int → HP) (τ : Tau) (H : Heap) : Prop := mSl (τ 3) fun x3 l3 c3 => mSl (τ 5) fun x5 l5 c5 => mSl (τ 52) fun x52 l52 c52 => mI .i64 (τ 53) fun x53 => mI .i64 (τ 54) fun x54 => mB (τ 55) fun x55 => l07_GraphRight_15 nx47 Q E x3 l3 c3 x5 l5 c5 x52 l52 c52 x53 x54 x55 H

theorem l07_GraphRight_16ok (nx47 : Int → HP) : Ok Pr (l07_GraphRight_15_M Q E nx47) (sA (sB l07_GraphRight_p11)) (l07_GraphRight_q9 Q E nx47) E := fun τ H h =>
  wSl 3 h (fun x3 l3 c3 h => wSl 5 h (fun x5 l5 c5 h => wSl 52 h (fun x52 l52 c52 h => wI 53 h (fun x53 h => wI 54 h (fun x54 h => wB 55 h (fun x55 h => (conv (by kernel_rfl) h)))))))

theorem l07_GraphRight_17ok (nx47 : Int → HP) : Ok Pr (l07_GraphRight_15_M Q E nx47) (sB l07_GraphRight_p11) (l07_GraphRight_q4 Q E nx47) E := fun τ H h =>
  (conv (by kernel_rfl) (vc_seq (K := (l07_GraphRight_10_M Q E nx47)) (l07_GraphRight_16ok Q E nx47 τ H h) (l07_GraphRight_14ok Q E nx47)))

noncomputable def l07_GraphRight_q10 (nx47 : Int → HP) : XT := (xthen (l07_GraphRight_15_M Q E nx47) (l07_GraphRight_q4 Q E nx47))

def l07_GraphRight_18 (nx47 : Int → HP) (Q : QT) (E : ET) (x3 : OA) (l3 c3 : Nat) (x5 : OA) (l5 c5 : Nat) (x52 : OA) (l52 c52 : Nat) (x53 x54 : Int) (H : Heap) : Prop :=
 l07_GraphRight_15 nx47 Q E x3 l3 c3 x5 l5 c5 x52 l52 c52 x53 x54 (decide (x54 < x53)) H

def l07_GraphRight_18_M (nx47 : Int → HP) (τ : Tau) (H : Heap) : Prop := mSl (τ 3) fun x3 l3 c3 => mSl (τ 5) fun x5 l5 c5 => mSl (τ 52) fun x52 l52 c52 => mI .i64 (τ 53) fun x53 => mI .i64 (τ 54) fun x54 => l07_GraphRight_18 nx47 Q E x3 l3 c3 x5 l5 c5 x52 l52 c52 x53 x54 H

theorem l07_GraphRight_19ok (nx47 : Int → HP) : Ok Pr (l07_GraphRight_18_M Q E nx47) (sA l07_GraphRight_p11) (l07_GraphRight_q10 Q E nx47) E := fun τ H h =>
  wSl 3 h (fun x3 l3 c3 h => wSl 5 h (fun x5 l5 c5 h => wSl 52 h (fun x52 l52 c52 h => wI 53 h (fun x53 h => wI 54 h (fun x54 h => (conv (by kernel_rfl) h))))))

theorem l07_GraphRight_20ok (nx47 : Int → HP) : Ok Pr (l07_GraphRight_18_M Q E nx47) l07_GraphRight_p11 (l07_GraphRight_q4 Q E nx47) E := fun τ H h =>
  (conv (by kernel_rfl) (vc_seq (K := (l07_GraphRight_15_M Q E nx47)) (l07_GraphRight_19ok Q E nx47 τ H h) (l07_GraphRight_17ok Q E nx47)))

def l07_GraphRight_21 (Q : QT) (E : ET) (x3 : OA) (l3 c3 : Nat) (x5 : OA) (l5 c5 : Nat) (x52 : OA) (l52 c52 : Nat) (x53 x54 : Int) (H : Heap) : Prop :=
 ∃ (I : Int → HP) (μ : Int → Heap → Nat), I x54 H ∧ ∀ (x54 : Int) (H : Heap), I x54 H →
 l07_GraphRight_18 (fun x54' H1 => I x54' H1 ∧ μ x54' H1 < μ x54 H) Q E x3 l3 c3 x5 l5 c5 x52 l52 c52 x53 x54 H

def l07_GraphRight_21_M  (τ : Tau) (H : Heap) : Prop := mSl (τ 3) fun x3 l3 c3 => mSl (τ 5) fun x5 l5 c5 => mSl (τ 52) fun x52 l52 c52 => mI .i64 (τ 53) fun x53 => mI .i64 (τ 54) fun x54 => l07_GraphRight_21 Q E x3 l3 c3 x5 l5 c5 x52 l52 c52 x53 x54 H

theorem l07_GraphRight_22ok  : Ok Pr (l07_GraphRight_21_M Q E) (sI (sB l07_GraphRight_p8)) (xblock 4 (l07_GraphRight_q2 Q E)) E := fun τ H h =>
  wSl 3 h (fun x3 l3 c3 h => wSl 5 h (fun x5 l5 c5 h => wSl 52 h (fun x52 l52 c52 h => wI 53 h (fun x53 h => wI 54 h (fun x54 h => match h with | ⟨I, μ, h0, hr⟩ => (conv (by kernel_rfl) (vc_loopG (c := sI (sI (sB l07_GraphRight_p8))) (τ := (Tau.upd (Tau.upd (Tau.upd (Tau.upd (Tau.upd τ 3 (.slice x3 l3 c3)) 5 (.slice x5 l5 c5)) 52 (.slice x52 l52 c52)) 53 (.int .i64 x53)) 54 (.int .i64 x54))) [3, 5, 52, 53] (fun τ H => mI .i64 (τ 54) fun x54' => I x54' H) (fun τ H => μ (gI (τ 54)) H) (by kernel_rfl) h0 (fun τ1 H1 hf hI => uF 3 (.slice x3 l3 c3) (hf 3 (by simp)) (uF 5 (.slice x5 l5 c5) (hf 5 (by simp)) (uF 52 (.slice x52 l52 c52) (hf 52 (by simp)) (uF 53 (.int .i64 x53) (hf 53 (by simp)) (uI 54 hI (fun x54r h => lgx (l07_GraphRight_20ok Q E (fun x54' H2 => I x54' H2 ∧ μ x54' H2 < μ x54r H1) (Tau.upd (Tau.upd (Tau.upd (Tau.upd (Tau.upd τ1 3 (.slice x3 l3 c3)) 5 (.slice x5 l5 c5)) 52 (.slice x52 l52 c52)) 53 (.int .i64 x53)) 54 (.int .i64 x54r)) H1 (conv (by kernel_rfl) (hr x54r H1 h))) (fun τ2 H2 hk => kI 54 hk (fun x54' h => conv (by kernel_rfl) h)))))))))))))))

theorem l07_GraphRight_23ok  : Ok Pr (l07_GraphRight_21_M Q E) (sB l07_GraphRight_p8) (l07_GraphRight_q2 Q E) E := fun τ H h =>
  (conv (by kernel_rfl) (l07_GraphRight_22ok Q E τ H h))

noncomputable def l07_GraphRight_q11  : XT := (xthen (l07_GraphRight_21_M Q E) (l07_GraphRight_q2 Q E))

def l07_GraphRight_24 (Q : QT) (E : ET) (x3 : OA) (l3 c3 : Nat) (x5 : OA) (l5 c5 : Nat) (H : Heap) : Prop :=
 l07_GraphRight_21 Q E x3 l3 c3 x5 l5 c5 x5 l5 c5 (l5 : Int) 0 H

def l07_GraphRight_24_M  (τ : Tau) (H : Heap) : Prop := mSl (τ 3) fun x3 l3 c3 => mSl (τ 5) fun x5 l5 c5 => l07_GraphRight_24 Q E x3 l3 c3 x5 l5 c5 H

theorem l07_GraphRight_25ok  : Ok Pr (l07_GraphRight_24_M Q E) (sA l07_GraphRight_p8) (l07_GraphRight_q11 Q E) E := fun τ H h =>
  wSl 3 h (fun x3 l3 c3 h => wSl 5 h (fun x5 l5 c5 h => (conv (by kernel_rfl) h)))

theorem l07_GraphRight_26ok  : Ok Pr (l07_GraphRight_24_M Q E) l07_GraphRight_p8 (l07_GraphRight_q2 Q E) E := fun τ H h =>
  (conv (by kernel_rfl) (vc_seq (K := (l07_GraphRight_21_M Q E)) (l07_GraphRight_25ok Q E τ H h) (l07_GraphRight_23ok Q E)))

theorem l07_GraphRight_27ok  : Ok Pr (l07_GraphRight_24_M Q E) (sB (sB l07_GraphRight_p4)) (l07_GraphRight_q1 Q E) E := fun τ H h =>
  (conv (by kernel_rfl) (vc_seq (K := (l07_GraphRight_1_M Q E)) (l07_GraphRight_26ok Q E τ H h) (l07_GraphRight_2ok Q E)))

noncomputable def l07_GraphRight_q12  : XT := (xthen (l07_GraphRight_24_M Q E) (l07_GraphRight_q1 Q E))

def l07_GraphRight_28 (Q : QT) (E : ET) (x3 : OA) (l3 c3 : Nat) (x4 : OA) (l4 c4 : Nat) (x5 : OA) (l5 c5 : Nat) (H : Heap) : Prop :=
 sel (!((((l4 : Int) : Int) == (l3 : Int)) == (((l5 : Int) : Int) == 0)))
 (Q (.bool false) H)
 (l07_GraphRight_24 Q E x3 l3 c3 x5 l5 c5 H)

def l07_GraphRight_28_M  (τ : Tau) (H : Heap) : Prop := mSl (τ 3) fun x3 l3 c3 => mSl (τ 4) fun x4 l4 c4 => mSl (τ 5) fun x5 l5 c5 => l07_GraphRight_28 Q E x3 l3 c3 x4 l4 c4 x5 l5 c5 H

theorem l07_GraphRight_29ok  : Ok Pr (l07_GraphRight_28_M Q E) (sA (sB l07_GraphRight_p4)) (l07_GraphRight_q12 Q E) E := fun τ H h =>
  wSl 3 h (fun x3 l3 c3 h => wSl 4 h (fun x4 l4 c4 h => wSl 5 h (fun x5 l5 c5 h => (conv (by kernel_rfl) h))))

theorem l07_GraphRight_30ok  : Ok Pr (l07_GraphRight_28_M Q E) (sB l07_GraphRight_p4) (l07_GraphRight_q1 Q E) E := fun τ H h =>
  (conv (by kernel_rfl) (vc_seq (K := (l07_GraphRight_24_M Q E)) (l07_GraphRight_29ok Q E τ H h) (l07_GraphRight_27ok Q E)))

noncomputable def l07_GraphRight_q13  : XT := (xthen (l07_GraphRight_28_M Q E) (l07_GraphRight_q1 Q E))

noncomputable def l07_GraphRight_q14  : XT := (xblock 0 (l07_GraphRight_q13 Q E))

noncomputable def l07_GraphRight_q15 (nx96 : Int → HP) : XT := (xthen (fun τ H => mI .i64 (τ 22) fun x22' => nx96 x22' H) (l07_GraphRight_q14 Q E))

noncomputable def l07_GraphRight_p28 : Code := sI (sI (sB (sA l07_GraphRight_p4)))

noncomputable def l07_GraphRight_p30 : Code := sB (sB l07_GraphRight_p28)

def l07_GraphRight_31 (nx96 : Int → HP) (Q : QT) (E : ET) (x3 : OA) (l3 c3 : Nat) (x4 : OA) (l4 c4 : Nat) (x5 : OA) (l5 c5 : Nat) (x20 : OA) (l20 c20 : Nat) (x21 x22 : Int) (H : Heap) : Prop :=
 nx96 (IntKind.wrap .i64 (x22 + 1)) H

def l07_GraphRight_31_M (nx96 : Int → HP) (τ : Tau) (H : Heap) : Prop := mSl (τ 3) fun x3 l3 c3 => mSl (τ 4) fun x4 l4 c4 => mSl (τ 5) fun x5 l5 c5 => mSl (τ 20) fun x20 l20 c20 => mI .i64 (τ 21) fun x21 => mI .i64 (τ 22) fun x22 => l07_GraphRight_31 nx96 Q E x3 l3 c3 x4 l4 c4 x5 l5 c5 x20 l20 c20 x21 x22 H

theorem l07_GraphRight_32ok (nx96 : Int → HP) : Ok Pr (l07_GraphRight_31_M Q E nx96) (sB l07_GraphRight_p30) (l07_GraphRight_q15 Q E nx96) E := fun τ H h =>
  wSl 3 h (fun x3 l3 c3 h => wSl 4 h (fun x4 l4 c4 h => wSl 5 h (fun x5 l5 c5 h => wSl 20 h (fun x20 l20 c20 h => wI 21 h (fun x21 h => wI 22 h (fun x22 h => (conv (by kernel_rfl) h)))))))

noncomputable def l07_GraphRight_q16 (nx96 : Int → HP) : XT := (xthen (l07_GraphRight_31_M Q E nx96) (l07_GraphRight_q15 Q E nx96))

noncomputable def l07_GraphRight_p34 : Code := sB (sI (sA l07_GraphRight_p30))

noncomputable def l07_GraphRight_q18 (nx96 : Int → HP) : XT := (xblock 2 (xblock 1 (l07_GraphRight_q16 Q E nx96)))

noncomputable def l07_GraphRight_q19 (nx96 : Int → HP) (nx116 : Int → HP) : XT := (xthen (fun τ H => mI .i64 (τ 31) fun x31' => nx116 x31' H) (l07_GraphRight_q18 Q E nx96))

noncomputable def l07_GraphRight_p37 : Code := sI (sI (sB l07_GraphRight_p34))

noncomputable def l07_GraphRight_p39 : Code := sB (sB l07_GraphRight_p37)

def l07_GraphRight_33 (nx96 : Int → HP) (nx116 : Int → HP) (Q : QT) (E : ET) (x3 : OA) (l3 c3 : Nat) (x4 : OA) (l4 c4 : Nat) (x5 : OA) (l5 c5 : Nat) (x6 : Int) (x20 : OA) (l20 c20 : Nat) (x21 x22 : Int) (x29 : OA) (l29 c29 : Nat) (x30 x31 : Int) (H : Heap) : Prop :=
 nx116 (IntKind.wrap .i64 (x31 + 1)) H

def l07_GraphRight_33_M (nx96 : Int → HP) (nx116 : Int → HP) (τ : Tau) (H : Heap) : Prop := mSl (τ 3) fun x3 l3 c3 => mSl (τ 4) fun x4 l4 c4 => mSl (τ 5) fun x5 l5 c5 => mI .i64 (τ 6) fun x6 => mSl (τ 20) fun x20 l20 c20 => mI .i64 (τ 21) fun x21 => mI .i64 (τ 22) fun x22 => mSl (τ 29) fun x29 l29 c29 => mI .i64 (τ 30) fun x30 => mI .i64 (τ 31) fun x31 => l07_GraphRight_33 nx96 nx116 Q E x3 l3 c3 x4 l4 c4 x5 l5 c5 x6 x20 l20 c20 x21 x22 x29 l29 c29 x30 x31 H

theorem l07_GraphRight_34ok (nx96 : Int → HP) (nx116 : Int → HP) : Ok Pr (l07_GraphRight_33_M Q E nx96 nx116) (sB l07_GraphRight_p39) (l07_GraphRight_q19 Q E nx96 nx116) E := fun τ H h =>
  wSl 3 h (fun x3 l3 c3 h => wSl 4 h (fun x4 l4 c4 h => wSl 5 h (fun x5 l5 c5 h => wI 6 h (fun x6 h => wSl 20 h (fun x20 l20 c20 h => wI 21 h (fun x21 h => wI 22 h (fun x22 h => wSl 29 h (fun x29 l29 c29 h => wI 30 h (fun x30 h => wI 31 h (fun x31 h => (conv (by kernel_rfl) h)))))))))))

noncomputable def l07_GraphRight_q20 (nx96 : Int → HP) (nx116 : Int → HP) : XT := (xthen (l07_GraphRight_33_M Q E nx96 nx116) (l07_GraphRight_q19 Q E nx96 nx116))

def l07_GraphRight_35 (nx96 : Int → HP) (nx116 : Int → HP) (Q : QT) (E : ET) (x3 : OA) (l3 c3 : Nat) (x4 : OA) (l4 c4 : Nat) (x5 : OA) (l5 c5 : Nat) (x6 : Int) (x20 : OA) (l20 c20 : Nat) (x21 x22 : Int) (x29 : OA) (l29 c29 : Nat) (x30 x31 : Int) (H : Heap) : Prop :=
 (0 ≤ x31 ∧ x31 < (l29 : Int)) ∧ ptr x29 fun q122 =>
 ldI .i64 (Addr.add q122 (x31.toNat * 1)) H fun n123 =>
 (0 ≤ x6 ∧ x6 ≤ (c4 : Int)) ∧ Does Pr 11 #[(.slice (if c4 = 0 then x4 else Option.map (fun a => Addr.add a (0 * 1)) x4) (x6.toNat - 0) (c4 - 0)), (.int .i64 n123)] H (fun v124 H125 =>
 ∃ b126 : Bool, v124 = (.bool b126) ∧ sel (!b126)
 (Q (.bool false) H125)
 (l07_GraphRight_33 nx96 nx116 Q E x3 l3 c3 x4 l4 c4 x5 l5 c5 x6 x20 l20 c20 x21 x22 x29 l29 c29 x30 x31 H125)) E

def l07_GraphRight_35_M (nx96 : Int → HP) (nx116 : Int → HP) (τ : Tau) (H : Heap) : Prop := mSl (τ 3) fun x3 l3 c3 => mSl (τ 4) fun x4 l4 c4 => mSl (τ 5) fun x5 l5 c5 => mI .i64 (τ 6) fun x6 => mSl (τ 20) fun x20 l20 c20 => mI .i64 (τ 21) fun x21 => mI .i64 (τ 22) fun x22 => mSl (τ 29) fun x29 l29 c29 => mI .i64 (τ 30) fun x30 => mI .i64 (τ 31) fun x31 => l07_GraphRight_35 nx96 nx116 Q E x3 l3 c3 x4 l4 c4 x5 l5 c5 x6 x20 l20 c20 x21 x22 x29 l29 c29 x30 x31 H

theorem l07_GraphRight_36ok (nx96 : Int → HP) (nx116 : Int → HP) : Ok Pr (l07_GraphRight_35_M Q E nx96 nx116) (sA l07_GraphRight_p39) (l07_GraphRight_q20 Q E nx96 nx116) E := fun τ H h =>
  wSl 3 h (fun x3 l3 c3 h => wSl 4 h (fun x4 l4 c4 h => wSl 5 h (fun x5 l5 c5 h => wI 6 h (fun x6 h => wSl 20 h (fun x20 l20 c20 h => wI 21 h (fun x21 h => wI 22 h (fun x22 h => wSl 29 h (fun x29 l29 c29 h => wI 30 h (fun x30 h => wI 31 h (fun x31 h => (conv (by kernel_rfl) h)))))))))))

theorem l07_GraphRight_37ok (nx96 : Int → HP) (nx116 : Int → HP) : Ok Pr (l07_GraphRight_35_M Q E nx96 nx116) l07_GraphRight_p39 (l07_GraphRight_q19 Q E nx96 nx116) E := fun τ H h =>
  (conv (by kernel_rfl) (vc_seq (K := (l07_GraphRight_33_M Q E nx96 nx116)) (l07_GraphRight_36ok Q E nx96 nx116 τ H h) (l07_GraphRight_34ok Q E nx96 nx116)))

noncomputable def l07_GraphRight_q21 (nx96 : Int → HP) (nx116 : Int → HP) : XT := (xthen (l07_GraphRight_35_M Q E nx96 nx116) (l07_GraphRight_q19 Q E nx96 nx116))

def l07_GraphRight_38 (nx96 : Int → HP) (nx116 : Int → HP) (Q : QT) (E : ET) (x3 : OA) (l3 c3 : Nat) (x4 : OA) (l4 c4 : Nat) (x5 : OA) (l5 c5 : Nat) (x6 : Int) (x20 : OA) (l20 c20 : Nat) (x21 x22 : Int) (x29 : OA) (l29 c29 : Nat) (x30 x31 : Int) (x32 : Bool) (H : Heap) : Prop :=
 sel x32
 (l07_GraphRight_35 nx96 nx116 Q E x3 l3 c3 x4 l4 c4 x5 l5 c5 x6 x20 l20 c20 x21 x22 x29 l29 c29 x30 x31 H)
 (l07_GraphRight_31 nx96 Q E x3 l3 c3 x4 l4 c4 x5 l5 c5 x20 l20 c20 x21 x22 H)

def l07_GraphRight_38_M (nx96 : Int → HP) (nx116 : Int → HP) (τ : Tau) (H : Heap) : Prop := mSl (τ 3) fun x3 l3 c3 => mSl (τ 4) fun x4 l4 c4 => mSl (τ 5) fun x5 l5 c5 => mI .i64 (τ 6) fun x6 => mSl (τ 20) fun x20 l20 c20 => mI .i64 (τ 21) fun x21 => mI .i64 (τ 22) fun x22 => mSl (τ 29) fun x29 l29 c29 => mI .i64 (τ 30) fun x30 => mI .i64 (τ 31) fun x31 => mB (τ 32) fun x32 => l07_GraphRight_38 nx96 nx116 Q E x3 l3 c3 x4 l4 c4 x5 l5 c5 x6 x20 l20 c20 x21 x22 x29 l29 c29 x30 x31 x32 H

theorem l07_GraphRight_39ok (nx96 : Int → HP) (nx116 : Int → HP) : Ok Pr (l07_GraphRight_38_M Q E nx96 nx116) (sA (sB l07_GraphRight_p37)) (l07_GraphRight_q21 Q E nx96 nx116) E := fun τ H h =>
  wSl 3 h (fun x3 l3 c3 h => wSl 4 h (fun x4 l4 c4 h => wSl 5 h (fun x5 l5 c5 h => wI 6 h (fun x6 h => wSl 20 h (fun x20 l20 c20 h => wI 21 h (fun x21 h => wI 22 h (fun x22 h => wSl 29 h (fun x29 l29 c29 h => wI 30 h (fun x30 h => wI 31 h (fun x31 h => wB 32 h (fun x32 h => (conv (by kernel_rfl) h))))))))))))

theorem l07_GraphRight_40ok (nx96 : Int → HP) (nx116 : Int → HP) : Ok Pr (l07_GraphRight_38_M Q E nx96 nx116) (sB l07_GraphRight_p37) (l07_GraphRight_q19 Q E nx96 nx116) E := fun τ H h =>
  (conv (by kernel_rfl) (vc_seq (K := (l07_GraphRight_35_M Q E nx96 nx116)) (l07_GraphRight_39ok Q E nx96 nx116 τ H h) (l07_GraphRight_37ok Q E nx96 nx116)))

noncomputable def l07_GraphRight_q22 (nx96 : Int → HP) (nx116 : Int → HP) : XT := (xthen (l07_GraphRight_38_M Q E nx96 nx116) (l07_GraphRight_q19 Q E nx96 nx116))

def l07_GraphRight_41 (nx96 : Int → HP) (nx116 : Int → HP) (Q : QT) (E : ET) (x3 : OA) (l3 c3 : Nat) (x4 : OA) (l4 c4 : Nat) (x5 : OA) (l5 c5 : Nat) (x6 : Int) (x20 : OA) (l20 c20 : Nat) (x21 x22 : Int) (x29 : OA) (l29 c29 : Nat) (x30 x31 : Int) (H : Heap) : Prop :=
 l07_GraphRight_38 nx96 nx116 Q E x3 l3 c3 x4 l4 c4 x5 l5 c5 x6 x20 l20 c20 x21 x22 x29 l29 c29 x30 x31 (decide (x31 < x30)) H

def l07_GraphRight_41_M (nx96 : Int → HP) (nx116 : Int → HP) (τ : Tau) (H : Heap) : Prop := mSl (τ 3) fun x3 l3 c3 => mSl (τ 4) fun x4 l4 c4 => mSl (τ 5) fun x5 l5 c5 => mI .i64 (τ 6) fun x6 => mSl (τ 20) fun x20 l20 c20 => mI .i64 (τ 21) fun x21 => mI .i64 (τ 22) fun x22 => mSl (τ 29) fun x29 l29 c29 => mI .i64 (τ 30) fun x30 => mI .i64 (τ 31) fun x31 => l07_GraphRight_41 nx96 nx116 Q E x3 l3 c3 x4 l4 c4 x5 l5 c5 x6 x20 l20 c20 x21 x22 x29 l29 c29 x30 x31 H

theorem l07_GraphRight_42ok (nx96 : Int → HP) (nx116 : Int → HP) : Ok Pr (l07_GraphRight_41_M Q E nx96 nx116) (sA l07_GraphRight_p37) (l07_GraphRight_q22 Q E nx96 nx116) E := fun τ H h =>
  wSl 3 h (fun x3 l3 c3 h => wSl 4 h (fun x4 l4 c4 h => wSl 5 h (fun x5 l5 c5 h => wI 6 h (fun x6 h => wSl 20 h (fun x20 l20 c20 h => wI 21 h (fun x21 h => wI 22 h (fun x22 h => wSl 29 h (fun x29 l29 c29 h => wI 30 h (fun x30 h => wI 31 h (fun x31 h => (conv (by kernel_rfl) h)))))))))))

theorem l07_GraphRight_43ok (nx96 : Int → HP) (nx116 : Int → HP) : Ok Pr (l07_GraphRight_41_M Q E nx96 nx116) l07_GraphRight_p37 (l07_GraphRight_q19 Q E nx96 nx116) E := fun τ H h =>
  (conv (by kernel_rfl) (vc_seq (K := (l07_GraphRight_38_M Q E nx96 nx116)) (l07_GraphRight_42ok Q E nx96 nx116 τ H h) (l07_GraphRight_40ok Q E nx96 nx116)))

def l07_GraphRight_44 (nx96 : Int → HP) (Q : QT) (E : ET) (x3 : OA) (l3 c3 : Nat) (x4 : OA) (l4 c4 : Nat) (x5 : OA) (l5 c5 : Nat) (x6 : Int) (x20 : OA) (l20 c20 : Nat) (x21 x22 : Int) (x29 : OA) (l29 c29 : Nat) (x30 x31 : Int) (H : Heap) : Prop :=
 ∃ (I : Int → HP) (μ : Int → Heap → Nat), I x31 H ∧ ∀ (x31 : Int) (H : Heap), I x31 H →
 l07_GraphRight_41 nx96 (fun x31' H1 => I x31' H1 ∧ μ x31' H1 < μ x31 H) Q E x3 l3 c3 x4 l4 c4 x5 l5 c5 x6 x20 l20 c20 x21 x22 x29 l29 c29 x30 x31 H

def l07_GraphRight_44_M (nx96 : Int → HP) (τ : Tau) (H : Heap) : Prop := mSl (τ 3) fun x3 l3 c3 => mSl (τ 4) fun x4 l4 c4 => mSl (τ 5) fun x5 l5 c5 => mI .i64 (τ 6) fun x6 => mSl (τ 20) fun x20 l20 c20 => mI .i64 (τ 21) fun x21 => mI .i64 (τ 22) fun x22 => mSl (τ 29) fun x29 l29 c29 => mI .i64 (τ 30) fun x30 => mI .i64 (τ 31) fun x31 => l07_GraphRight_44 nx96 Q E x3 l3 c3 x4 l4 c4 x5 l5 c5 x6 x20 l20 c20 x21 x22 x29 l29 c29 x30 x31 H

theorem l07_GraphRight_45ok (nx96 : Int → HP) : Ok Pr (l07_GraphRight_44_M Q E nx96) (sI (sB l07_GraphRight_p34)) (l07_GraphRight_q18 Q E nx96) E := fun τ H h =>
  wSl 3 h (fun x3 l3 c3 h => wSl 4 h (fun x4 l4 c4 h => wSl 5 h (fun x5 l5 c5 h => wI 6 h (fun x6 h => wSl 20 h (fun x20 l20 c20 h => wI 21 h (fun x21 h => wI 22 h (fun x22 h => wSl 29 h (fun x29 l29 c29 h => wI 30 h (fun x30 h => wI 31 h (fun x31 h => match h with | ⟨I, μ, h0, hr⟩ => (conv (by kernel_rfl) (vc_loopG (c := sI (sI (sB l07_GraphRight_p34))) (τ := (Tau.upd (Tau.upd (Tau.upd (Tau.upd (Tau.upd (Tau.upd (Tau.upd (Tau.upd (Tau.upd (Tau.upd τ 3 (.slice x3 l3 c3)) 4 (.slice x4 l4 c4)) 5 (.slice x5 l5 c5)) 6 (.int .i64 x6)) 20 (.slice x20 l20 c20)) 21 (.int .i64 x21)) 22 (.int .i64 x22)) 29 (.slice x29 l29 c29)) 30 (.int .i64 x30)) 31 (.int .i64 x31))) [3, 4, 5, 6, 20, 21, 22, 29, 30] (fun τ H => mI .i64 (τ 31) fun x31' => I x31' H) (fun τ H => μ (gI (τ 31)) H) (by kernel_rfl) h0 (fun τ1 H1 hf hI => uF 3 (.slice x3 l3 c3) (hf 3 (by simp)) (uF 4 (.slice x4 l4 c4) (hf 4 (by simp)) (uF 5 (.slice x5 l5 c5) (hf 5 (by simp)) (uF 6 (.int .i64 x6) (hf 6 (by simp)) (uF 20 (.slice x20 l20 c20) (hf 20 (by simp)) (uF 21 (.int .i64 x21) (hf 21 (by simp)) (uF 22 (.int .i64 x22) (hf 22 (by simp)) (uF 29 (.slice x29 l29 c29) (hf 29 (by simp)) (uF 30 (.int .i64 x30) (hf 30 (by simp)) (uI 31 hI (fun x31r h => lgx (l07_GraphRight_43ok Q E nx96 (fun x31' H2 => I x31' H2 ∧ μ x31' H2 < μ x31r H1) (Tau.upd (Tau.upd (Tau.upd (Tau.upd (Tau.upd (Tau.upd (Tau.upd (Tau.upd (Tau.upd (Tau.upd τ1 3 (.slice x3 l3 c3)) 4 (.slice x4 l4 c4)) 5 (.slice x5 l5 c5)) 6 (.int .i64 x6)) 20 (.slice x20 l20 c20)) 21 (.int .i64 x21)) 22 (.int .i64 x22)) 29 (.slice x29 l29 c29)) 30 (.int .i64 x30)) 31 (.int .i64 x31r)) H1 (conv (by kernel_rfl) (hr x31r H1 h))) (fun τ2 H2 hk => kI 31 hk (fun x31' h => conv (by kernel_rfl) h)))))))))))))))))))))))))

theorem l07_GraphRight_46ok (nx96 : Int → HP) : Ok Pr (l07_GraphRight_44_M Q E nx96) (sB l07_GraphRight_p34) (xblock 1 (l07_GraphRight_q16 Q E nx96)) E := fun τ H h =>
  (conv (by kernel_rfl) (l07_GraphRight_45ok Q E nx96 τ H h))

noncomputable def l07_GraphRight_q23 (nx96 : Int → HP) : XT := (xthen (l07_GraphRight_44_M Q E nx96) (xblock 1 (l07_GraphRight_q16 Q E nx96)))

def l07_GraphRight_47 (nx96 : Int → HP) (Q : QT) (E : ET) (x3 : OA) (l3 c3 : Nat) (x4 : OA) (l4 c4 : Nat) (x5 : OA) (l5 c5 : Nat) (x6 x7 : Int) (x20 : OA) (l20 c20 : Nat) (x21 x22 : Int) (H : Heap) : Prop :=
 Does Pr 10 #[(.slice x3 l3 c3), (.int .i64 x7)] H (fun v127 H128 =>
 ∃ (p129 : OA) (l130 c131 : Nat), v127 = (.slice p129 l130 c131) ∧ l07_GraphRight_44 nx96 Q E x3 l3 c3 x4 l4 c4 x5 l5 c5 x6 x20 l20 c20 x21 x22 p129 l130 c131 (l130 : Int) 0 H128) E

def l07_GraphRight_47_M (nx96 : Int → HP) (τ : Tau) (H : Heap) : Prop := mSl (τ 3) fun x3 l3 c3 => mSl (τ 4) fun x4 l4 c4 => mSl (τ 5) fun x5 l5 c5 => mI .i64 (τ 6) fun x6 => mI .i64 (τ 7) fun x7 => mSl (τ 20) fun x20 l20 c20 => mI .i64 (τ 21) fun x21 => mI .i64 (τ 22) fun x22 => l07_GraphRight_47 nx96 Q E x3 l3 c3 x4 l4 c4 x5 l5 c5 x6 x7 x20 l20 c20 x21 x22 H

theorem l07_GraphRight_48ok (nx96 : Int → HP) : Ok Pr (l07_GraphRight_47_M Q E nx96) (sA l07_GraphRight_p34) (l07_GraphRight_q23 Q E nx96) E := fun τ H h =>
  wSl 3 h (fun x3 l3 c3 h => wSl 4 h (fun x4 l4 c4 h => wSl 5 h (fun x5 l5 c5 h => wI 6 h (fun x6 h => wI 7 h (fun x7 h => wSl 20 h (fun x20 l20 c20 h => wI 21 h (fun x21 h => wI 22 h (fun x22 h => (conv (by kernel_rfl) h)))))))))

theorem l07_GraphRight_49ok (nx96 : Int → HP) : Ok Pr (l07_GraphRight_47_M Q E nx96) l07_GraphRight_p34 (xblock 1 (l07_GraphRight_q16 Q E nx96)) E := fun τ H h =>
  (conv (by kernel_rfl) (vc_seq (K := (l07_GraphRight_44_M Q E nx96)) (l07_GraphRight_48ok Q E nx96 τ H h) (l07_GraphRight_46ok Q E nx96)))

noncomputable def l07_GraphRight_q24 (nx96 : Int → HP) : XT := (xthen (l07_GraphRight_47_M Q E nx96) (xblock 1 (l07_GraphRight_q16 Q E nx96)))

def l07_GraphRight_50 (nx96 : Int → HP) (Q : QT) (E : ET) (x3 : OA) (l3 c3 : Nat) (x4 : OA) (l4 c4 : Nat) (x5 : OA) (l5 c5 : Nat) (x20 : OA) (l20 c20 : Nat) (x21 x22 : Int) (H : Heap) : Prop :=
 (0 ≤ x22 ∧ x22 < (l20 : Int)) ∧ ptr x20 fun q132 =>
 ldI .i64 (Addr.add q132 (x22.toNat * 1)) H fun n133 =>
 l07_GraphRight_47 nx96 Q E x3 l3 c3 x4 l4 c4 x5 l5 c5 x22 n133 x20 l20 c20 x21 x22 H

def l07_GraphRight_50_M (nx96 : Int → HP) (τ : Tau) (H : Heap) : Prop := mSl (τ 3) fun x3 l3 c3 => mSl (τ 4) fun x4 l4 c4 => mSl (τ 5) fun x5 l5 c5 => mSl (τ 20) fun x20 l20 c20 => mI .i64 (τ 21) fun x21 => mI .i64 (τ 22) fun x22 => l07_GraphRight_50 nx96 Q E x3 l3 c3 x4 l4 c4 x5 l5 c5 x20 l20 c20 x21 x22 H

theorem l07_GraphRight_51ok (nx96 : Int → HP) : Ok Pr (l07_GraphRight_50_M Q E nx96) (sA (sI (sA l07_GraphRight_p30))) (l07_GraphRight_q24 Q E nx96) E := fun τ H h =>
  wSl 3 h (fun x3 l3 c3 h => wSl 4 h (fun x4 l4 c4 h => wSl 5 h (fun x5 l5 c5 h => wSl 20 h (fun x20 l20 c20 h => wI 21 h (fun x21 h => wI 22 h (fun x22 h => (conv (by kernel_rfl) h)))))))

theorem l07_GraphRight_52ok (nx96 : Int → HP) : Ok Pr (l07_GraphRight_50_M Q E nx96) (sI (sA l07_GraphRight_p30)) (xblock 1 (l07_GraphRight_q16 Q E nx96)) E := fun τ H h =>
  (conv (by kernel_rfl) (vc_seq (K := (l07_GraphRight_47_M Q E nx96)) (l07_GraphRight_51ok Q E nx96 τ H h) (l07_GraphRight_49ok Q E nx96)))

theorem l07_GraphRight_53ok (nx96 : Int → HP) : Ok Pr (l07_GraphRight_50_M Q E nx96) (sA l07_GraphRight_p30) (l07_GraphRight_q16 Q E nx96) E := fun τ H h =>
  (conv (by kernel_rfl) (l07_GraphRight_52ok Q E nx96 τ H h))

theorem l07_GraphRight_54ok (nx96 : Int → HP) : Ok Pr (l07_GraphRight_50_M Q E nx96) l07_GraphRight_p30 (l07_GraphRight_q15 Q E nx96) E := fun τ H h =>
  (conv (by kernel_rfl) (vc_seq (K := (l07_GraphRight_31_M Q E nx96)) (l07_GraphRight_53ok Q E nx96 τ H h) (l07_GraphRight_32ok Q E nx96)))

noncomputable def l07_GraphRight_q25 (nx96 : Int → HP) : XT := (xthen (l07_GraphRight_50_M Q E nx96) (l07_GraphRight_q15 Q E nx96))

def l07_GraphRight_55 (nx96 : Int → HP) (Q : QT) (E : ET) (x3 : OA) (l3 c3 : Nat) (x4 : OA) (l4 c4 : Nat) (x5 : OA) (l5 c5 : Nat) (x20 : OA) (l20 c20 : Nat) (x21 x22 : Int) (x23 : Bool) (H : Heap) : Prop :=
 sel x23
 (l07_GraphRight_50 nx96 Q E x3 l3 c3 x4 l4 c4 x5 l5 c5 x20 l20 c20 x21 x22 H)
 (l07_GraphRight_28 Q E x3 l3 c3 x4 l4 c4 x5 l5 c5 H)

def l07_GraphRight_55_M (nx96 : Int → HP) (τ : Tau) (H : Heap) : Prop := mSl (τ 3) fun x3 l3 c3 => mSl (τ 4) fun x4 l4 c4 => mSl (τ 5) fun x5 l5 c5 => mSl (τ 20) fun x20 l20 c20 => mI .i64 (τ 21) fun x21 => mI .i64 (τ 22) fun x22 => mB (τ 23) fun x23 => l07_GraphRight_55 nx96 Q E x3 l3 c3 x4 l4 c4 x5 l5 c5 x20 l20 c20 x21 x22 x23 H

theorem l07_GraphRight_56ok (nx96 : Int → HP) : Ok Pr (l07_GraphRight_55_M Q E nx96) (sA (sB l07_GraphRight_p28)) (l07_GraphRight_q25 Q E nx96) E := fun τ H h =>
  wSl 3 h (fun x3 l3 c3 h => wSl 4 h (fun x4 l4 c4 h => wSl 5 h (fun x5 l5 c5 h => wSl 20 h (fun x20 l20 c20 h => wI 21 h (fun x21 h => wI 22 h (fun x22 h => wB 23 h (fun x23 h => (conv (by kernel_rfl) h))))))))

theorem l07_GraphRight_57ok (nx96 : Int → HP) : Ok Pr (l07_GraphRight_55_M Q E nx96) (sB l07_GraphRight_p28) (l07_GraphRight_q15 Q E nx96) E := fun τ H h =>
  (conv (by kernel_rfl) (vc_seq (K := (l07_GraphRight_50_M Q E nx96)) (l07_GraphRight_56ok Q E nx96 τ H h) (l07_GraphRight_54ok Q E nx96)))

noncomputable def l07_GraphRight_q26 (nx96 : Int → HP) : XT := (xthen (l07_GraphRight_55_M Q E nx96) (l07_GraphRight_q15 Q E nx96))

def l07_GraphRight_58 (nx96 : Int → HP) (Q : QT) (E : ET) (x3 : OA) (l3 c3 : Nat) (x4 : OA) (l4 c4 : Nat) (x5 : OA) (l5 c5 : Nat) (x20 : OA) (l20 c20 : Nat) (x21 x22 : Int) (H : Heap) : Prop :=
 l07_GraphRight_55 nx96 Q E x3 l3 c3 x4 l4 c4 x5 l5 c5 x20 l20 c20 x21 x22 (decide (x22 < x21)) H

def l07_GraphRight_58_M (nx96 : Int → HP) (τ : Tau) (H : Heap) : Prop := mSl (τ 3) fun x3 l3 c3 => mSl (τ 4) fun x4 l4 c4 => mSl (τ 5) fun x5 l5 c5 => mSl (τ 20) fun x20 l20 c20 => mI .i64 (τ 21) fun x21 => mI .i64 (τ 22) fun x22 => l07_GraphRight_58 nx96 Q E x3 l3 c3 x4 l4 c4 x5 l5 c5 x20 l20 c20 x21 x22 H

theorem l07_GraphRight_59ok (nx96 : Int → HP) : Ok Pr (l07_GraphRight_58_M Q E nx96) (sA l07_GraphRight_p28) (l07_GraphRight_q26 Q E nx96) E := fun τ H h =>
  wSl 3 h (fun x3 l3 c3 h => wSl 4 h (fun x4 l4 c4 h => wSl 5 h (fun x5 l5 c5 h => wSl 20 h (fun x20 l20 c20 h => wI 21 h (fun x21 h => wI 22 h (fun x22 h => (conv (by kernel_rfl) h)))))))

theorem l07_GraphRight_60ok (nx96 : Int → HP) : Ok Pr (l07_GraphRight_58_M Q E nx96) l07_GraphRight_p28 (l07_GraphRight_q15 Q E nx96) E := fun τ H h =>
  (conv (by kernel_rfl) (vc_seq (K := (l07_GraphRight_55_M Q E nx96)) (l07_GraphRight_59ok Q E nx96 τ H h) (l07_GraphRight_57ok Q E nx96)))

def l07_GraphRight_61 (Q : QT) (E : ET) (x3 : OA) (l3 c3 : Nat) (x4 : OA) (l4 c4 : Nat) (x5 : OA) (l5 c5 : Nat) (x20 : OA) (l20 c20 : Nat) (x21 x22 : Int) (H : Heap) : Prop :=
 ∃ (I : Int → HP) (μ : Int → Heap → Nat), I x22 H ∧ ∀ (x22 : Int) (H : Heap), I x22 H →
 l07_GraphRight_58 (fun x22' H1 => I x22' H1 ∧ μ x22' H1 < μ x22 H) Q E x3 l3 c3 x4 l4 c4 x5 l5 c5 x20 l20 c20 x21 x22 H

def l07_GraphRight_61_M  (τ : Tau) (H : Heap) : Prop := mSl (τ 3) fun x3 l3 c3 => mSl (τ 4) fun x4 l4 c4 => mSl (τ 5) fun x5 l5 c5 => mSl (τ 20) fun x20 l20 c20 => mI .i64 (τ 21) fun x21 => mI .i64 (τ 22) fun x22 => l07_GraphRight_61 Q E x3 l3 c3 x4 l4 c4 x5 l5 c5 x20 l20 c20 x21 x22 H

theorem l07_GraphRight_62ok  : Ok Pr (l07_GraphRight_61_M Q E) (sI (sB (sA l07_GraphRight_p4))) (l07_GraphRight_q14 Q E) E := fun τ H h =>
  wSl 3 h (fun x3 l3 c3 h => wSl 4 h (fun x4 l4 c4 h => wSl 5 h (fun x5 l5 c5 h => wSl 20 h (fun x20 l20 c20 h => wI 21 h (fun x21 h => wI 22 h (fun x22 h => match h with | ⟨I, μ, h0, hr⟩ => (conv (by kernel_rfl) (vc_loopG (c := sI (sI (sB (sA l07_GraphRight_p4)))) (τ := (Tau.upd (Tau.upd (Tau.upd (Tau.upd (Tau.upd (Tau.upd τ 3 (.slice x3 l3 c3)) 4 (.slice x4 l4 c4)) 5 (.slice x5 l5 c5)) 20 (.slice x20 l20 c20)) 21 (.int .i64 x21)) 22 (.int .i64 x22))) [3, 4, 5, 20, 21] (fun τ H => mI .i64 (τ 22) fun x22' => I x22' H) (fun τ H => μ (gI (τ 22)) H) (by kernel_rfl) h0 (fun τ1 H1 hf hI => uF 3 (.slice x3 l3 c3) (hf 3 (by simp)) (uF 4 (.slice x4 l4 c4) (hf 4 (by simp)) (uF 5 (.slice x5 l5 c5) (hf 5 (by simp)) (uF 20 (.slice x20 l20 c20) (hf 20 (by simp)) (uF 21 (.int .i64 x21) (hf 21 (by simp)) (uI 22 hI (fun x22r h => lgx (l07_GraphRight_60ok Q E (fun x22' H2 => I x22' H2 ∧ μ x22' H2 < μ x22r H1) (Tau.upd (Tau.upd (Tau.upd (Tau.upd (Tau.upd (Tau.upd τ1 3 (.slice x3 l3 c3)) 4 (.slice x4 l4 c4)) 5 (.slice x5 l5 c5)) 20 (.slice x20 l20 c20)) 21 (.int .i64 x21)) 22 (.int .i64 x22r)) H1 (conv (by kernel_rfl) (hr x22r H1 h))) (fun τ2 H2 hk => kI 22 hk (fun x22' h => conv (by kernel_rfl) h)))))))))))))))))

theorem l07_GraphRight_63ok  : Ok Pr (l07_GraphRight_61_M Q E) (sB (sA l07_GraphRight_p4)) (l07_GraphRight_q13 Q E) E := fun τ H h =>
  (conv (by kernel_rfl) (l07_GraphRight_62ok Q E τ H h))

noncomputable def l07_GraphRight_q27  : XT := (xthen (l07_GraphRight_61_M Q E) (l07_GraphRight_q13 Q E))

def l07_GraphRight_64 (Q : QT) (E : ET) (x3 : OA) (l3 c3 : Nat) (x4 : OA) (l4 c4 : Nat) (x5 : OA) (l5 c5 : Nat) (H : Heap) : Prop :=
 l07_GraphRight_61 Q E x3 l3 c3 x4 l4 c4 x5 l5 c5 x4 l4 c4 (l4 : Int) 0 H

def l07_GraphRight_64_M  (τ : Tau) (H : Heap) : Prop := mSl (τ 3) fun x3 l3 c3 => mSl (τ 4) fun x4 l4 c4 => mSl (τ 5) fun x5 l5 c5 => l07_GraphRight_64 Q E x3 l3 c3 x4 l4 c4 x5 l5 c5 H

theorem l07_GraphRight_65ok  : Ok Pr (l07_GraphRight_64_M Q E) (sA (sA l07_GraphRight_p4)) (l07_GraphRight_q27 Q E) E := fun τ H h =>
  wSl 3 h (fun x3 l3 c3 h => wSl 4 h (fun x4 l4 c4 h => wSl 5 h (fun x5 l5 c5 h => (conv (by kernel_rfl) h))))

theorem l07_GraphRight_66ok  : Ok Pr (l07_GraphRight_64_M Q E) (sA l07_GraphRight_p4) (l07_GraphRight_q13 Q E) E := fun τ H h =>
  (conv (by kernel_rfl) (vc_seq (K := (l07_GraphRight_61_M Q E)) (l07_GraphRight_65ok Q E τ H h) (l07_GraphRight_63ok Q E)))

theorem l07_GraphRight_67ok  : Ok Pr (l07_GraphRight_64_M Q E) l07_GraphRight_p4 (l07_GraphRight_q1 Q E) E := fun τ H h =>
  (conv (by kernel_rfl) (vc_seq (K := (l07_GraphRight_28_M Q E)) (l07_GraphRight_66ok Q E τ H h) (l07_GraphRight_30ok Q E)))

def l07_GraphRight_68 (Q : QT) (E : ET) (x3 : OA) (l3 c3 : Nat) (H : Heap) : Prop :=
 Does Pr 8 #[(.slice x3 l3 c3)] H (fun v134 H135 =>
 ∃ (p136 : OA) (l137 c138 : Nat), v134 = (.slice p136 l137 c138) ∧ Does Pr 9 #[(.slice x3 l3 c3)] H135 (fun v139 H140 =>
 ∃ (p141 : OA) (l142 c143 : Nat), v139 = (.slice p141 l142 c143) ∧ l07_GraphRight_64 Q E x3 l3 c3 p136 l137 c138 p141 l142 c143 H140) E) E

def l07_GraphRight_68_M  (τ : Tau) (H : Heap) : Prop := mSl (τ 3) fun x3 l3 c3 => l07_GraphRight_68 Q E x3 l3 c3 H

theorem l07_GraphRight_69ok  : Ok Pr (l07_GraphRight_68_M Q E) (sA (sB (sB (sB (bodyOf Try.f3))))) (xthen (l07_GraphRight_64_M Q E) (l07_GraphRight_q1 Q E)) E := fun τ H h =>
  wSl 3 h (fun x3 l3 c3 h => (conv (by kernel_rfl) h))

theorem l07_GraphRight_70ok  : Ok Pr (l07_GraphRight_68_M Q E) (sB (sB (sB (bodyOf Try.f3)))) (l07_GraphRight_q1 Q E) E := fun τ H h =>
  (conv (by kernel_rfl) (vc_seq (K := (l07_GraphRight_64_M Q E)) (l07_GraphRight_69ok Q E τ H h) (l07_GraphRight_67ok Q E)))

def l07_GraphRight_71 (Q : QT) (E : ET) (x0 : OA) (l0 c0 : Nat) (H : Heap) : Prop :=
 Does Pr 7 #[(.slice x0 l0 c0)] H (fun v144 H145 =>
 ∃ (p146 : OA) (l147 c148 : Nat), v144 = (.slice p146 l147 c148) ∧ l07_GraphRight_68 Q E p146 l147 c148 H145) E

def l07_GraphRight_71_M  (τ : Tau) (H : Heap) : Prop := mSl (τ 0) fun x0 l0 c0 => l07_GraphRight_71 Q E x0 l0 c0 H

theorem l07_GraphRight_72ok  : Ok Pr (l07_GraphRight_71_M Q E) (sA (sB (sB (bodyOf Try.f3)))) (xthen (l07_GraphRight_68_M Q E) (l07_GraphRight_q1 Q E)) E := fun τ H h =>
  wSl 0 h (fun x0 l0 c0 h => (conv (by kernel_rfl) h))

theorem l07_GraphRight_73ok  : Ok Pr (l07_GraphRight_71_M Q E) (sB (sB (bodyOf Try.f3))) (l07_GraphRight_q1 Q E) E := fun τ H h =>
  (conv (by kernel_rfl) (vc_seq (K := (l07_GraphRight_68_M Q E)) (l07_GraphRight_72ok Q E τ H h) (l07_GraphRight_70ok Q E)))

def l07_GraphRight_74 (Q : QT) (E : ET) (x0 : OA) (l0 c0 : Nat) (H : Heap) : Prop :=
 Does Pr 6 #[] H (fun v149 H150 =>
 ∃ b151 : Bool, v149 = (.bool b151) ∧ sel (!b151)
 (Q (.bool false) H150)
 (l07_GraphRight_71 Q E x0 l0 c0 H150)) E

def l07_GraphRight_74_M  (τ : Tau) (H : Heap) : Prop := mSl (τ 0) fun x0 l0 c0 => l07_GraphRight_74 Q E x0 l0 c0 H

theorem l07_GraphRight_75ok  : Ok Pr (l07_GraphRight_74_M Q E) (sA (sB (bodyOf Try.f3))) (xthen (l07_GraphRight_71_M Q E) (l07_GraphRight_q1 Q E)) E := fun τ H h =>
  wSl 0 h (fun x0 l0 c0 h => (conv (by kernel_rfl) h))

theorem l07_GraphRight_76ok  : Ok Pr (l07_GraphRight_74_M Q E) (sB (bodyOf Try.f3)) (l07_GraphRight_q1 Q E) E := fun τ H h =>
  (conv (by kernel_rfl) (vc_seq (K := (l07_GraphRight_71_M Q E)) (l07_GraphRight_75ok Q E τ H h) (l07_GraphRight_73ok Q E)))

def l07_GraphRight (Q : QT) (E : ET) (a0 : OA) (a0l : Nat) (a0c : Nat) (H : Heap) : Prop :=
 l07_GraphRight_74 Q E a0 a0l a0c H

theorem l07_GraphRight_fn (a0 : OA) (a0l : Nat) (a0c : Nat) (Q : QT) (E : ET) (H : Heap) (h : l07_GraphRight Q E a0 a0l a0c H)   : Does Pr 3 #[(.slice a0 a0l a0c)] H Q E :=
  Fn_of_vc (fn := Try.f3) (c := (bodyOf Try.f3)) (args := [(.slice a0 a0l a0c)]) mixed (by kernel_rfl) (by kernel_rfl) (by kernel_rfl) (by kernel_rfl) (by kernel_rfl) ((conv (B := vc Pr (bodyOf Try.f3) (argT [(.slice a0 a0l a0c)]) (l07_GraphRight_q1 Q E) E H) (by kernel_rfl) (vc_seq (K := (l07_GraphRight_74_M Q E)) (conv (B := vc Pr (sA (bodyOf Try.f3)) (argT [(.slice a0 a0l a0c)]) (xthen (l07_GraphRight_74_M Q E) (l07_GraphRight_q1 Q E)) E H) (by kernel_rfl) h) (l07_GraphRight_76ok Q E))))

/-! jobmux/jobmuxlaw07.sane -/
noncomputable def l07_sane_q1 (Q : QT) (E : ET)  : XT := (retQ Pr (Try.f6).results.toList Q)

def l07_sane (Q : QT) (E : ET)  (H : Heap) : Prop :=
 nw (.cells #[(.string ⟨[98].toArray⟩)] 9 (0, 0)) H fun i1 H2 =>
 nw (.cells #[(.string ⟨[97].toArray⟩), (.string ⟨#[]⟩), (.slice none 0 0), (.slice (some ⟨i1, 0, none⟩) 1 1), (.bool false), (.string ⟨#[]⟩), (.int .i64 0), (.int .u64 0), (.int .u64 0), (.int .u64 0), (.int .i64 0), (.int .u64 0), (.slice none 0 0), (.int .i64 0), (.int .i64 0), (.string ⟨[98].toArray⟩), (.string ⟨#[]⟩), (.slice none 0 0), (.slice none 0 0), (.bool false), (.string ⟨#[]⟩), (.int .i64 0), (.int .u64 0), (.int .u64 0), (.int .u64 0), (.int .i64 0), (.int .u64 0), (.slice none 0 0), (.int .i64 0), (.int .i64 0)] 36 (0, 0)) H2 fun i3 H4 =>
 Does Pr 8 #[(.slice (some ⟨i3, 0, none⟩) 2 2)] H4 (fun v5 H6 =>
 ∃ (p7 : OA) (l8 c9 : Nat), v5 = (.slice p7 l8 c9) ∧ nw (.cells #[(.string ⟨[97].toArray⟩)] 9 (0, 0)) H6 fun i10 H11 =>
 (0 ≤ (1 : Int) ∧ (1 : Int) < ((2 : Nat) : Int)) ∧ wr ⟨i3, 18, none⟩ [(.slice (some ⟨i10, 0, none⟩) 1 1)] H11 fun H12 =>
 sel (((l8 : Int) : Int) == 2)
 ((0 ≤ (0 : Int) ∧ (0 : Int) < (l8 : Int)) ∧ ptr p7 fun q13 =>
 ldI .i64 q13 H12 fun n14 =>
 sel (n14 == 1)
 ((0 ≤ (1 : Int) ∧ (1 : Int) < (l8 : Int)) ∧ ptr p7 fun q15 =>
 ldI .i64 (Addr.add q15 1) H12 fun n16 =>
 sel (n16 == 0)
 (Does Pr 8 #[(.slice (some ⟨i3, 0, none⟩) 2 2)] H12 (fun v17 H18 =>
 ∃ (p19 : OA) (l20 c21 : Nat), v17 = (.slice p19 l20 c21) ∧ sel (((l20 : Int) : Int) == 0)
 (Does Pr 9 #[(.slice (some ⟨i3, 0, none⟩) 2 2)] H18 (fun v22 H23 =>
 ∃ (p24 : OA) (l25 c26 : Nat), v22 = (.slice p24 l25 c26) ∧ Q (.bool (((l25 : Int) : Int) == 2)) H23) E)
 (Q (.bool false) H18)) E)
 (Q (.bool false) H12))
 (Q (.bool false) H12))
 (Q (.bool false) H12)) E

theorem l07_sane_fn  (Q : QT) (E : ET) (H : Heap) (h : l07_sane Q E  H)   : Does Pr 6 #[] H Q E :=
  Fn_of_vc (fn := Try.f6) (c := (bodyOf Try.f6)) (args := []) mixed (by kernel_rfl) (by kernel_rfl) (by kernel_rfl) (by kernel_rfl) (by kernel_rfl) ((conv (B := vc Pr (bodyOf Try.f6) (argT []) (l07_sane_q1 Q E) E H) (by kernel_rfl) h))

/-! jobmux/jobmuxlaw07.wild -/
noncomputable def l07_wild_q1 (Q : QT) (E : ET)  : XT := (retQ Pr (Try.f7).results.toList Q)

noncomputable def l07_wild_p1 : Code := sB (bodyOf Try.f7)

def l07_wild_1 (Q : QT) (E : ET) (x4 : OA) (l4 c4 : Nat) (H : Heap) : Prop :=
 Q (.slice x4 l4 c4) H

def l07_wild_1_M  (τ : Tau) (H : Heap) : Prop := mSl (τ 4) fun x4 l4 c4 => l07_wild_1 Q E x4 l4 c4 H

theorem l07_wild_2ok  : Ok Pr (l07_wild_1_M Q E) (sB (sB (sB l07_wild_p1))) (l07_wild_q1 Q E) E := fun τ H h =>
  wSl 4 h (fun x4 l4 c4 h => (conv (by kernel_rfl) h))

noncomputable def l07_wild_q2  : XT := (xthen (l07_wild_1_M Q E) (l07_wild_q1 Q E))

noncomputable def l07_wild_p5 : Code := sA (sB (sB l07_wild_p1))

noncomputable def l07_wild_q4 (nx64 : OA → Nat → Nat → Int → HP) : XT := (xthen (fun τ H => mSl (τ 4) fun x4' l4' c4' => mI .i64 (τ 5) fun x5' => nx64 x4' l4' c4' x5' H) (xblock 0 (l07_wild_q2 Q E)))

noncomputable def l07_wild_p8 : Code := sI (sI (sB l07_wild_p5))

noncomputable def l07_wild_p9 : Code := sB l07_wild_p8

def l07_wild_3 (nx64 : OA → Nat → Nat → Int → HP) (Q : QT) (E : ET) (x3 x4 : OA) (l4 c4 : Nat) (x5 : Int) (H : Heap) : Prop :=
 nx64 x4 l4 c4 (IntKind.wrap .i64 (x5 + 1)) H

def l07_wild_3_M (nx64 : OA → Nat → Nat → Int → HP) (τ : Tau) (H : Heap) : Prop := mP (τ 3) fun x3 => mSl (τ 4) fun x4 l4 c4 => mI .i64 (τ 5) fun x5 => l07_wild_3 nx64 Q E x3 x4 l4 c4 x5 H

theorem l07_wild_4ok (nx64 : OA → Nat → Nat → Int → HP) : Ok Pr (l07_wild_3_M Q E nx64) (sB l07_wild_p9) (l07_wild_q4 Q E nx64) E := fun τ H h =>
  wP 3 h (fun x3 h => wSl 4 h (fun x4 l4 c4 h => wI 5 h (fun x5 h => (conv (by kernel_rfl) h))))

noncomputable def l07_wild_q6 (nx64 : OA → Nat → Nat → Int → HP) : XT := (xblock 1 (xthen (l07_wild_3_M Q E nx64) (l07_wild_q4 Q E nx64)))

noncomputable def l07_wild_p13 : Code := sB (sI (sA l07_wild_p9))

def l07_wild_5 (nx64 : OA → Nat → Nat → Int → HP) (Q : QT) (E : ET) (x3 x4 : OA) (l4 c4 : Nat) (x5 : Int) (x6 : OA) (H : Heap) : Prop :=
 ptr x6 fun q155 =>
 ∃ s156 : ByteArray, ∃ s157 : ByteArray, ∃ (p158 : OA) (l159 c160 : Nat), ∃ (p161 : OA) (l162 c163 : Nat), ∃ b164 : Bool, ∃ s165 : ByteArray, ∃ n166 n167 n168 n169 n170 n171 : Int, ∃ (p172 : OA) (l173 c174 : Nat), ∃ n175 n176 : Int, Heap.rd H q155 0 [(.string s156), (.string s157), (.slice p158 l159 c160), (.slice p161 l162 c163), (.bool b164), (.string s165), (.int .i64 n166), (.int .u64 n167), (.int .u64 n168), (.int .u64 n169), (.int .i64 n170), (.int .u64 n171), (.slice p172 l173 c174), (.int .i64 n175), (.int .i64 n176)] ∧ nw (.cells #[(.string s156), (.string s157), (.slice p158 l159 c160), (.slice p161 l162 c163), (.bool b164), (.string s165), (.int .i64 n166), (.int .u64 n167), (.int .u64 n168), (.int .u64 n169), (.int .i64 n170), (.int .u64 n171), (.slice p172 l173 c174), (.int .i64 n175), (.int .i64 n176)] 36 (0, 0)) H fun i177 H178 =>
 app Pr 24 x4 l4 c4 (.slice (some ⟨i177, 0, none⟩) 1 1) H178 fun p179 l180 c181 H182 =>
 l07_wild_3 nx64 Q E x3 p179 l180 c181 x5 H182

def l07_wild_5_M (nx64 : OA → Nat → Nat → Int → HP) (τ : Tau) (H : Heap) : Prop := mP (τ 3) fun x3 => mSl (τ 4) fun x4 l4 c4 => mI .i64 (τ 5) fun x5 => mP (τ 6) fun x6 => l07_wild_5 nx64 Q E x3 x4 l4 c4 x5 x6 H

theorem l07_wild_6ok (nx64 : OA → Nat → Nat → Int → HP) : Ok Pr (l07_wild_5_M Q E nx64) (sB (sB l07_wild_p13)) (l07_wild_q6 Q E nx64) E := fun τ H h =>
  wP 3 h (fun x3 h => wSl 4 h (fun x4 l4 c4 h => wI 5 h (fun x5 h => wP 6 h (fun x6 h => (conv (by kernel_rfl) h)))))

noncomputable def l07_wild_q7 (nx64 : OA → Nat → Nat → Int → HP) : XT := (xthen (l07_wild_5_M Q E nx64) (l07_wild_q6 Q E nx64))

noncomputable def l07_wild_p16 : Code := sA (sB l07_wild_p13)

noncomputable def l07_wild_q9 (nx64 : OA → Nat → Nat → Int → HP) (nx186 : Int → HP) : XT := (xthen (fun τ H => mI .i64 (τ 7) fun x7' => nx186 x7' H) (xblock 2 (l07_wild_q7 Q E nx64)))

noncomputable def l07_wild_p19 : Code := sI (sI (sB l07_wild_p16))

def l07_wild_7 (nx64 : OA → Nat → Nat → Int → HP) (nx186 : Int → HP) (Q : QT) (E : ET) (x3 x4 : OA) (l4 c4 : Nat) (x5 : Int) (x6 : OA) (x7 : Int) (H : Heap) : Prop :=
 ∃ Z187 : Nat → Prop,
 ptr x6 fun q188 =>
 Z187 (Addr.block (Addr.add q188 3)) ∧ ldSl (Addr.add q188 3) H fun p189 l190 c191 =>
 Does Pr 16 #[(.pointer x3), (.int .i64 8)] H (fun v192 H193 =>
 ∃ n194 : Int, v192 = (.int .i64 n194) ∧ (∀ z, Z187 z → H z ≠ none → H193 z = H z) ∧ (∀ z, Z187 z → H193 z ≠ none → H193 z = H193 z) ∧ nw (.cells #[(.int .u8 (IntKind.wrap .u8 (IntKind.wrap .i64 (97 + n194))))] 5 (0, 0)) H193 fun i195 H196 =>
 ∃ bs197 : List UInt8, bs197.length = 1 ∧ Heap.rdS H196 (some ⟨i195, 0, none⟩) (bs197.map byteV) ∧ (∀ z, Z187 z → H196 z ≠ none → H196 z = H196 z) ∧ nw (.cells #[(.string (⟨bs197.toArray⟩ : ByteArray))] 9 (0, 0)) H196 fun i198 H199 =>
 app Pr 31 p189 l190 c191 (.slice (some ⟨i198, 0, none⟩) 1 1) H199 fun p200 l201 c202 H203 =>
 ptr x6 fun q204 =>
 wr (Addr.add q204 3) [(.slice p200 l201 c202)] H203 fun H205 =>
 nx186 (IntKind.wrap .i64 (x7 - 1)) H205) (fun _ _ => False)

def l07_wild_7_M (nx64 : OA → Nat → Nat → Int → HP) (nx186 : Int → HP) (τ : Tau) (H : Heap) : Prop := mP (τ 3) fun x3 => mSl (τ 4) fun x4 l4 c4 => mI .i64 (τ 5) fun x5 => mP (τ 6) fun x6 => mI .i64 (τ 7) fun x7 => l07_wild_7 nx64 nx186 Q E x3 x4 l4 c4 x5 x6 x7 H

theorem l07_wild_8ok (nx64 : OA → Nat → Nat → Int → HP) (nx186 : Int → HP) : Ok Pr (l07_wild_7_M Q E nx64 nx186) (sB l07_wild_p19) (l07_wild_q9 Q E nx64 nx186) E := fun τ H h =>
  wP 3 h (fun x3 h => wSl 4 h (fun x4 l4 c4 h => wI 5 h (fun x5 h => wP 6 h (fun x6 h => wI 7 h (fun x7 h => (conv (by kernel_rfl) h))))))

noncomputable def l07_wild_q10 (nx64 : OA → Nat → Nat → Int → HP) (nx186 : Int → HP) : XT := (xthen (l07_wild_7_M Q E nx64 nx186) (l07_wild_q9 Q E nx64 nx186))

def l07_wild_9 (nx64 : OA → Nat → Nat → Int → HP) (nx186 : Int → HP) (Q : QT) (E : ET) (x3 x4 : OA) (l4 c4 : Nat) (x5 : Int) (x6 : OA) (x7 : Int) (H : Heap) : Prop :=
 sel (decide (x7 > 0))
 (l07_wild_7 nx64 nx186 Q E x3 x4 l4 c4 x5 x6 x7 H)
 (l07_wild_5 nx64 Q E x3 x4 l4 c4 x5 x6 H)

def l07_wild_9_M (nx64 : OA → Nat → Nat → Int → HP) (nx186 : Int → HP) (τ : Tau) (H : Heap) : Prop := mP (τ 3) fun x3 => mSl (τ 4) fun x4 l4 c4 => mI .i64 (τ 5) fun x5 => mP (τ 6) fun x6 => mI .i64 (τ 7) fun x7 => l07_wild_9 nx64 nx186 Q E x3 x4 l4 c4 x5 x6 x7 H

theorem l07_wild_10ok (nx64 : OA → Nat → Nat → Int → HP) (nx186 : Int → HP) : Ok Pr (l07_wild_9_M Q E nx64 nx186) (sA l07_wild_p19) (l07_wild_q10 Q E nx64 nx186) E := fun τ H h =>
  wP 3 h (fun x3 h => wSl 4 h (fun x4 l4 c4 h => wI 5 h (fun x5 h => wP 6 h (fun x6 h => wI 7 h (fun x7 h => (conv (by kernel_rfl) h))))))

theorem l07_wild_11ok (nx64 : OA → Nat → Nat → Int → HP) (nx186 : Int → HP) : Ok Pr (l07_wild_9_M Q E nx64 nx186) l07_wild_p19 (l07_wild_q9 Q E nx64 nx186) E := fun τ H h =>
  (conv (by kernel_rfl) (vc_seq (K := (l07_wild_7_M Q E nx64 nx186)) (l07_wild_10ok Q E nx64 nx186 τ H h) (l07_wild_8ok Q E nx64 nx186)))

def l07_wild_12 (nx64 : OA → Nat → Nat → Int → HP) (Q : QT) (E : ET) (x3 x4 : OA) (l4 c4 : Nat) (x5 : Int) (x6 : OA) (x7 : Int) (H : Heap) : Prop :=
 ∃ (I : Int → HP) (μ : Int → Heap → Nat), I x7 H ∧ ∀ (x7 : Int) (H : Heap), I x7 H →
 l07_wild_9 nx64 (fun x7' H1 => I x7' H1 ∧ μ x7' H1 < μ x7 H) Q E x3 x4 l4 c4 x5 x6 x7 H

def l07_wild_12_M (nx64 : OA → Nat → Nat → Int → HP) (τ : Tau) (H : Heap) : Prop := mP (τ 3) fun x3 => mSl (τ 4) fun x4 l4 c4 => mI .i64 (τ 5) fun x5 => mP (τ 6) fun x6 => mI .i64 (τ 7) fun x7 => l07_wild_12 nx64 Q E x3 x4 l4 c4 x5 x6 x7 H

theorem l07_wild_13ok (nx64 : OA → Nat → Nat → Int → HP) : Ok Pr (l07_wild_12_M Q E nx64) (sI (sB l07_wild_p16)) (xblock 2 (l07_wild_q7 Q E nx64)) E := fun τ H h =>
  wP 3 h (fun x3 h => wSl 4 h (fun x4 l4 c4 h => wI 5 h (fun x5 h => wP 6 h (fun x6 h => wI 7 h (fun x7 h => match h with | ⟨I, μ, h0, hr⟩ => (conv (by kernel_rfl) (vc_loopG (c := sI (sI (sB l07_wild_p16))) (τ := (Tau.upd (Tau.upd (Tau.upd (Tau.upd (Tau.upd τ 3 (.pointer x3)) 4 (.slice x4 l4 c4)) 5 (.int .i64 x5)) 6 (.pointer x6)) 7 (.int .i64 x7))) [3, 4, 5, 6] (fun τ H => mI .i64 (τ 7) fun x7' => I x7' H) (fun τ H => μ (gI (τ 7)) H) (by kernel_rfl) h0 (fun τ1 H1 hf hI => uF 3 (.pointer x3) (hf 3 (by simp)) (uF 4 (.slice x4 l4 c4) (hf 4 (by simp)) (uF 5 (.int .i64 x5) (hf 5 (by simp)) (uF 6 (.pointer x6) (hf 6 (by simp)) (uI 7 hI (fun x7r h => lgx (l07_wild_11ok Q E nx64 (fun x7' H2 => I x7' H2 ∧ μ x7' H2 < μ x7r H1) (Tau.upd (Tau.upd (Tau.upd (Tau.upd (Tau.upd τ1 3 (.pointer x3)) 4 (.slice x4 l4 c4)) 5 (.int .i64 x5)) 6 (.pointer x6)) 7 (.int .i64 x7r)) H1 (conv (by kernel_rfl) (hr x7r H1 h))) (fun τ2 H2 hk => kI 7 hk (fun x7' h => conv (by kernel_rfl) h)))))))))))))))

theorem l07_wild_14ok (nx64 : OA → Nat → Nat → Int → HP) : Ok Pr (l07_wild_12_M Q E nx64) (sB l07_wild_p16) (l07_wild_q7 Q E nx64) E := fun τ H h =>
  (conv (by kernel_rfl) (l07_wild_13ok Q E nx64 τ H h))

noncomputable def l07_wild_q11 (nx64 : OA → Nat → Nat → Int → HP) : XT := (xthen (l07_wild_12_M Q E nx64) (l07_wild_q7 Q E nx64))

def l07_wild_15 (nx64 : OA → Nat → Nat → Int → HP) (Q : QT) (E : ET) (x3 x4 : OA) (l4 c4 : Nat) (x5 : Int) (x6 : OA) (H : Heap) : Prop :=
 Does Pr 16 #[(.pointer x3), (.int .i64 3)] H (fun v206 H207 =>
 ∃ n208 : Int, v206 = (.int .i64 n208) ∧ l07_wild_12 nx64 Q E x3 x4 l4 c4 x5 x6 n208 H207) E

def l07_wild_15_M (nx64 : OA → Nat → Nat → Int → HP) (τ : Tau) (H : Heap) : Prop := mP (τ 3) fun x3 => mSl (τ 4) fun x4 l4 c4 => mI .i64 (τ 5) fun x5 => mP (τ 6) fun x6 => l07_wild_15 nx64 Q E x3 x4 l4 c4 x5 x6 H

theorem l07_wild_16ok (nx64 : OA → Nat → Nat → Int → HP) : Ok Pr (l07_wild_15_M Q E nx64) (sA l07_wild_p16) (l07_wild_q11 Q E nx64) E := fun τ H h =>
  wP 3 h (fun x3 h => wSl 4 h (fun x4 l4 c4 h => wI 5 h (fun x5 h => wP 6 h (fun x6 h => (conv (by kernel_rfl) h)))))

theorem l07_wild_17ok (nx64 : OA → Nat → Nat → Int → HP) : Ok Pr (l07_wild_15_M Q E nx64) l07_wild_p16 (l07_wild_q7 Q E nx64) E := fun τ H h =>
  (conv (by kernel_rfl) (vc_seq (K := (l07_wild_12_M Q E nx64)) (l07_wild_16ok Q E nx64 τ H h) (l07_wild_14ok Q E nx64)))

theorem l07_wild_18ok (nx64 : OA → Nat → Nat → Int → HP) : Ok Pr (l07_wild_15_M Q E nx64) (sB l07_wild_p13) (l07_wild_q6 Q E nx64) E := fun τ H h =>
  (conv (by kernel_rfl) (vc_seq (K := (l07_wild_5_M Q E nx64)) (l07_wild_17ok Q E nx64 τ H h) (l07_wild_6ok Q E nx64)))

noncomputable def l07_wild_q12 (nx64 : OA → Nat → Nat → Int → HP) : XT := (xthen (l07_wild_15_M Q E nx64) (l07_wild_q6 Q E nx64))

def l07_wild_19 (nx64 : OA → Nat → Nat → Int → HP) (Q : QT) (E : ET) (x3 x4 : OA) (l4 c4 : Nat) (x5 : Int) (x6 : OA) (H : Heap) : Prop :=
 Does Pr 16 #[(.pointer x3), (.int .i64 8)] H (fun v209 H210 =>
 ∃ n211 : Int, v209 = (.int .i64 n211) ∧ sel (n211 == 0)
 (ptr x6 fun q212 =>
 wr q212 [(.string ⟨[97].toArray⟩)] H210 fun H213 =>
 l07_wild_15 nx64 Q E x3 x4 l4 c4 x5 x6 H213)
 (l07_wild_15 nx64 Q E x3 x4 l4 c4 x5 x6 H210)) E

def l07_wild_19_M (nx64 : OA → Nat → Nat → Int → HP) (τ : Tau) (H : Heap) : Prop := mP (τ 3) fun x3 => mSl (τ 4) fun x4 l4 c4 => mI .i64 (τ 5) fun x5 => mP (τ 6) fun x6 => l07_wild_19 nx64 Q E x3 x4 l4 c4 x5 x6 H

theorem l07_wild_20ok (nx64 : OA → Nat → Nat → Int → HP) : Ok Pr (l07_wild_19_M Q E nx64) (sA l07_wild_p13) (l07_wild_q12 Q E nx64) E := fun τ H h =>
  wP 3 h (fun x3 h => wSl 4 h (fun x4 l4 c4 h => wI 5 h (fun x5 h => wP 6 h (fun x6 h => (conv (by kernel_rfl) h)))))

theorem l07_wild_21ok (nx64 : OA → Nat → Nat → Int → HP) : Ok Pr (l07_wild_19_M Q E nx64) l07_wild_p13 (l07_wild_q6 Q E nx64) E := fun τ H h =>
  (conv (by kernel_rfl) (vc_seq (K := (l07_wild_15_M Q E nx64)) (l07_wild_20ok Q E nx64 τ H h) (l07_wild_18ok Q E nx64)))

def l07_wild_22 (nx64 : OA → Nat → Nat → Int → HP) (Q : QT) (E : ET) (x3 x4 : OA) (l4 c4 : Nat) (x5 : Int) (H : Heap) : Prop :=
 nw (.cells #[(.int .u8 (IntKind.wrap .u8 (IntKind.wrap .i64 (97 + x5))))] 5 (0, 0)) H fun i214 H215 =>
 ∃ bs216 : List UInt8, bs216.length = 1 ∧ Heap.rdS H215 (some ⟨i214, 0, none⟩) (bs216.map byteV) ∧ nw (.cells #[(.string ⟨#[]⟩), (.string ⟨#[]⟩), (.slice none 0 0), (.slice none 0 0), (.bool false), (.string ⟨#[]⟩), (.int .i64 0), (.int .u64 0), (.int .u64 0), (.int .u64 0), (.int .i64 0), (.int .u64 0), (.slice none 0 0), (.int .i64 0), (.int .i64 0)] 36 (0, 0)) H215 fun i217 H218 =>
 wr ⟨i217, 0, none⟩ [(.string (⟨bs216.toArray⟩ : ByteArray)), (.string ⟨#[]⟩), (.slice none 0 0), (.slice none 0 0), (.bool false), (.string ⟨#[]⟩), (.int .i64 0), (.int .u64 0), (.int .u64 0), (.int .u64 0), (.int .i64 0), (.int .u64 0), (.slice none 0 0), (.int .i64 0), (.int .i64 0)] H218 fun H219 =>
 l07_wild_19 nx64 Q E x3 x4 l4 c4 x5 (some ⟨i217, 0, none⟩) H219

def l07_wild_22_M (nx64 : OA → Nat → Nat → Int → HP) (τ : Tau) (H : Heap) : Prop := mP (τ 3) fun x3 => mSl (τ 4) fun x4 l4 c4 => mI .i64 (τ 5) fun x5 => l07_wild_22 nx64 Q E x3 x4 l4 c4 x5 H

theorem l07_wild_23ok (nx64 : OA → Nat → Nat → Int → HP) : Ok Pr (l07_wild_22_M Q E nx64) (sA (sI (sA l07_wild_p9))) (xthen (l07_wild_19_M Q E nx64) (l07_wild_q6 Q E nx64)) E := fun τ H h =>
  wP 3 h (fun x3 h => wSl 4 h (fun x4 l4 c4 h => wI 5 h (fun x5 h => (conv (by kernel_rfl) h))))

theorem l07_wild_24ok (nx64 : OA → Nat → Nat → Int → HP) : Ok Pr (l07_wild_22_M Q E nx64) (sI (sA l07_wild_p9)) (l07_wild_q6 Q E nx64) E := fun τ H h =>
  (conv (by kernel_rfl) (vc_seq (K := (l07_wild_19_M Q E nx64)) (l07_wild_23ok Q E nx64 τ H h) (l07_wild_21ok Q E nx64)))

theorem l07_wild_25ok (nx64 : OA → Nat → Nat → Int → HP) : Ok Pr (l07_wild_22_M Q E nx64) (sA l07_wild_p9) (xthen (l07_wild_3_M Q E nx64) (l07_wild_q4 Q E nx64)) E := fun τ H h =>
  (conv (by kernel_rfl) (l07_wild_24ok Q E nx64 τ H h))

theorem l07_wild_26ok (nx64 : OA → Nat → Nat → Int → HP) : Ok Pr (l07_wild_22_M Q E nx64) l07_wild_p9 (l07_wild_q4 Q E nx64) E := fun τ H h =>
  (conv (by kernel_rfl) (vc_seq (K := (l07_wild_3_M Q E nx64)) (l07_wild_25ok Q E nx64 τ H h) (l07_wild_4ok Q E nx64)))

noncomputable def l07_wild_q14 (nx64 : OA → Nat → Nat → Int → HP) : XT := (xthen (l07_wild_22_M Q E nx64) (l07_wild_q4 Q E nx64))

def l07_wild_27 (nx64 : OA → Nat → Nat → Int → HP) (Q : QT) (E : ET) (x3 x4 : OA) (l4 c4 : Nat) (x5 : Int) (x15 : Bool) (H : Heap) : Prop :=
 sel x15
 (l07_wild_22 nx64 Q E x3 x4 l4 c4 x5 H)
 (l07_wild_1 Q E x4 l4 c4 H)

def l07_wild_27_M (nx64 : OA → Nat → Nat → Int → HP) (τ : Tau) (H : Heap) : Prop := mP (τ 3) fun x3 => mSl (τ 4) fun x4 l4 c4 => mI .i64 (τ 5) fun x5 => mB (τ 15) fun x15 => l07_wild_27 nx64 Q E x3 x4 l4 c4 x5 x15 H

theorem l07_wild_28ok (nx64 : OA → Nat → Nat → Int → HP) : Ok Pr (l07_wild_27_M Q E nx64) (sB (sA l07_wild_p8)) (l07_wild_q14 Q E nx64) E := fun τ H h =>
  wP 3 h (fun x3 h => wSl 4 h (fun x4 l4 c4 h => wI 5 h (fun x5 h => wB 15 h (fun x15 h => (conv (by kernel_rfl) h)))))

noncomputable def l07_wild_q15 (nx64 : OA → Nat → Nat → Int → HP) : XT := (xthen (l07_wild_27_M Q E nx64) (l07_wild_q14 Q E nx64))

def l07_wild_29 (nx64 : OA → Nat → Nat → Int → HP) (Q : QT) (E : ET) (x3 x4 : OA) (l4 c4 : Nat) (x5 : Int) (H : Heap) : Prop :=
 sel (decide (x5 < 6))
 (Does Pr 15 #[(.pointer x3)] H (fun v223 H224 =>
 ∃ b225 : Bool, v223 = (.bool b225) ∧ l07_wild_27 nx64 Q E x3 x4 l4 c4 x5 b225 H224) E)
 (l07_wild_27 nx64 Q E x3 x4 l4 c4 x5 false H)

def l07_wild_29_M (nx64 : OA → Nat → Nat → Int → HP) (τ : Tau) (H : Heap) : Prop := mP (τ 3) fun x3 => mSl (τ 4) fun x4 l4 c4 => mI .i64 (τ 5) fun x5 => l07_wild_29 nx64 Q E x3 x4 l4 c4 x5 H

theorem l07_wild_30ok (nx64 : OA → Nat → Nat → Int → HP) : Ok Pr (l07_wild_29_M Q E nx64) (sA (sA l07_wild_p8)) (l07_wild_q15 Q E nx64) E := fun τ H h =>
  wP 3 h (fun x3 h => wSl 4 h (fun x4 l4 c4 h => wI 5 h (fun x5 h => (conv (by kernel_rfl) h))))

theorem l07_wild_31ok (nx64 : OA → Nat → Nat → Int → HP) : Ok Pr (l07_wild_29_M Q E nx64) (sA l07_wild_p8) (l07_wild_q14 Q E nx64) E := fun τ H h =>
  (conv (by kernel_rfl) (vc_seq (K := (l07_wild_27_M Q E nx64)) (l07_wild_30ok Q E nx64 τ H h) (l07_wild_28ok Q E nx64)))

theorem l07_wild_32ok (nx64 : OA → Nat → Nat → Int → HP) : Ok Pr (l07_wild_29_M Q E nx64) l07_wild_p8 (l07_wild_q4 Q E nx64) E := fun τ H h =>
  (conv (by kernel_rfl) (vc_seq (K := (l07_wild_22_M Q E nx64)) (l07_wild_31ok Q E nx64 τ H h) (l07_wild_26ok Q E nx64)))

def l07_wild_33 (Q : QT) (E : ET) (x3 x4 : OA) (l4 c4 : Nat) (x5 : Int) (H : Heap) : Prop :=
 ∃ (I : OA → Nat → Nat → Int → HP) (μ : OA → Nat → Nat → Int → Heap → Nat), I x4 l4 c4 x5 H ∧ ∀ (x4 : OA) (l4 c4 : Nat) (x5 : Int) (H : Heap), I x4 l4 c4 x5 H →
 l07_wild_29 (fun x4' l4' c4' x5' H1 => I x4' l4' c4' x5' H1 ∧ μ x4' l4' c4' x5' H1 < μ x4 l4 c4 x5 H) Q E x3 x4 l4 c4 x5 H

def l07_wild_33_M  (τ : Tau) (H : Heap) : Prop := mP (τ 3) fun x3 => mSl (τ 4) fun x4 l4 c4 => mI .i64 (τ 5) fun x5 => l07_wild_33 Q E x3 x4 l4 c4 x5 H

theorem l07_wild_34ok  : Ok Pr (l07_wild_33_M Q E) (sI (sB l07_wild_p5)) (xblock 0 (l07_wild_q2 Q E)) E := fun τ H h =>
  wP 3 h (fun x3 h => wSl 4 h (fun x4 l4 c4 h => wI 5 h (fun x5 h => match h with | ⟨I, μ, h0, hr⟩ => (conv (by kernel_rfl) (vc_loopG (c := sI (sI (sB l07_wild_p5))) (τ := (Tau.upd (Tau.upd (Tau.upd τ 3 (.pointer x3)) 4 (.slice x4 l4 c4)) 5 (.int .i64 x5))) [3] (fun τ H => mSl (τ 4) fun x4' l4' c4' => mI .i64 (τ 5) fun x5' => I x4' l4' c4' x5' H) (fun τ H => μ (gL1 (τ 4)) (gL2 (τ 4)) (gL3 (τ 4)) (gI (τ 5)) H) (by kernel_rfl) h0 (fun τ1 H1 hf hI => uF 3 (.pointer x3) (hf 3 (by simp)) (uSl 4 hI (fun x4r l4r c4r h => uI 5 h (fun x5r h => lgx (l07_wild_32ok Q E (fun x4' l4' c4' x5' H2 => I x4' l4' c4' x5' H2 ∧ μ x4' l4' c4' x5' H2 < μ x4r l4r c4r x5r H1) (Tau.upd (Tau.upd (Tau.upd τ1 3 (.pointer x3)) 4 (.slice x4r l4r c4r)) 5 (.int .i64 x5r)) H1 (conv (by kernel_rfl) (hr x4r l4r c4r x5r H1 h))) (fun τ2 H2 hk => kSl 4 hk (fun x4' l4' c4' h => kI 5 h (fun x5' h => conv (by kernel_rfl) h))))))))))))

theorem l07_wild_35ok  : Ok Pr (l07_wild_33_M Q E) (sB l07_wild_p5) (l07_wild_q2 Q E) E := fun τ H h =>
  (conv (by kernel_rfl) (l07_wild_34ok Q E τ H h))

noncomputable def l07_wild_q16  : XT := (xthen (l07_wild_33_M Q E) (l07_wild_q2 Q E))

def l07_wild_36 (Q : QT) (E : ET) (x3 x4 : OA) (l4 c4 : Nat) (H : Heap) : Prop :=
 l07_wild_33 Q E x3 x4 l4 c4 0 H

def l07_wild_36_M  (τ : Tau) (H : Heap) : Prop := mP (τ 3) fun x3 => mSl (τ 4) fun x4 l4 c4 => l07_wild_36 Q E x3 x4 l4 c4 H

theorem l07_wild_37ok  : Ok Pr (l07_wild_36_M Q E) (sA l07_wild_p5) (l07_wild_q16 Q E) E := fun τ H h =>
  wP 3 h (fun x3 h => wSl 4 h (fun x4 l4 c4 h => (conv (by kernel_rfl) h)))

theorem l07_wild_38ok  : Ok Pr (l07_wild_36_M Q E) l07_wild_p5 (l07_wild_q2 Q E) E := fun τ H h =>
  (conv (by kernel_rfl) (vc_seq (K := (l07_wild_33_M Q E)) (l07_wild_37ok Q E τ H h) (l07_wild_35ok Q E)))

theorem l07_wild_39ok  : Ok Pr (l07_wild_36_M Q E) (sB (sB l07_wild_p1)) (l07_wild_q1 Q E) E := fun τ H h =>
  (conv (by kernel_rfl) (vc_seq (K := (l07_wild_1_M Q E)) (l07_wild_38ok Q E τ H h) (l07_wild_2ok Q E)))

def l07_wild_40 (Q : QT) (E : ET) (x3 : OA) (H : Heap) : Prop :=
 l07_wild_36 Q E x3 none 0 0 H

def l07_wild_40_M  (τ : Tau) (H : Heap) : Prop := mP (τ 3) fun x3 => l07_wild_40 Q E x3 H

theorem l07_wild_41ok  : Ok Pr (l07_wild_40_M Q E) (sA (sB l07_wild_p1)) (xthen (l07_wild_36_M Q E) (l07_wild_q1 Q E)) E := fun τ H h =>
  wP 3 h (fun x3 h => (conv (by kernel_rfl) h))

theorem l07_wild_42ok  : Ok Pr (l07_wild_40_M Q E) (sB l07_wild_p1) (l07_wild_q1 Q E) E := fun τ H h =>
  (conv (by kernel_rfl) (vc_seq (K := (l07_wild_36_M Q E)) (l07_wild_41ok Q E τ H h) (l07_wild_39ok Q E)))

def l07_wild_43 (Q : QT) (E : ET) (x0 : OA) (l0 c0 : Nat) (H : Heap) : Prop :=
 Does Pr 14 #[(.slice x0 l0 c0)] H (fun v226 H227 =>
 ∃ p228 : OA, v226 = (.pointer p228) ∧ l07_wild_40 Q E p228 H227) E

def l07_wild_43_M  (τ : Tau) (H : Heap) : Prop := mSl (τ 0) fun x0 l0 c0 => l07_wild_43 Q E x0 l0 c0 H

theorem l07_wild_44ok  : Ok Pr (l07_wild_43_M Q E) (sA l07_wild_p1) (xthen (l07_wild_40_M Q E) (l07_wild_q1 Q E)) E := fun τ H h =>
  wSl 0 h (fun x0 l0 c0 h => (conv (by kernel_rfl) h))

theorem l07_wild_45ok  : Ok Pr (l07_wild_43_M Q E) l07_wild_p1 (l07_wild_q1 Q E) E := fun τ H h =>
  (conv (by kernel_rfl) (vc_seq (K := (l07_wild_40_M Q E)) (l07_wild_44ok Q E τ H h) (l07_wild_42ok Q E)))

def l07_wild (Q : QT) (E : ET) (a0 : OA) (a0l : Nat) (a0c : Nat) (H : Heap) : Prop :=
 l07_wild_43 Q E a0 a0l a0c H

theorem l07_wild_fn (a0 : OA) (a0l : Nat) (a0c : Nat) (Q : QT) (E : ET) (H : Heap) (h : l07_wild Q E a0 a0l a0c H)   : Does Pr 7 #[(.slice a0 a0l a0c)] H Q E :=
  Fn_of_vc (fn := Try.f7) (c := (bodyOf Try.f7)) (args := [(.slice a0 a0l a0c)]) mixed (by kernel_rfl) (by kernel_rfl) (by kernel_rfl) (by kernel_rfl) (by kernel_rfl) ((conv (B := vc Pr (bodyOf Try.f7) (argT [(.slice a0 a0l a0c)]) (l07_wild_q1 Q E) E H) (by kernel_rfl) (vc_seq (K := (l07_wild_43_M Q E)) (conv (B := vc Pr (sA (bodyOf Try.f7)) (argT [(.slice a0 a0l a0c)]) (xthen (l07_wild_43_M Q E) (l07_wild_q1 Q E)) E H) (by kernel_rfl) h) (l07_wild_45ok Q E))))

end Go.Proofs.Ytombjgnlpdnclaa
