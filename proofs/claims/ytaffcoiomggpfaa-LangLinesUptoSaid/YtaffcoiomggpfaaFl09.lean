import Derived.Test.YtaffcoiomggpfaaVPr
/- Printed by gen.py: the Go functions of package l09 over a heap view, and that the model does so. -/
namespace Go.Proofs.Ytaffcoiomggpfaa
open Go.V
set_option linter.unusedVariables false
set_option maxRecDepth 100000
/-! jobmux/jobmuxlaw09.LangStays -/
@[reducible] noncomputable def l09_LangStays_q1 (Q : Value → Heap → Prop) (E : Chain → Heap → Prop) : Exit → Tau → Heap → Prop := (retQ Pr (Try.f4).results.toList Q)

@[reducible] noncomputable def l09_LangStays_p0 : Code := bodyOf Try.f4

@[reducible] noncomputable def l09_LangStays_p1 : Code := sB l09_LangStays_p0

@[reducible] noncomputable def l09_LangStays_p2 : Code := sB l09_LangStays_p1

@[reducible] noncomputable def l09_LangStays_p3 : Code := sB l09_LangStays_p2

@[reducible] noncomputable def l09_LangStays_p4 : Code := sB l09_LangStays_p3

@[reducible] noncomputable def l09_LangStays_p5 : Code := sB l09_LangStays_p4

@[reducible] noncomputable def l09_LangStays_p6 : Code := sB l09_LangStays_p5

def l09_LangStays_1 (Q : Value → Heap → Prop) (E : Chain → Heap → Prop) (x1 : Option Addr) (l1 : Nat) (c1 : Nat) (x5 : Option Addr) (l5 : Nat) (c5 : Nat) (x6 : Option Addr) (l6 : Nat) (c6 : Nat) (x7 : Int) (H : Heap) : Prop :=
 sel (decide ((x7 : Int) < 0))
 (Q (.bool true) H)
 (nw (.cells #[] 5 (0, 0)) H fun i15 H16 =>
 app Pr 24 (some ⟨i15, 0, none⟩) 0 0 (.slice x6 l6 c6) H16 fun p17 l18 c19 H20 =>
 app Pr 24 p17 l18 c19 (.slice x1 l1 c1) H20 fun p21 l22 c23 H24 =>
 Does Pr 19 #[(.slice x5 l5 c5), (.slice p21 l22 c23)] H24 (fun v25 H26 =>
 ∃ n27 : Int, v25 = (.int .i64 n27) ∧ sel ((n27 : Int) == x7)
 ((0 ≤ (x7 : Int) ∧ (x7 : Int) ≤ ((c6 : Nat) : Int)) ∧ Does Pr 19 #[(.slice x5 l5 c5), (.slice (if c6 = 0 then x6 else Option.map (fun a => Addr.add a (0 * 1)) x6) ((x7 : Int).toNat - 0) (c6 - 0))] H26 (fun v28 H29 =>
 ∃ n30 : Int, v28 = (.int .i64 n30) ∧ Q (.bool ((n30 : Int) == x7)) H29) E)
 (Q (.bool false) H26)) E)

def l09_LangStays_1_M (Q : Value → Heap → Prop) (E : Chain → Heap → Prop) (τ : Tau) (H : Heap) : Prop := mSl (τ 1) fun x1 l1 c1 => mSl (τ 5) fun x5 l5 c5 => mSl (τ 6) fun x6 l6 c6 => mI .i64 (τ 7) fun x7 => l09_LangStays_1 Q E x1 l1 c1 x5 l5 c5 x6 l6 c6 x7 H

theorem l09_LangStays_2ok (Q : Value → Heap → Prop) (E : Chain → Heap → Prop) (τ : Tau) (H : Heap) (h : l09_LangStays_1_M Q E τ H) : vc Pr l09_LangStays_p6 τ (l09_LangStays_q1 Q E) E H :=
  mSl_elim (i := 1) (G := fun τ => vc Pr l09_LangStays_p6 τ (l09_LangStays_q1 Q E) E H) h (fun x1 l1 c1 h => mSl_elim (i := 5) (G := fun τ => vc Pr l09_LangStays_p6 τ (l09_LangStays_q1 Q E) E H) h (fun x5 l5 c5 h => mSl_elim (i := 6) (G := fun τ => vc Pr l09_LangStays_p6 τ (l09_LangStays_q1 Q E) E H) h (fun x6 l6 c6 h => mI_elim (i := 7) (G := fun τ => vc Pr l09_LangStays_p6 τ (l09_LangStays_q1 Q E) E H) h (fun x7 h => (conv (B := vc Pr l09_LangStays_p6 (Tau.upd (Tau.upd (Tau.upd (Tau.upd τ 1 (.slice x1 l1 c1)) 5 (.slice x5 l5 c5)) 6 (.slice x6 l6 c6)) 7 (.int .i64 x7)) (l09_LangStays_q1 Q E) E H) (by kernel_rfl) h)))))

@[reducible] noncomputable def l09_LangStays_q2 (Q : Value → Heap → Prop) (E : Chain → Heap → Prop) : Exit → Tau → Heap → Prop := (xthen (l09_LangStays_1_M Q E) (l09_LangStays_q1 Q E))

@[reducible] noncomputable def l09_LangStays_p7 : Code := sA l09_LangStays_p5

@[reducible] noncomputable def l09_LangStays_p8 : Code := sB l09_LangStays_p7

def l09_LangStays_3 (Q : Value → Heap → Prop) (E : Chain → Heap → Prop) (x1 : Option Addr) (l1 : Nat) (c1 : Nat) (x5 : Option Addr) (l5 : Nat) (c5 : Nat) (x6 : Option Addr) (l6 : Nat) (c6 : Nat) (x7 : Int) (x28 : Bool) (H : Heap) : Prop :=
 sel x28
 (Q (.bool false) H)
 (l09_LangStays_1 Q E x1 l1 c1 x5 l5 c5 x6 l6 c6 x7 H)

def l09_LangStays_3_M (Q : Value → Heap → Prop) (E : Chain → Heap → Prop) (τ : Tau) (H : Heap) : Prop := mSl (τ 1) fun x1 l1 c1 => mSl (τ 5) fun x5 l5 c5 => mSl (τ 6) fun x6 l6 c6 => mI .i64 (τ 7) fun x7 => mB (τ 28) fun x28 => l09_LangStays_3 Q E x1 l1 c1 x5 l5 c5 x6 l6 c6 x7 x28 H

theorem l09_LangStays_4ok (Q : Value → Heap → Prop) (E : Chain → Heap → Prop) (τ : Tau) (H : Heap) (h : l09_LangStays_3_M Q E τ H) : vc Pr l09_LangStays_p8 τ (l09_LangStays_q2 Q E) E H :=
  mSl_elim (i := 1) (G := fun τ => vc Pr l09_LangStays_p8 τ (l09_LangStays_q2 Q E) E H) h (fun x1 l1 c1 h => mSl_elim (i := 5) (G := fun τ => vc Pr l09_LangStays_p8 τ (l09_LangStays_q2 Q E) E H) h (fun x5 l5 c5 h => mSl_elim (i := 6) (G := fun τ => vc Pr l09_LangStays_p8 τ (l09_LangStays_q2 Q E) E H) h (fun x6 l6 c6 h => mI_elim (i := 7) (G := fun τ => vc Pr l09_LangStays_p8 τ (l09_LangStays_q2 Q E) E H) h (fun x7 h => mB_elim (i := 28) (G := fun τ => vc Pr l09_LangStays_p8 τ (l09_LangStays_q2 Q E) E H) h (fun x28 h => (conv (B := vc Pr l09_LangStays_p8 (Tau.upd (Tau.upd (Tau.upd (Tau.upd (Tau.upd τ 1 (.slice x1 l1 c1)) 5 (.slice x5 l5 c5)) 6 (.slice x6 l6 c6)) 7 (.int .i64 x7)) 28 (.bool x28)) (l09_LangStays_q2 Q E) E H) (by kernel_rfl) h))))))

@[reducible] noncomputable def l09_LangStays_q3 (Q : Value → Heap → Prop) (E : Chain → Heap → Prop) : Exit → Tau → Heap → Prop := (xthen (l09_LangStays_3_M Q E) (l09_LangStays_q2 Q E))

@[reducible] noncomputable def l09_LangStays_p9 : Code := sA l09_LangStays_p7

def l09_LangStays_5 (Q : Value → Heap → Prop) (E : Chain → Heap → Prop) (x1 : Option Addr) (l1 : Nat) (c1 : Nat) (x5 : Option Addr) (l5 : Nat) (c5 : Nat) (x6 : Option Addr) (l6 : Nat) (c6 : Nat) (x7 : Int) (H : Heap) : Prop :=
 sel (decide ((x7 : Int) > ((l6 : Nat) : Int)))
 (l09_LangStays_3 Q E x1 l1 c1 x5 l5 c5 x6 l6 c6 x7 true H)
 (l09_LangStays_3 Q E x1 l1 c1 x5 l5 c5 x6 l6 c6 x7 (decide ((x7 : Int) < (-1))) H)

def l09_LangStays_5_M (Q : Value → Heap → Prop) (E : Chain → Heap → Prop) (τ : Tau) (H : Heap) : Prop := mSl (τ 1) fun x1 l1 c1 => mSl (τ 5) fun x5 l5 c5 => mSl (τ 6) fun x6 l6 c6 => mI .i64 (τ 7) fun x7 => l09_LangStays_5 Q E x1 l1 c1 x5 l5 c5 x6 l6 c6 x7 H

theorem l09_LangStays_6ok (Q : Value → Heap → Prop) (E : Chain → Heap → Prop) (τ : Tau) (H : Heap) (h : l09_LangStays_5_M Q E τ H) : vc Pr l09_LangStays_p9 τ (l09_LangStays_q3 Q E) E H :=
  mSl_elim (i := 1) (G := fun τ => vc Pr l09_LangStays_p9 τ (l09_LangStays_q3 Q E) E H) h (fun x1 l1 c1 h => mSl_elim (i := 5) (G := fun τ => vc Pr l09_LangStays_p9 τ (l09_LangStays_q3 Q E) E H) h (fun x5 l5 c5 h => mSl_elim (i := 6) (G := fun τ => vc Pr l09_LangStays_p9 τ (l09_LangStays_q3 Q E) E H) h (fun x6 l6 c6 h => mI_elim (i := 7) (G := fun τ => vc Pr l09_LangStays_p9 τ (l09_LangStays_q3 Q E) E H) h (fun x7 h => (conv (B := vc Pr l09_LangStays_p9 (Tau.upd (Tau.upd (Tau.upd (Tau.upd τ 1 (.slice x1 l1 c1)) 5 (.slice x5 l5 c5)) 6 (.slice x6 l6 c6)) 7 (.int .i64 x7)) (l09_LangStays_q3 Q E) E H) (by kernel_rfl) h)))))

theorem l09_LangStays_7ok (Q : Value → Heap → Prop) (E : Chain → Heap → Prop) (τ : Tau) (H : Heap) (h : l09_LangStays_5_M Q E τ H) : vc Pr l09_LangStays_p7 τ (l09_LangStays_q2 Q E) E H :=
  (conv (B := vc Pr l09_LangStays_p7 τ (l09_LangStays_q2 Q E) E H) (by kernel_rfl) (vc_seq (K := (l09_LangStays_3_M Q E)) (l09_LangStays_6ok Q E τ H h) (l09_LangStays_4ok Q E)))

theorem l09_LangStays_8ok (Q : Value → Heap → Prop) (E : Chain → Heap → Prop) (τ : Tau) (H : Heap) (h : l09_LangStays_5_M Q E τ H) : vc Pr l09_LangStays_p5 τ (l09_LangStays_q1 Q E) E H :=
  (conv (B := vc Pr l09_LangStays_p5 τ (l09_LangStays_q1 Q E) E H) (by kernel_rfl) (vc_seq (K := (l09_LangStays_1_M Q E)) (l09_LangStays_7ok Q E τ H h) (l09_LangStays_2ok Q E)))

@[reducible] noncomputable def l09_LangStays_q4 (Q : Value → Heap → Prop) (E : Chain → Heap → Prop) : Exit → Tau → Heap → Prop := (xthen (l09_LangStays_5_M Q E) (l09_LangStays_q1 Q E))

@[reducible] noncomputable def l09_LangStays_p10 : Code := sA l09_LangStays_p4

def l09_LangStays_9 (Q : Value → Heap → Prop) (E : Chain → Heap → Prop) (x1 : Option Addr) (l1 : Nat) (c1 : Nat) (x5 : Option Addr) (l5 : Nat) (c5 : Nat) (x6 : Option Addr) (l6 : Nat) (c6 : Nat) (H : Heap) : Prop :=
 Does Pr 19 #[(.slice x5 l5 c5), (.slice x6 l6 c6)] H (fun v31 H32 =>
 ∃ n33 : Int, v31 = (.int .i64 n33) ∧ l09_LangStays_5 Q E x1 l1 c1 x5 l5 c5 x6 l6 c6 n33 H32) E

def l09_LangStays_9_M (Q : Value → Heap → Prop) (E : Chain → Heap → Prop) (τ : Tau) (H : Heap) : Prop := mSl (τ 1) fun x1 l1 c1 => mSl (τ 5) fun x5 l5 c5 => mSl (τ 6) fun x6 l6 c6 => l09_LangStays_9 Q E x1 l1 c1 x5 l5 c5 x6 l6 c6 H

theorem l09_LangStays_10ok (Q : Value → Heap → Prop) (E : Chain → Heap → Prop) (τ : Tau) (H : Heap) (h : l09_LangStays_9_M Q E τ H) : vc Pr l09_LangStays_p10 τ (l09_LangStays_q4 Q E) E H :=
  mSl_elim (i := 1) (G := fun τ => vc Pr l09_LangStays_p10 τ (l09_LangStays_q4 Q E) E H) h (fun x1 l1 c1 h => mSl_elim (i := 5) (G := fun τ => vc Pr l09_LangStays_p10 τ (l09_LangStays_q4 Q E) E H) h (fun x5 l5 c5 h => mSl_elim (i := 6) (G := fun τ => vc Pr l09_LangStays_p10 τ (l09_LangStays_q4 Q E) E H) h (fun x6 l6 c6 h => (conv (B := vc Pr l09_LangStays_p10 (Tau.upd (Tau.upd (Tau.upd τ 1 (.slice x1 l1 c1)) 5 (.slice x5 l5 c5)) 6 (.slice x6 l6 c6)) (l09_LangStays_q4 Q E) E H) (by kernel_rfl) h))))

theorem l09_LangStays_11ok (Q : Value → Heap → Prop) (E : Chain → Heap → Prop) (τ : Tau) (H : Heap) (h : l09_LangStays_9_M Q E τ H) : vc Pr l09_LangStays_p4 τ (l09_LangStays_q1 Q E) E H :=
  (conv (B := vc Pr l09_LangStays_p4 τ (l09_LangStays_q1 Q E) E H) (by kernel_rfl) (vc_seq (K := (l09_LangStays_5_M Q E)) (l09_LangStays_10ok Q E τ H h) (l09_LangStays_8ok Q E)))

@[reducible] noncomputable def l09_LangStays_q5 (Q : Value → Heap → Prop) (E : Chain → Heap → Prop) : Exit → Tau → Heap → Prop := (xthen (l09_LangStays_9_M Q E) (l09_LangStays_q1 Q E))

@[reducible] noncomputable def l09_LangStays_p11 : Code := sA l09_LangStays_p3

def l09_LangStays_12 (Q : Value → Heap → Prop) (E : Chain → Heap → Prop) (x0 : Option Addr) (l0 : Nat) (c0 : Nat) (x1 : Option Addr) (l1 : Nat) (c1 : Nat) (H : Heap) : Prop :=
 Does Pr 18 #[(.slice x0 l0 c0)] H (fun v34 H35 =>
 ∃ (p36 : Option Addr) (l37 c38 : Nat), ∃ (p39 : Option Addr) (l40 c41 : Nat), v34 = (.tuple #[(.slice p36 l37 c38), (.slice p39 l40 c41)]) ∧ l09_LangStays_9 Q E x1 l1 c1 p36 l37 c38 p39 l40 c41 H35) E

def l09_LangStays_12_M (Q : Value → Heap → Prop) (E : Chain → Heap → Prop) (τ : Tau) (H : Heap) : Prop := mSl (τ 0) fun x0 l0 c0 => mSl (τ 1) fun x1 l1 c1 => l09_LangStays_12 Q E x0 l0 c0 x1 l1 c1 H

theorem l09_LangStays_13ok (Q : Value → Heap → Prop) (E : Chain → Heap → Prop) (τ : Tau) (H : Heap) (h : l09_LangStays_12_M Q E τ H) : vc Pr l09_LangStays_p11 τ (l09_LangStays_q5 Q E) E H :=
  mSl_elim (i := 0) (G := fun τ => vc Pr l09_LangStays_p11 τ (l09_LangStays_q5 Q E) E H) h (fun x0 l0 c0 h => mSl_elim (i := 1) (G := fun τ => vc Pr l09_LangStays_p11 τ (l09_LangStays_q5 Q E) E H) h (fun x1 l1 c1 h => (conv (B := vc Pr l09_LangStays_p11 (Tau.upd (Tau.upd τ 0 (.slice x0 l0 c0)) 1 (.slice x1 l1 c1)) (l09_LangStays_q5 Q E) E H) (by kernel_rfl) h)))

theorem l09_LangStays_14ok (Q : Value → Heap → Prop) (E : Chain → Heap → Prop) (τ : Tau) (H : Heap) (h : l09_LangStays_12_M Q E τ H) : vc Pr l09_LangStays_p3 τ (l09_LangStays_q1 Q E) E H :=
  (conv (B := vc Pr l09_LangStays_p3 τ (l09_LangStays_q1 Q E) E H) (by kernel_rfl) (vc_seq (K := (l09_LangStays_9_M Q E)) (l09_LangStays_13ok Q E τ H h) (l09_LangStays_11ok Q E)))

@[reducible] noncomputable def l09_LangStays_q6 (Q : Value → Heap → Prop) (E : Chain → Heap → Prop) : Exit → Tau → Heap → Prop := (xthen (l09_LangStays_12_M Q E) (l09_LangStays_q1 Q E))

@[reducible] noncomputable def l09_LangStays_p12 : Code := sA l09_LangStays_p2

def l09_LangStays_15 (Q : Value → Heap → Prop) (E : Chain → Heap → Prop) (x0 : Option Addr) (l0 : Nat) (c0 : Nat) (x1 : Option Addr) (l1 : Nat) (c1 : Nat) (H : Heap) : Prop :=
 sel (decide ((((l1 : Nat) : Int) : Int) > 10))
 (Q (.bool true) H)
 (l09_LangStays_12 Q E x0 l0 c0 x1 l1 c1 H)

def l09_LangStays_15_M (Q : Value → Heap → Prop) (E : Chain → Heap → Prop) (τ : Tau) (H : Heap) : Prop := mSl (τ 0) fun x0 l0 c0 => mSl (τ 1) fun x1 l1 c1 => l09_LangStays_15 Q E x0 l0 c0 x1 l1 c1 H

theorem l09_LangStays_16ok (Q : Value → Heap → Prop) (E : Chain → Heap → Prop) (τ : Tau) (H : Heap) (h : l09_LangStays_15_M Q E τ H) : vc Pr l09_LangStays_p12 τ (l09_LangStays_q6 Q E) E H :=
  mSl_elim (i := 0) (G := fun τ => vc Pr l09_LangStays_p12 τ (l09_LangStays_q6 Q E) E H) h (fun x0 l0 c0 h => mSl_elim (i := 1) (G := fun τ => vc Pr l09_LangStays_p12 τ (l09_LangStays_q6 Q E) E H) h (fun x1 l1 c1 h => (conv (B := vc Pr l09_LangStays_p12 (Tau.upd (Tau.upd τ 0 (.slice x0 l0 c0)) 1 (.slice x1 l1 c1)) (l09_LangStays_q6 Q E) E H) (by kernel_rfl) h)))

theorem l09_LangStays_17ok (Q : Value → Heap → Prop) (E : Chain → Heap → Prop) (τ : Tau) (H : Heap) (h : l09_LangStays_15_M Q E τ H) : vc Pr l09_LangStays_p2 τ (l09_LangStays_q1 Q E) E H :=
  (conv (B := vc Pr l09_LangStays_p2 τ (l09_LangStays_q1 Q E) E H) (by kernel_rfl) (vc_seq (K := (l09_LangStays_12_M Q E)) (l09_LangStays_16ok Q E τ H h) (l09_LangStays_14ok Q E)))

@[reducible] noncomputable def l09_LangStays_q7 (Q : Value → Heap → Prop) (E : Chain → Heap → Prop) : Exit → Tau → Heap → Prop := (xthen (l09_LangStays_15_M Q E) (l09_LangStays_q1 Q E))

@[reducible] noncomputable def l09_LangStays_p13 : Code := sA l09_LangStays_p1

def l09_LangStays_18 (Q : Value → Heap → Prop) (E : Chain → Heap → Prop) (x0 : Option Addr) (l0 : Nat) (c0 : Nat) (x1 : Option Addr) (l1 : Nat) (c1 : Nat) (H : Heap) : Prop :=
 Does Pr 17 #[] H (fun v42 H43 =>
 ∃ b44 : Bool, v42 = (.bool b44) ∧ sel (!b44)
 (Q (.bool false) H43)
 (l09_LangStays_15 Q E x0 l0 c0 x1 l1 c1 H43)) E

def l09_LangStays_18_M (Q : Value → Heap → Prop) (E : Chain → Heap → Prop) (τ : Tau) (H : Heap) : Prop := mSl (τ 0) fun x0 l0 c0 => mSl (τ 1) fun x1 l1 c1 => l09_LangStays_18 Q E x0 l0 c0 x1 l1 c1 H

theorem l09_LangStays_19ok (Q : Value → Heap → Prop) (E : Chain → Heap → Prop) (τ : Tau) (H : Heap) (h : l09_LangStays_18_M Q E τ H) : vc Pr l09_LangStays_p13 τ (l09_LangStays_q7 Q E) E H :=
  mSl_elim (i := 0) (G := fun τ => vc Pr l09_LangStays_p13 τ (l09_LangStays_q7 Q E) E H) h (fun x0 l0 c0 h => mSl_elim (i := 1) (G := fun τ => vc Pr l09_LangStays_p13 τ (l09_LangStays_q7 Q E) E H) h (fun x1 l1 c1 h => (conv (B := vc Pr l09_LangStays_p13 (Tau.upd (Tau.upd τ 0 (.slice x0 l0 c0)) 1 (.slice x1 l1 c1)) (l09_LangStays_q7 Q E) E H) (by kernel_rfl) h)))

theorem l09_LangStays_20ok (Q : Value → Heap → Prop) (E : Chain → Heap → Prop) (τ : Tau) (H : Heap) (h : l09_LangStays_18_M Q E τ H) : vc Pr l09_LangStays_p1 τ (l09_LangStays_q1 Q E) E H :=
  (conv (B := vc Pr l09_LangStays_p1 τ (l09_LangStays_q1 Q E) E H) (by kernel_rfl) (vc_seq (K := (l09_LangStays_15_M Q E)) (l09_LangStays_19ok Q E τ H h) (l09_LangStays_17ok Q E)))

@[reducible] noncomputable def l09_LangStays_q8 (Q : Value → Heap → Prop) (E : Chain → Heap → Prop) : Exit → Tau → Heap → Prop := (xthen (l09_LangStays_18_M Q E) (l09_LangStays_q1 Q E))

@[reducible] noncomputable def l09_LangStays_p14 : Code := sA l09_LangStays_p0

def l09_LangStays (Q : Value → Heap → Prop) (E : Chain → Heap → Prop) (a0 : Option Addr) (a0l : Nat) (a0c : Nat) (a1 : Option Addr) (a1l : Nat) (a1c : Nat) (H : Heap) : Prop :=
 l09_LangStays_18 Q E a0 a0l a0c a1 a1l a1c H

theorem l09_LangStays_fn (a0 : Option Addr) (a0l : Nat) (a0c : Nat) (a1 : Option Addr) (a1l : Nat) (a1c : Nat) (Q : Value → Heap → Prop) (E : Chain → Heap → Prop) (H : Heap) (h : l09_LangStays Q E a0 a0l a0c a1 a1l a1c H)   : Does Pr 4 #[(.slice a0 a0l a0c), (.slice a1 a1l a1c)] H Q E :=
  Fn_of_vc (fn := Try.f4) (c := l09_LangStays_p0) (args := [(.slice a0 a0l a0c), (.slice a1 a1l a1c)]) mixed (by kernel_rfl) (by kernel_rfl) (by kernel_rfl) (by kernel_rfl) (by kernel_rfl) ((conv (B := vc Pr l09_LangStays_p0 (argT [(.slice a0 a0l a0c), (.slice a1 a1l a1c)]) (l09_LangStays_q1 Q E) E H) (by kernel_rfl) (vc_seq (K := (l09_LangStays_18_M Q E)) (conv (B := vc Pr l09_LangStays_p14 (argT [(.slice a0 a0l a0c), (.slice a1 a1l a1c)]) (l09_LangStays_q8 Q E) E H) (by kernel_rfl) h) (l09_LangStays_20ok Q E))))

/-! jobmux/jobmuxlaw09.LangLines -/
@[reducible] noncomputable def l09_LangLines_q1 (Q : Value → Heap → Prop) (E : Chain → Heap → Prop) : Exit → Tau → Heap → Prop := (retQ Pr (Try.f6).results.toList Q)

@[reducible] noncomputable def l09_LangLines_p0 : Code := bodyOf Try.f6

@[reducible] noncomputable def l09_LangLines_p1 : Code := sB l09_LangLines_p0

@[reducible] noncomputable def l09_LangLines_p2 : Code := sB l09_LangLines_p1

@[reducible] noncomputable def l09_LangLines_p3 : Code := sB l09_LangLines_p2

@[reducible] noncomputable def l09_LangLines_p4 : Code := sB l09_LangLines_p3

@[reducible] noncomputable def l09_LangLines_p5 : Code := sB l09_LangLines_p4

@[reducible] noncomputable def l09_LangLines_p6 : Code := sB l09_LangLines_p5

@[reducible] noncomputable def l09_LangLines_p7 : Code := sB l09_LangLines_p6

@[reducible] noncomputable def l09_LangLines_p8 : Code := sB l09_LangLines_p7

def l09_LangLines_1 (Q : Value → Heap → Prop) (E : Chain → Heap → Prop)  (H : Heap) : Prop :=
 Q (.bool true) H

def l09_LangLines_1_M (Q : Value → Heap → Prop) (E : Chain → Heap → Prop) (τ : Tau) (H : Heap) : Prop := l09_LangLines_1 Q E  H

theorem l09_LangLines_2ok (Q : Value → Heap → Prop) (E : Chain → Heap → Prop) (τ : Tau) (H : Heap) (h : l09_LangLines_1_M Q E τ H) : vc Pr l09_LangLines_p8 τ (l09_LangLines_q1 Q E) E H :=
  (conv (B := vc Pr l09_LangLines_p8 τ (l09_LangLines_q1 Q E) E H) (by kernel_rfl) h)

@[reducible] noncomputable def l09_LangLines_q2 (Q : Value → Heap → Prop) (E : Chain → Heap → Prop) : Exit → Tau → Heap → Prop := (xthen (l09_LangLines_1_M Q E) (l09_LangLines_q1 Q E))

@[reducible] noncomputable def l09_LangLines_p9 : Code := sA l09_LangLines_p7

@[reducible] noncomputable def l09_LangLines_p10 : Code := sB l09_LangLines_p9

@[reducible] noncomputable def l09_LangLines_q3 (Q : Value → Heap → Prop) (E : Chain → Heap → Prop) : Exit → Tau → Heap → Prop := (xblock 0 (l09_LangLines_q2 Q E))

@[reducible] noncomputable def l09_LangLines_p11 : Code := sI l09_LangLines_p10

@[reducible] noncomputable def l09_LangLines_q4 (nx48 : Int → Heap → Prop) (Q : Value → Heap → Prop) (E : Chain → Heap → Prop) : Exit → Tau → Heap → Prop := (xthen (fun τ H => mI .i64 (τ 45) fun x45' => nx48 x45' H) (l09_LangLines_q3 Q E))

@[reducible] noncomputable def l09_LangLines_p12 : Code := sI l09_LangLines_p11

@[reducible] noncomputable def l09_LangLines_p13 : Code := sB l09_LangLines_p12

@[reducible] noncomputable def l09_LangLines_p14 : Code := sB l09_LangLines_p13

@[reducible] noncomputable def l09_LangLines_p15 : Code := sB l09_LangLines_p14

def l09_LangLines_3 (nx48 : Int → Heap → Prop) (Q : Value → Heap → Prop) (E : Chain → Heap → Prop) (x7 : Option Addr) (l7 : Nat) (c7 : Nat) (x8 : Option Addr) (l8 : Nat) (c8 : Nat) (x9 : Option Addr) (l9 : Nat) (c9 : Nat) (x44 : Int) (x45 : Int) (H : Heap) : Prop :=
 nx48 (IntKind.wrap .i64 (x45 + 1)) H

def l09_LangLines_3_M (nx48 : Int → Heap → Prop) (Q : Value → Heap → Prop) (E : Chain → Heap → Prop) (τ : Tau) (H : Heap) : Prop := mSl (τ 7) fun x7 l7 c7 => mSl (τ 8) fun x8 l8 c8 => mSl (τ 9) fun x9 l9 c9 => mI .i64 (τ 44) fun x44 => mI .i64 (τ 45) fun x45 => l09_LangLines_3 nx48 Q E x7 l7 c7 x8 l8 c8 x9 l9 c9 x44 x45 H

theorem l09_LangLines_4ok (nx48 : Int → Heap → Prop) (Q : Value → Heap → Prop) (E : Chain → Heap → Prop) (τ : Tau) (H : Heap) (h : l09_LangLines_3_M nx48 Q E τ H) : vc Pr l09_LangLines_p15 τ (l09_LangLines_q4 nx48 Q E) E H :=
  mSl_elim (i := 7) (G := fun τ => vc Pr l09_LangLines_p15 τ (l09_LangLines_q4 nx48 Q E) E H) h (fun x7 l7 c7 h => mSl_elim (i := 8) (G := fun τ => vc Pr l09_LangLines_p15 τ (l09_LangLines_q4 nx48 Q E) E H) h (fun x8 l8 c8 h => mSl_elim (i := 9) (G := fun τ => vc Pr l09_LangLines_p15 τ (l09_LangLines_q4 nx48 Q E) E H) h (fun x9 l9 c9 h => mI_elim (i := 44) (G := fun τ => vc Pr l09_LangLines_p15 τ (l09_LangLines_q4 nx48 Q E) E H) h (fun x44 h => mI_elim (i := 45) (G := fun τ => vc Pr l09_LangLines_p15 τ (l09_LangLines_q4 nx48 Q E) E H) h (fun x45 h => (conv (B := vc Pr l09_LangLines_p15 (Tau.upd (Tau.upd (Tau.upd (Tau.upd (Tau.upd τ 7 (.slice x7 l7 c7)) 8 (.slice x8 l8 c8)) 9 (.slice x9 l9 c9)) 44 (.int .i64 x44)) 45 (.int .i64 x45)) (l09_LangLines_q4 nx48 Q E) E H) (by kernel_rfl) h))))))

@[reducible] noncomputable def l09_LangLines_q5 (nx48 : Int → Heap → Prop) (Q : Value → Heap → Prop) (E : Chain → Heap → Prop) : Exit → Tau → Heap → Prop := (xthen (l09_LangLines_3_M nx48 Q E) (l09_LangLines_q4 nx48 Q E))

@[reducible] noncomputable def l09_LangLines_p16 : Code := sA l09_LangLines_p14

def l09_LangLines_5 (nx48 : Int → Heap → Prop) (Q : Value → Heap → Prop) (E : Chain → Heap → Prop) (x7 : Option Addr) (l7 : Nat) (c7 : Nat) (x8 : Option Addr) (l8 : Nat) (c8 : Nat) (x9 : Option Addr) (l9 : Nat) (c9 : Nat) (x44 : Int) (x45 : Int) (H : Heap) : Prop :=
 (0 ≤ (x45 : Int) ∧ (x45 : Int) < ((l8 : Nat) : Int)) ∧ ptr x8 fun q53 =>
 ldI .i64 (Addr.add q53 ((x45 : Int).toNat * 1)) H fun n54 =>
 (0 ≤ (x45 : Int) ∧ (x45 : Int) < ((l9 : Nat) : Int)) ∧ ptr x9 fun q55 =>
 ldI .i64 (Addr.add q55 ((x45 : Int).toNat * 1)) H fun n56 =>
 sel (((IntKind.wrap .i64 (n54 + ((l7 : Nat) : Int))) : Int) != n56)
 (Q (.bool false) H)
 (l09_LangLines_3 nx48 Q E x7 l7 c7 x8 l8 c8 x9 l9 c9 x44 x45 H)

def l09_LangLines_5_M (nx48 : Int → Heap → Prop) (Q : Value → Heap → Prop) (E : Chain → Heap → Prop) (τ : Tau) (H : Heap) : Prop := mSl (τ 7) fun x7 l7 c7 => mSl (τ 8) fun x8 l8 c8 => mSl (τ 9) fun x9 l9 c9 => mI .i64 (τ 44) fun x44 => mI .i64 (τ 45) fun x45 => l09_LangLines_5 nx48 Q E x7 l7 c7 x8 l8 c8 x9 l9 c9 x44 x45 H

theorem l09_LangLines_6ok (nx48 : Int → Heap → Prop) (Q : Value → Heap → Prop) (E : Chain → Heap → Prop) (τ : Tau) (H : Heap) (h : l09_LangLines_5_M nx48 Q E τ H) : vc Pr l09_LangLines_p16 τ (l09_LangLines_q5 nx48 Q E) E H :=
  mSl_elim (i := 7) (G := fun τ => vc Pr l09_LangLines_p16 τ (l09_LangLines_q5 nx48 Q E) E H) h (fun x7 l7 c7 h => mSl_elim (i := 8) (G := fun τ => vc Pr l09_LangLines_p16 τ (l09_LangLines_q5 nx48 Q E) E H) h (fun x8 l8 c8 h => mSl_elim (i := 9) (G := fun τ => vc Pr l09_LangLines_p16 τ (l09_LangLines_q5 nx48 Q E) E H) h (fun x9 l9 c9 h => mI_elim (i := 44) (G := fun τ => vc Pr l09_LangLines_p16 τ (l09_LangLines_q5 nx48 Q E) E H) h (fun x44 h => mI_elim (i := 45) (G := fun τ => vc Pr l09_LangLines_p16 τ (l09_LangLines_q5 nx48 Q E) E H) h (fun x45 h => (conv (B := vc Pr l09_LangLines_p16 (Tau.upd (Tau.upd (Tau.upd (Tau.upd (Tau.upd τ 7 (.slice x7 l7 c7)) 8 (.slice x8 l8 c8)) 9 (.slice x9 l9 c9)) 44 (.int .i64 x44)) 45 (.int .i64 x45)) (l09_LangLines_q5 nx48 Q E) E H) (by kernel_rfl) h))))))

theorem l09_LangLines_7ok (nx48 : Int → Heap → Prop) (Q : Value → Heap → Prop) (E : Chain → Heap → Prop) (τ : Tau) (H : Heap) (h : l09_LangLines_5_M nx48 Q E τ H) : vc Pr l09_LangLines_p14 τ (l09_LangLines_q4 nx48 Q E) E H :=
  (conv (B := vc Pr l09_LangLines_p14 τ (l09_LangLines_q4 nx48 Q E) E H) (by kernel_rfl) (vc_seq (K := (l09_LangLines_3_M nx48 Q E)) (l09_LangLines_6ok nx48 Q E τ H h) (l09_LangLines_4ok nx48 Q E)))

@[reducible] noncomputable def l09_LangLines_q6 (nx48 : Int → Heap → Prop) (Q : Value → Heap → Prop) (E : Chain → Heap → Prop) : Exit → Tau → Heap → Prop := (xthen (l09_LangLines_5_M nx48 Q E) (l09_LangLines_q4 nx48 Q E))

@[reducible] noncomputable def l09_LangLines_p17 : Code := sA l09_LangLines_p13

def l09_LangLines_8 (nx48 : Int → Heap → Prop) (Q : Value → Heap → Prop) (E : Chain → Heap → Prop) (x7 : Option Addr) (l7 : Nat) (c7 : Nat) (x8 : Option Addr) (l8 : Nat) (c8 : Nat) (x9 : Option Addr) (l9 : Nat) (c9 : Nat) (x44 : Int) (x45 : Int) (x46 : Bool) (H : Heap) : Prop :=
 sel x46
 (l09_LangLines_5 nx48 Q E x7 l7 c7 x8 l8 c8 x9 l9 c9 x44 x45 H)
 (l09_LangLines_1 Q E  H)

def l09_LangLines_8_M (nx48 : Int → Heap → Prop) (Q : Value → Heap → Prop) (E : Chain → Heap → Prop) (τ : Tau) (H : Heap) : Prop := mSl (τ 7) fun x7 l7 c7 => mSl (τ 8) fun x8 l8 c8 => mSl (τ 9) fun x9 l9 c9 => mI .i64 (τ 44) fun x44 => mI .i64 (τ 45) fun x45 => mB (τ 46) fun x46 => l09_LangLines_8 nx48 Q E x7 l7 c7 x8 l8 c8 x9 l9 c9 x44 x45 x46 H

theorem l09_LangLines_9ok (nx48 : Int → Heap → Prop) (Q : Value → Heap → Prop) (E : Chain → Heap → Prop) (τ : Tau) (H : Heap) (h : l09_LangLines_8_M nx48 Q E τ H) : vc Pr l09_LangLines_p17 τ (l09_LangLines_q6 nx48 Q E) E H :=
  mSl_elim (i := 7) (G := fun τ => vc Pr l09_LangLines_p17 τ (l09_LangLines_q6 nx48 Q E) E H) h (fun x7 l7 c7 h => mSl_elim (i := 8) (G := fun τ => vc Pr l09_LangLines_p17 τ (l09_LangLines_q6 nx48 Q E) E H) h (fun x8 l8 c8 h => mSl_elim (i := 9) (G := fun τ => vc Pr l09_LangLines_p17 τ (l09_LangLines_q6 nx48 Q E) E H) h (fun x9 l9 c9 h => mI_elim (i := 44) (G := fun τ => vc Pr l09_LangLines_p17 τ (l09_LangLines_q6 nx48 Q E) E H) h (fun x44 h => mI_elim (i := 45) (G := fun τ => vc Pr l09_LangLines_p17 τ (l09_LangLines_q6 nx48 Q E) E H) h (fun x45 h => mB_elim (i := 46) (G := fun τ => vc Pr l09_LangLines_p17 τ (l09_LangLines_q6 nx48 Q E) E H) h (fun x46 h => (conv (B := vc Pr l09_LangLines_p17 (Tau.upd (Tau.upd (Tau.upd (Tau.upd (Tau.upd (Tau.upd τ 7 (.slice x7 l7 c7)) 8 (.slice x8 l8 c8)) 9 (.slice x9 l9 c9)) 44 (.int .i64 x44)) 45 (.int .i64 x45)) 46 (.bool x46)) (l09_LangLines_q6 nx48 Q E) E H) (by kernel_rfl) h)))))))

theorem l09_LangLines_10ok (nx48 : Int → Heap → Prop) (Q : Value → Heap → Prop) (E : Chain → Heap → Prop) (τ : Tau) (H : Heap) (h : l09_LangLines_8_M nx48 Q E τ H) : vc Pr l09_LangLines_p13 τ (l09_LangLines_q4 nx48 Q E) E H :=
  (conv (B := vc Pr l09_LangLines_p13 τ (l09_LangLines_q4 nx48 Q E) E H) (by kernel_rfl) (vc_seq (K := (l09_LangLines_5_M nx48 Q E)) (l09_LangLines_9ok nx48 Q E τ H h) (l09_LangLines_7ok nx48 Q E)))

@[reducible] noncomputable def l09_LangLines_q7 (nx48 : Int → Heap → Prop) (Q : Value → Heap → Prop) (E : Chain → Heap → Prop) : Exit → Tau → Heap → Prop := (xthen (l09_LangLines_8_M nx48 Q E) (l09_LangLines_q4 nx48 Q E))

@[reducible] noncomputable def l09_LangLines_p18 : Code := sA l09_LangLines_p12

def l09_LangLines_11 (nx48 : Int → Heap → Prop) (Q : Value → Heap → Prop) (E : Chain → Heap → Prop) (x7 : Option Addr) (l7 : Nat) (c7 : Nat) (x8 : Option Addr) (l8 : Nat) (c8 : Nat) (x9 : Option Addr) (l9 : Nat) (c9 : Nat) (x44 : Int) (x45 : Int) (H : Heap) : Prop :=
 l09_LangLines_8 nx48 Q E x7 l7 c7 x8 l8 c8 x9 l9 c9 x44 x45 (decide ((x45 : Int) < x44)) H

def l09_LangLines_11_M (nx48 : Int → Heap → Prop) (Q : Value → Heap → Prop) (E : Chain → Heap → Prop) (τ : Tau) (H : Heap) : Prop := mSl (τ 7) fun x7 l7 c7 => mSl (τ 8) fun x8 l8 c8 => mSl (τ 9) fun x9 l9 c9 => mI .i64 (τ 44) fun x44 => mI .i64 (τ 45) fun x45 => l09_LangLines_11 nx48 Q E x7 l7 c7 x8 l8 c8 x9 l9 c9 x44 x45 H

theorem l09_LangLines_12ok (nx48 : Int → Heap → Prop) (Q : Value → Heap → Prop) (E : Chain → Heap → Prop) (τ : Tau) (H : Heap) (h : l09_LangLines_11_M nx48 Q E τ H) : vc Pr l09_LangLines_p18 τ (l09_LangLines_q7 nx48 Q E) E H :=
  mSl_elim (i := 7) (G := fun τ => vc Pr l09_LangLines_p18 τ (l09_LangLines_q7 nx48 Q E) E H) h (fun x7 l7 c7 h => mSl_elim (i := 8) (G := fun τ => vc Pr l09_LangLines_p18 τ (l09_LangLines_q7 nx48 Q E) E H) h (fun x8 l8 c8 h => mSl_elim (i := 9) (G := fun τ => vc Pr l09_LangLines_p18 τ (l09_LangLines_q7 nx48 Q E) E H) h (fun x9 l9 c9 h => mI_elim (i := 44) (G := fun τ => vc Pr l09_LangLines_p18 τ (l09_LangLines_q7 nx48 Q E) E H) h (fun x44 h => mI_elim (i := 45) (G := fun τ => vc Pr l09_LangLines_p18 τ (l09_LangLines_q7 nx48 Q E) E H) h (fun x45 h => (conv (B := vc Pr l09_LangLines_p18 (Tau.upd (Tau.upd (Tau.upd (Tau.upd (Tau.upd τ 7 (.slice x7 l7 c7)) 8 (.slice x8 l8 c8)) 9 (.slice x9 l9 c9)) 44 (.int .i64 x44)) 45 (.int .i64 x45)) (l09_LangLines_q7 nx48 Q E) E H) (by kernel_rfl) h))))))

theorem l09_LangLines_13ok (nx48 : Int → Heap → Prop) (Q : Value → Heap → Prop) (E : Chain → Heap → Prop) (τ : Tau) (H : Heap) (h : l09_LangLines_11_M nx48 Q E τ H) : vc Pr l09_LangLines_p12 τ (l09_LangLines_q4 nx48 Q E) E H :=
  (conv (B := vc Pr l09_LangLines_p12 τ (l09_LangLines_q4 nx48 Q E) E H) (by kernel_rfl) (vc_seq (K := (l09_LangLines_8_M nx48 Q E)) (l09_LangLines_12ok nx48 Q E τ H h) (l09_LangLines_10ok nx48 Q E)))

def l09_LangLines_14 (Q : Value → Heap → Prop) (E : Chain → Heap → Prop) (x7 : Option Addr) (l7 : Nat) (c7 : Nat) (x8 : Option Addr) (l8 : Nat) (c8 : Nat) (x9 : Option Addr) (l9 : Nat) (c9 : Nat) (x44 : Int) (x45 : Int) (H : Heap) : Prop :=
 ∃ (I : Int → Heap → Prop) (μ : Int → Heap → Nat), I x45 H ∧ ∀ (x45 : Int) (H : Heap), I x45 H →
 l09_LangLines_11 (fun x45' H1 => I x45' H1 ∧ μ x45' H1 < μ x45 H) Q E x7 l7 c7 x8 l8 c8 x9 l9 c9 x44 x45 H

def l09_LangLines_14_M (Q : Value → Heap → Prop) (E : Chain → Heap → Prop) (τ : Tau) (H : Heap) : Prop := mSl (τ 7) fun x7 l7 c7 => mSl (τ 8) fun x8 l8 c8 => mSl (τ 9) fun x9 l9 c9 => mI .i64 (τ 44) fun x44 => mI .i64 (τ 45) fun x45 => l09_LangLines_14 Q E x7 l7 c7 x8 l8 c8 x9 l9 c9 x44 x45 H

theorem l09_LangLines_15ok (Q : Value → Heap → Prop) (E : Chain → Heap → Prop) (τ : Tau) (H : Heap) (h : l09_LangLines_14_M Q E τ H) : vc Pr l09_LangLines_p11 τ (l09_LangLines_q3 Q E) E H :=
  mSl_elim (i := 7) (G := fun τ => vc Pr l09_LangLines_p11 τ (l09_LangLines_q3 Q E) E H) h (fun x7 l7 c7 h => mSl_elim (i := 8) (G := fun τ => vc Pr l09_LangLines_p11 τ (l09_LangLines_q3 Q E) E H) h (fun x8 l8 c8 h => mSl_elim (i := 9) (G := fun τ => vc Pr l09_LangLines_p11 τ (l09_LangLines_q3 Q E) E H) h (fun x9 l9 c9 h => mI_elim (i := 44) (G := fun τ => vc Pr l09_LangLines_p11 τ (l09_LangLines_q3 Q E) E H) h (fun x44 h => mI_elim (i := 45) (G := fun τ => vc Pr l09_LangLines_p11 τ (l09_LangLines_q3 Q E) E H) h (fun x45 h => match h with | ⟨I, μ, h0, hr⟩ => (conv (B := vc Pr l09_LangLines_p11 (Tau.upd (Tau.upd (Tau.upd (Tau.upd (Tau.upd τ 7 (.slice x7 l7 c7)) 8 (.slice x8 l8 c8)) 9 (.slice x9 l9 c9)) 44 (.int .i64 x44)) 45 (.int .i64 x45)) (l09_LangLines_q3 Q E) E H) (by kernel_rfl) (vc_loop (c := sI l09_LangLines_p11) (τ := (Tau.upd (Tau.upd (Tau.upd (Tau.upd (Tau.upd τ 7 (.slice x7 l7 c7)) 8 (.slice x8 l8 c8)) 9 (.slice x9 l9 c9)) 44 (.int .i64 x44)) 45 (.int .i64 x45))) [7, 8, 9, 44] (fun τ H => mI .i64 (τ 45) fun x45' => I x45' H) (fun τ H => μ (gI (τ 45)) H) (by kernel_rfl) h0 (fun τ1 H1 hf hI => fix_elim (τ := τ1) (i := 7) (v := (.slice x7 l7 c7)) (G := fun τ => vc Pr (sI l09_LangLines_p11) τ (xthen (fun τ2 H2 => (mI .i64 (τ2 45) fun x45' => I x45' H2) ∧ μ (gI (τ2 45)) H2 < μ (gI (τ 45)) H1) (l09_LangLines_q3 Q E)) E H1) (hf 7 (by simp)) (fix_elim (τ := (Tau.upd τ1 7 (.slice x7 l7 c7))) (i := 8) (v := (.slice x8 l8 c8)) (G := fun τ => vc Pr (sI l09_LangLines_p11) τ (xthen (fun τ2 H2 => (mI .i64 (τ2 45) fun x45' => I x45' H2) ∧ μ (gI (τ2 45)) H2 < μ (gI (τ 45)) H1) (l09_LangLines_q3 Q E)) E H1) (hf 8 (by simp)) (fix_elim (τ := (Tau.upd (Tau.upd τ1 7 (.slice x7 l7 c7)) 8 (.slice x8 l8 c8))) (i := 9) (v := (.slice x9 l9 c9)) (G := fun τ => vc Pr (sI l09_LangLines_p11) τ (xthen (fun τ2 H2 => (mI .i64 (τ2 45) fun x45' => I x45' H2) ∧ μ (gI (τ2 45)) H2 < μ (gI (τ 45)) H1) (l09_LangLines_q3 Q E)) E H1) (hf 9 (by simp)) (fix_elim (τ := (Tau.upd (Tau.upd (Tau.upd τ1 7 (.slice x7 l7 c7)) 8 (.slice x8 l8 c8)) 9 (.slice x9 l9 c9))) (i := 44) (v := (.int .i64 x44)) (G := fun τ => vc Pr (sI l09_LangLines_p11) τ (xthen (fun τ2 H2 => (mI .i64 (τ2 45) fun x45' => I x45' H2) ∧ μ (gI (τ2 45)) H2 < μ (gI (τ 45)) H1) (l09_LangLines_q3 Q E)) E H1) (hf 44 (by simp)) (mI_elim (i := 45) (G := fun τ => vc Pr (sI l09_LangLines_p11) τ (xthen (fun τ2 H2 => (mI .i64 (τ2 45) fun x45' => I x45' H2) ∧ μ (gI (τ2 45)) H2 < μ (gI (τ 45)) H1) (l09_LangLines_q3 Q E)) E H1) hI (fun x45r h => (conv (B := vc Pr (sI l09_LangLines_p11) (Tau.upd (Tau.upd (Tau.upd (Tau.upd (Tau.upd τ1 7 (.slice x7 l7 c7)) 8 (.slice x8 l8 c8)) 9 (.slice x9 l9 c9)) 44 (.int .i64 x44)) 45 (.int .i64 x45r)) (xthen (fun τ2 H2 => (mI .i64 (τ2 45) fun x45' => I x45' H2) ∧ μ (gI (τ2 45)) H2 < μ (gI ((Tau.upd (Tau.upd (Tau.upd (Tau.upd (Tau.upd τ1 7 (.slice x7 l7 c7)) 8 (.slice x8 l8 c8)) 9 (.slice x9 l9 c9)) 44 (.int .i64 x44)) 45 (.int .i64 x45r)) 45)) H1) (l09_LangLines_q3 Q E)) E H1) (by kernel_rfl) (vc_xthen (l09_LangLines_13ok (fun x45' H2 => I x45' H2 ∧ μ x45' H2 < μ x45r H1) Q E (Tau.upd (Tau.upd (Tau.upd (Tau.upd (Tau.upd τ1 7 (.slice x7 l7 c7)) 8 (.slice x8 l8 c8)) 9 (.slice x9 l9 c9)) 44 (.int .i64 x44)) 45 (.int .i64 x45r)) H1 (conv (B := l09_LangLines_11_M (fun x45' H2 => I x45' H2 ∧ μ x45' H2 < μ x45r H1) Q E (Tau.upd (Tau.upd (Tau.upd (Tau.upd (Tau.upd τ1 7 (.slice x7 l7 c7)) 8 (.slice x8 l8 c8)) 9 (.slice x9 l9 c9)) 44 (.int .i64 x44)) 45 (.int .i64 x45r)) H1) (by kernel_rfl) (hr x45r H1 h))) (fun τ2 H2 hk => mI_elim (i := 45) (G := fun τ => (mI .i64 (τ 45) fun x45' => I x45' H2) ∧ μ (gI (τ 45)) H2 < μ x45r H1) hk (fun x45' h => h)))))))))))))))))

theorem l09_LangLines_16ok (Q : Value → Heap → Prop) (E : Chain → Heap → Prop) (τ : Tau) (H : Heap) (h : l09_LangLines_14_M Q E τ H) : vc Pr l09_LangLines_p10 τ (l09_LangLines_q2 Q E) E H :=
  (conv (B := vc Pr l09_LangLines_p10 τ (l09_LangLines_q2 Q E) E H) (by kernel_rfl) (l09_LangLines_15ok Q E τ H h))

@[reducible] noncomputable def l09_LangLines_q8 (Q : Value → Heap → Prop) (E : Chain → Heap → Prop) : Exit → Tau → Heap → Prop := (xthen (l09_LangLines_14_M Q E) (l09_LangLines_q2 Q E))

@[reducible] noncomputable def l09_LangLines_p19 : Code := sA l09_LangLines_p9

def l09_LangLines_17 (Q : Value → Heap → Prop) (E : Chain → Heap → Prop) (x7 : Option Addr) (l7 : Nat) (c7 : Nat) (x8 : Option Addr) (l8 : Nat) (c8 : Nat) (x9 : Option Addr) (l9 : Nat) (c9 : Nat) (H : Heap) : Prop :=
 l09_LangLines_14 Q E x7 l7 c7 x8 l8 c8 x9 l9 c9 ((l8 : Nat) : Int) 0 H

def l09_LangLines_17_M (Q : Value → Heap → Prop) (E : Chain → Heap → Prop) (τ : Tau) (H : Heap) : Prop := mSl (τ 7) fun x7 l7 c7 => mSl (τ 8) fun x8 l8 c8 => mSl (τ 9) fun x9 l9 c9 => l09_LangLines_17 Q E x7 l7 c7 x8 l8 c8 x9 l9 c9 H

theorem l09_LangLines_18ok (Q : Value → Heap → Prop) (E : Chain → Heap → Prop) (τ : Tau) (H : Heap) (h : l09_LangLines_17_M Q E τ H) : vc Pr l09_LangLines_p19 τ (l09_LangLines_q8 Q E) E H :=
  mSl_elim (i := 7) (G := fun τ => vc Pr l09_LangLines_p19 τ (l09_LangLines_q8 Q E) E H) h (fun x7 l7 c7 h => mSl_elim (i := 8) (G := fun τ => vc Pr l09_LangLines_p19 τ (l09_LangLines_q8 Q E) E H) h (fun x8 l8 c8 h => mSl_elim (i := 9) (G := fun τ => vc Pr l09_LangLines_p19 τ (l09_LangLines_q8 Q E) E H) h (fun x9 l9 c9 h => (conv (B := vc Pr l09_LangLines_p19 (Tau.upd (Tau.upd (Tau.upd τ 7 (.slice x7 l7 c7)) 8 (.slice x8 l8 c8)) 9 (.slice x9 l9 c9)) (l09_LangLines_q8 Q E) E H) (by kernel_rfl) h))))

theorem l09_LangLines_19ok (Q : Value → Heap → Prop) (E : Chain → Heap → Prop) (τ : Tau) (H : Heap) (h : l09_LangLines_17_M Q E τ H) : vc Pr l09_LangLines_p9 τ (l09_LangLines_q2 Q E) E H :=
  (conv (B := vc Pr l09_LangLines_p9 τ (l09_LangLines_q2 Q E) E H) (by kernel_rfl) (vc_seq (K := (l09_LangLines_14_M Q E)) (l09_LangLines_18ok Q E τ H h) (l09_LangLines_16ok Q E)))

theorem l09_LangLines_20ok (Q : Value → Heap → Prop) (E : Chain → Heap → Prop) (τ : Tau) (H : Heap) (h : l09_LangLines_17_M Q E τ H) : vc Pr l09_LangLines_p7 τ (l09_LangLines_q1 Q E) E H :=
  (conv (B := vc Pr l09_LangLines_p7 τ (l09_LangLines_q1 Q E) E H) (by kernel_rfl) (vc_seq (K := (l09_LangLines_1_M Q E)) (l09_LangLines_19ok Q E τ H h) (l09_LangLines_2ok Q E)))

@[reducible] noncomputable def l09_LangLines_q9 (Q : Value → Heap → Prop) (E : Chain → Heap → Prop) : Exit → Tau → Heap → Prop := (xthen (l09_LangLines_17_M Q E) (l09_LangLines_q1 Q E))

@[reducible] noncomputable def l09_LangLines_p20 : Code := sA l09_LangLines_p6

def l09_LangLines_21 (Q : Value → Heap → Prop) (E : Chain → Heap → Prop) (x7 : Option Addr) (l7 : Nat) (c7 : Nat) (x8 : Option Addr) (l8 : Nat) (c8 : Nat) (x9 : Option Addr) (l9 : Nat) (c9 : Nat) (H : Heap) : Prop :=
 sel ((((l8 : Nat) : Int) : Int) != ((l9 : Nat) : Int))
 (Q (.bool false) H)
 (l09_LangLines_17 Q E x7 l7 c7 x8 l8 c8 x9 l9 c9 H)

def l09_LangLines_21_M (Q : Value → Heap → Prop) (E : Chain → Heap → Prop) (τ : Tau) (H : Heap) : Prop := mSl (τ 7) fun x7 l7 c7 => mSl (τ 8) fun x8 l8 c8 => mSl (τ 9) fun x9 l9 c9 => l09_LangLines_21 Q E x7 l7 c7 x8 l8 c8 x9 l9 c9 H

theorem l09_LangLines_22ok (Q : Value → Heap → Prop) (E : Chain → Heap → Prop) (τ : Tau) (H : Heap) (h : l09_LangLines_21_M Q E τ H) : vc Pr l09_LangLines_p20 τ (l09_LangLines_q9 Q E) E H :=
  mSl_elim (i := 7) (G := fun τ => vc Pr l09_LangLines_p20 τ (l09_LangLines_q9 Q E) E H) h (fun x7 l7 c7 h => mSl_elim (i := 8) (G := fun τ => vc Pr l09_LangLines_p20 τ (l09_LangLines_q9 Q E) E H) h (fun x8 l8 c8 h => mSl_elim (i := 9) (G := fun τ => vc Pr l09_LangLines_p20 τ (l09_LangLines_q9 Q E) E H) h (fun x9 l9 c9 h => (conv (B := vc Pr l09_LangLines_p20 (Tau.upd (Tau.upd (Tau.upd τ 7 (.slice x7 l7 c7)) 8 (.slice x8 l8 c8)) 9 (.slice x9 l9 c9)) (l09_LangLines_q9 Q E) E H) (by kernel_rfl) h))))

theorem l09_LangLines_23ok (Q : Value → Heap → Prop) (E : Chain → Heap → Prop) (τ : Tau) (H : Heap) (h : l09_LangLines_21_M Q E τ H) : vc Pr l09_LangLines_p6 τ (l09_LangLines_q1 Q E) E H :=
  (conv (B := vc Pr l09_LangLines_p6 τ (l09_LangLines_q1 Q E) E H) (by kernel_rfl) (vc_seq (K := (l09_LangLines_17_M Q E)) (l09_LangLines_22ok Q E τ H h) (l09_LangLines_20ok Q E)))

@[reducible] noncomputable def l09_LangLines_q10 (Q : Value → Heap → Prop) (E : Chain → Heap → Prop) : Exit → Tau → Heap → Prop := (xthen (l09_LangLines_21_M Q E) (l09_LangLines_q1 Q E))

@[reducible] noncomputable def l09_LangLines_p21 : Code := sA l09_LangLines_p5

def l09_LangLines_24 (Q : Value → Heap → Prop) (E : Chain → Heap → Prop) (x5 : Option Addr) (l5 : Nat) (c5 : Nat) (x6 : Option Addr) (l6 : Nat) (c6 : Nat) (x7 : Option Addr) (l7 : Nat) (c7 : Nat) (H : Heap) : Prop :=
 Does Pr 24 #[(.slice x5 l5 c5), (.slice x6 l6 c6), (.int .i64 0)] H (fun v57 H58 =>
 ∃ (p59 : Option Addr) (l60 c61 : Nat), v57 = (.slice p59 l60 c61) ∧ nw (.cells #[] 5 (0, 0)) H58 fun i62 H63 =>
 app Pr 24 (some ⟨i62, 0, none⟩) 0 0 (.slice x7 l7 c7) H63 fun p64 l65 c66 H67 =>
 app Pr 24 p64 l65 c66 (.slice x6 l6 c6) H67 fun p68 l69 c70 H71 =>
 Does Pr 24 #[(.slice x5 l5 c5), (.slice p68 l69 c70), (.int .i64 ((l7 : Nat) : Int))] H71 (fun v72 H73 =>
 ∃ (p74 : Option Addr) (l75 c76 : Nat), v72 = (.slice p74 l75 c76) ∧ l09_LangLines_21 Q E x7 l7 c7 p59 l60 c61 p74 l75 c76 H73) E) E

def l09_LangLines_24_M (Q : Value → Heap → Prop) (E : Chain → Heap → Prop) (τ : Tau) (H : Heap) : Prop := mSl (τ 5) fun x5 l5 c5 => mSl (τ 6) fun x6 l6 c6 => mSl (τ 7) fun x7 l7 c7 => l09_LangLines_24 Q E x5 l5 c5 x6 l6 c6 x7 l7 c7 H

theorem l09_LangLines_25ok (Q : Value → Heap → Prop) (E : Chain → Heap → Prop) (τ : Tau) (H : Heap) (h : l09_LangLines_24_M Q E τ H) : vc Pr l09_LangLines_p21 τ (l09_LangLines_q10 Q E) E H :=
  mSl_elim (i := 5) (G := fun τ => vc Pr l09_LangLines_p21 τ (l09_LangLines_q10 Q E) E H) h (fun x5 l5 c5 h => mSl_elim (i := 6) (G := fun τ => vc Pr l09_LangLines_p21 τ (l09_LangLines_q10 Q E) E H) h (fun x6 l6 c6 h => mSl_elim (i := 7) (G := fun τ => vc Pr l09_LangLines_p21 τ (l09_LangLines_q10 Q E) E H) h (fun x7 l7 c7 h => (conv (B := vc Pr l09_LangLines_p21 (Tau.upd (Tau.upd (Tau.upd τ 5 (.slice x5 l5 c5)) 6 (.slice x6 l6 c6)) 7 (.slice x7 l7 c7)) (l09_LangLines_q10 Q E) E H) (by kernel_rfl) h))))

theorem l09_LangLines_26ok (Q : Value → Heap → Prop) (E : Chain → Heap → Prop) (τ : Tau) (H : Heap) (h : l09_LangLines_24_M Q E τ H) : vc Pr l09_LangLines_p5 τ (l09_LangLines_q1 Q E) E H :=
  (conv (B := vc Pr l09_LangLines_p5 τ (l09_LangLines_q1 Q E) E H) (by kernel_rfl) (vc_seq (K := (l09_LangLines_21_M Q E)) (l09_LangLines_25ok Q E τ H h) (l09_LangLines_23ok Q E)))

@[reducible] noncomputable def l09_LangLines_q11 (Q : Value → Heap → Prop) (E : Chain → Heap → Prop) : Exit → Tau → Heap → Prop := (xthen (l09_LangLines_24_M Q E) (l09_LangLines_q1 Q E))

@[reducible] noncomputable def l09_LangLines_p22 : Code := sA l09_LangLines_p4

def l09_LangLines_27 (Q : Value → Heap → Prop) (E : Chain → Heap → Prop) (x1 : Option Addr) (l1 : Nat) (c1 : Nat) (x5 : Option Addr) (l5 : Nat) (c5 : Nat) (x6 : Option Addr) (l6 : Nat) (c6 : Nat) (H : Heap) : Prop :=
 nw (.cells #[] 5 (0, 0)) H fun i77 H78 =>
 app Pr 24 (some ⟨i77, 0, none⟩) 0 0 (.slice x1 l1 c1) H78 fun p79 l80 c81 H82 =>
 nw (.cells #[(.int .u8 10)] 5 (0, 0)) H82 fun i83 H84 =>
 app Pr 24 p79 l80 c81 (.slice (some ⟨i83, 0, none⟩) 1 1) H84 fun p85 l86 c87 H88 =>
 l09_LangLines_24 Q E x5 l5 c5 x6 l6 c6 p85 l86 c87 H88

def l09_LangLines_27_M (Q : Value → Heap → Prop) (E : Chain → Heap → Prop) (τ : Tau) (H : Heap) : Prop := mSl (τ 1) fun x1 l1 c1 => mSl (τ 5) fun x5 l5 c5 => mSl (τ 6) fun x6 l6 c6 => l09_LangLines_27 Q E x1 l1 c1 x5 l5 c5 x6 l6 c6 H

theorem l09_LangLines_28ok (Q : Value → Heap → Prop) (E : Chain → Heap → Prop) (τ : Tau) (H : Heap) (h : l09_LangLines_27_M Q E τ H) : vc Pr l09_LangLines_p22 τ (l09_LangLines_q11 Q E) E H :=
  mSl_elim (i := 1) (G := fun τ => vc Pr l09_LangLines_p22 τ (l09_LangLines_q11 Q E) E H) h (fun x1 l1 c1 h => mSl_elim (i := 5) (G := fun τ => vc Pr l09_LangLines_p22 τ (l09_LangLines_q11 Q E) E H) h (fun x5 l5 c5 h => mSl_elim (i := 6) (G := fun τ => vc Pr l09_LangLines_p22 τ (l09_LangLines_q11 Q E) E H) h (fun x6 l6 c6 h => (conv (B := vc Pr l09_LangLines_p22 (Tau.upd (Tau.upd (Tau.upd τ 1 (.slice x1 l1 c1)) 5 (.slice x5 l5 c5)) 6 (.slice x6 l6 c6)) (l09_LangLines_q11 Q E) E H) (by kernel_rfl) h))))

theorem l09_LangLines_29ok (Q : Value → Heap → Prop) (E : Chain → Heap → Prop) (τ : Tau) (H : Heap) (h : l09_LangLines_27_M Q E τ H) : vc Pr l09_LangLines_p4 τ (l09_LangLines_q1 Q E) E H :=
  (conv (B := vc Pr l09_LangLines_p4 τ (l09_LangLines_q1 Q E) E H) (by kernel_rfl) (vc_seq (K := (l09_LangLines_24_M Q E)) (l09_LangLines_28ok Q E τ H h) (l09_LangLines_26ok Q E)))

@[reducible] noncomputable def l09_LangLines_q12 (Q : Value → Heap → Prop) (E : Chain → Heap → Prop) : Exit → Tau → Heap → Prop := (xthen (l09_LangLines_27_M Q E) (l09_LangLines_q1 Q E))

@[reducible] noncomputable def l09_LangLines_p23 : Code := sA l09_LangLines_p3

def l09_LangLines_30 (Q : Value → Heap → Prop) (E : Chain → Heap → Prop) (x0 : Option Addr) (l0 : Nat) (c0 : Nat) (x1 : Option Addr) (l1 : Nat) (c1 : Nat) (H : Heap) : Prop :=
 Does Pr 18 #[(.slice x0 l0 c0)] H (fun v89 H90 =>
 ∃ (p91 : Option Addr) (l92 c93 : Nat), ∃ (p94 : Option Addr) (l95 c96 : Nat), v89 = (.tuple #[(.slice p91 l92 c93), (.slice p94 l95 c96)]) ∧ l09_LangLines_27 Q E x1 l1 c1 p91 l92 c93 p94 l95 c96 H90) E

def l09_LangLines_30_M (Q : Value → Heap → Prop) (E : Chain → Heap → Prop) (τ : Tau) (H : Heap) : Prop := mSl (τ 0) fun x0 l0 c0 => mSl (τ 1) fun x1 l1 c1 => l09_LangLines_30 Q E x0 l0 c0 x1 l1 c1 H

theorem l09_LangLines_31ok (Q : Value → Heap → Prop) (E : Chain → Heap → Prop) (τ : Tau) (H : Heap) (h : l09_LangLines_30_M Q E τ H) : vc Pr l09_LangLines_p23 τ (l09_LangLines_q12 Q E) E H :=
  mSl_elim (i := 0) (G := fun τ => vc Pr l09_LangLines_p23 τ (l09_LangLines_q12 Q E) E H) h (fun x0 l0 c0 h => mSl_elim (i := 1) (G := fun τ => vc Pr l09_LangLines_p23 τ (l09_LangLines_q12 Q E) E H) h (fun x1 l1 c1 h => (conv (B := vc Pr l09_LangLines_p23 (Tau.upd (Tau.upd τ 0 (.slice x0 l0 c0)) 1 (.slice x1 l1 c1)) (l09_LangLines_q12 Q E) E H) (by kernel_rfl) h)))

theorem l09_LangLines_32ok (Q : Value → Heap → Prop) (E : Chain → Heap → Prop) (τ : Tau) (H : Heap) (h : l09_LangLines_30_M Q E τ H) : vc Pr l09_LangLines_p3 τ (l09_LangLines_q1 Q E) E H :=
  (conv (B := vc Pr l09_LangLines_p3 τ (l09_LangLines_q1 Q E) E H) (by kernel_rfl) (vc_seq (K := (l09_LangLines_27_M Q E)) (l09_LangLines_31ok Q E τ H h) (l09_LangLines_29ok Q E)))

@[reducible] noncomputable def l09_LangLines_q13 (Q : Value → Heap → Prop) (E : Chain → Heap → Prop) : Exit → Tau → Heap → Prop := (xthen (l09_LangLines_30_M Q E) (l09_LangLines_q1 Q E))

@[reducible] noncomputable def l09_LangLines_p24 : Code := sA l09_LangLines_p2

def l09_LangLines_33 (Q : Value → Heap → Prop) (E : Chain → Heap → Prop) (x0 : Option Addr) (l0 : Nat) (c0 : Nat) (x1 : Option Addr) (l1 : Nat) (c1 : Nat) (H : Heap) : Prop :=
 sel (decide ((((l1 : Nat) : Int) : Int) > 8))
 (Q (.bool true) H)
 (l09_LangLines_30 Q E x0 l0 c0 x1 l1 c1 H)

def l09_LangLines_33_M (Q : Value → Heap → Prop) (E : Chain → Heap → Prop) (τ : Tau) (H : Heap) : Prop := mSl (τ 0) fun x0 l0 c0 => mSl (τ 1) fun x1 l1 c1 => l09_LangLines_33 Q E x0 l0 c0 x1 l1 c1 H

theorem l09_LangLines_34ok (Q : Value → Heap → Prop) (E : Chain → Heap → Prop) (τ : Tau) (H : Heap) (h : l09_LangLines_33_M Q E τ H) : vc Pr l09_LangLines_p24 τ (l09_LangLines_q13 Q E) E H :=
  mSl_elim (i := 0) (G := fun τ => vc Pr l09_LangLines_p24 τ (l09_LangLines_q13 Q E) E H) h (fun x0 l0 c0 h => mSl_elim (i := 1) (G := fun τ => vc Pr l09_LangLines_p24 τ (l09_LangLines_q13 Q E) E H) h (fun x1 l1 c1 h => (conv (B := vc Pr l09_LangLines_p24 (Tau.upd (Tau.upd τ 0 (.slice x0 l0 c0)) 1 (.slice x1 l1 c1)) (l09_LangLines_q13 Q E) E H) (by kernel_rfl) h)))

theorem l09_LangLines_35ok (Q : Value → Heap → Prop) (E : Chain → Heap → Prop) (τ : Tau) (H : Heap) (h : l09_LangLines_33_M Q E τ H) : vc Pr l09_LangLines_p2 τ (l09_LangLines_q1 Q E) E H :=
  (conv (B := vc Pr l09_LangLines_p2 τ (l09_LangLines_q1 Q E) E H) (by kernel_rfl) (vc_seq (K := (l09_LangLines_30_M Q E)) (l09_LangLines_34ok Q E τ H h) (l09_LangLines_32ok Q E)))

@[reducible] noncomputable def l09_LangLines_q14 (Q : Value → Heap → Prop) (E : Chain → Heap → Prop) : Exit → Tau → Heap → Prop := (xthen (l09_LangLines_33_M Q E) (l09_LangLines_q1 Q E))

@[reducible] noncomputable def l09_LangLines_p25 : Code := sA l09_LangLines_p1

def l09_LangLines_36 (Q : Value → Heap → Prop) (E : Chain → Heap → Prop) (x0 : Option Addr) (l0 : Nat) (c0 : Nat) (x1 : Option Addr) (l1 : Nat) (c1 : Nat) (H : Heap) : Prop :=
 Does Pr 17 #[] H (fun v97 H98 =>
 ∃ b99 : Bool, v97 = (.bool b99) ∧ sel (!b99)
 (Q (.bool false) H98)
 (l09_LangLines_33 Q E x0 l0 c0 x1 l1 c1 H98)) E

def l09_LangLines_36_M (Q : Value → Heap → Prop) (E : Chain → Heap → Prop) (τ : Tau) (H : Heap) : Prop := mSl (τ 0) fun x0 l0 c0 => mSl (τ 1) fun x1 l1 c1 => l09_LangLines_36 Q E x0 l0 c0 x1 l1 c1 H

theorem l09_LangLines_37ok (Q : Value → Heap → Prop) (E : Chain → Heap → Prop) (τ : Tau) (H : Heap) (h : l09_LangLines_36_M Q E τ H) : vc Pr l09_LangLines_p25 τ (l09_LangLines_q14 Q E) E H :=
  mSl_elim (i := 0) (G := fun τ => vc Pr l09_LangLines_p25 τ (l09_LangLines_q14 Q E) E H) h (fun x0 l0 c0 h => mSl_elim (i := 1) (G := fun τ => vc Pr l09_LangLines_p25 τ (l09_LangLines_q14 Q E) E H) h (fun x1 l1 c1 h => (conv (B := vc Pr l09_LangLines_p25 (Tau.upd (Tau.upd τ 0 (.slice x0 l0 c0)) 1 (.slice x1 l1 c1)) (l09_LangLines_q14 Q E) E H) (by kernel_rfl) h)))

theorem l09_LangLines_38ok (Q : Value → Heap → Prop) (E : Chain → Heap → Prop) (τ : Tau) (H : Heap) (h : l09_LangLines_36_M Q E τ H) : vc Pr l09_LangLines_p1 τ (l09_LangLines_q1 Q E) E H :=
  (conv (B := vc Pr l09_LangLines_p1 τ (l09_LangLines_q1 Q E) E H) (by kernel_rfl) (vc_seq (K := (l09_LangLines_33_M Q E)) (l09_LangLines_37ok Q E τ H h) (l09_LangLines_35ok Q E)))

@[reducible] noncomputable def l09_LangLines_q15 (Q : Value → Heap → Prop) (E : Chain → Heap → Prop) : Exit → Tau → Heap → Prop := (xthen (l09_LangLines_36_M Q E) (l09_LangLines_q1 Q E))

@[reducible] noncomputable def l09_LangLines_p26 : Code := sA l09_LangLines_p0

def l09_LangLines (Q : Value → Heap → Prop) (E : Chain → Heap → Prop) (a0 : Option Addr) (a0l : Nat) (a0c : Nat) (a1 : Option Addr) (a1l : Nat) (a1c : Nat) (H : Heap) : Prop :=
 l09_LangLines_36 Q E a0 a0l a0c a1 a1l a1c H

theorem l09_LangLines_fn (a0 : Option Addr) (a0l : Nat) (a0c : Nat) (a1 : Option Addr) (a1l : Nat) (a1c : Nat) (Q : Value → Heap → Prop) (E : Chain → Heap → Prop) (H : Heap) (h : l09_LangLines Q E a0 a0l a0c a1 a1l a1c H)   : Does Pr 6 #[(.slice a0 a0l a0c), (.slice a1 a1l a1c)] H Q E :=
  Fn_of_vc (fn := Try.f6) (c := l09_LangLines_p0) (args := [(.slice a0 a0l a0c), (.slice a1 a1l a1c)]) mixed (by kernel_rfl) (by kernel_rfl) (by kernel_rfl) (by kernel_rfl) (by kernel_rfl) ((conv (B := vc Pr l09_LangLines_p0 (argT [(.slice a0 a0l a0c), (.slice a1 a1l a1c)]) (l09_LangLines_q1 Q E) E H) (by kernel_rfl) (vc_seq (K := (l09_LangLines_36_M Q E)) (conv (B := vc Pr l09_LangLines_p26 (argT [(.slice a0 a0l a0c), (.slice a1 a1l a1c)]) (l09_LangLines_q15 Q E) E H) (by kernel_rfl) h) (l09_LangLines_38ok Q E))))

/-! jobmux/jobmuxlaw09.sane -/
@[reducible] noncomputable def l09_sane_q1 (Q : Value → Heap → Prop) (E : Chain → Heap → Prop) : Exit → Tau → Heap → Prop := (retQ Pr (Try.f17).results.toList Q)

@[reducible] noncomputable def l09_sane_p0 : Code := bodyOf Try.f17

def l09_sane (Q : Value → Heap → Prop) (E : Chain → Heap → Prop)  (H : Heap) : Prop :=
 Does Pr 23 #[(.string ⟨[97, 42, 98].toArray⟩)] H (fun v1 H2 =>
 ∃ (p3 : Option Addr) (l4 c5 : Nat), ∃ n6 : Int, v1 = (.tuple #[(.slice p3 l4 c5), (.int .i64 n6)]) ∧ Does Pr 23 #[(.string ⟨[36].toArray⟩)] H2 (fun v7 H8 =>
 ∃ (p9 : Option Addr) (l10 c11 : Nat), ∃ n12 : Int, v7 = (.tuple #[(.slice p9 l10 c11), (.int .i64 n12)]) ∧ nw (.cells #[(.int .u8 97), (.int .u8 97), (.int .u8 98)] 5 (0, 0)) H8 fun i13 H14 =>
 ∃ (cs15 : Array Value) (t16 : TypeId), H14 i13 = some (.cells cs15 t16 (0, 0)) ∧ (fun H17 =>
 Does Pr 24 #[(.slice p3 l4 c5), (.slice (some ⟨i13, 0, none⟩) 3 3), (.int .i64 0)] H17 (fun v18 H19 =>
 ∃ (p20 : Option Addr) (l21 c22 : Nat), v18 = (.slice p20 l21 c22) ∧ nw (.cells #[(.int .i64 3)] 3 (0, 0)) H19 fun i23 H24 =>
 Does Pr 26 #[(.slice p20 l21 c22), (.slice (some ⟨i23, 0, none⟩) 1 1)] H24 (fun v25 H26 =>
 ∃ b27 : Bool, v25 = (.bool b27) ∧ sel b27
 (nw (.cells #[(.int .u8 97), (.int .u8 97), (.int .u8 98)] 5 (0, 0)) H26 fun i28 H29 =>
 ∃ (cs30 : Array Value) (t31 : TypeId), H29 i28 = some (.cells cs30 t31 (0, 0)) ∧ (fun H32 =>
 Does Pr 19 #[(.slice p3 l4 c5), (.slice (some ⟨i28, 0, none⟩) 3 3)] H32 (fun v33 H34 =>
 ∃ n35 : Int, v33 = (.int .i64 n35) ∧ sel ((n35 : Int) == 3)
 (nw (.cells #[(.int .u8 120), (.int .u8 10)] 5 (0, 0)) H34 fun i36 H37 =>
 ∃ (cs38 : Array Value) (t39 : TypeId), H37 i36 = some (.cells cs38 t39 (0, 0)) ∧ (fun H40 =>
 Does Pr 19 #[(.slice p9 l10 c11), (.slice (some ⟨i36, 0, none⟩) 2 2)] H40 (fun v41 H42 =>
 ∃ n43 : Int, v41 = (.int .i64 n43) ∧ Q (.bool ((n43 : Int) == 2)) H42) E) (Heap.set H37 i36 (.cells cs38 t39 (cs38.size, cs38.size + 1))))
 (Q (.bool false) H34)) E) (Heap.set H29 i28 (.cells cs30 t31 (cs30.size, cs30.size + 1))))
 (Q (.bool false) H26)) E) E) (Heap.set H14 i13 (.cells cs15 t16 (cs15.size, cs15.size + 1)))) E) E

theorem l09_sane_fn  (Q : Value → Heap → Prop) (E : Chain → Heap → Prop) (H : Heap) (h : l09_sane Q E  H)   : Does Pr 17 #[] H Q E :=
  Fn_of_vc (fn := Try.f17) (c := l09_sane_p0) (args := []) mixed (by kernel_rfl) (by kernel_rfl) (by kernel_rfl) (by kernel_rfl) (by kernel_rfl) ((conv (B := vc Pr l09_sane_p0 (argT []) (l09_sane_q1 Q E) E H) (by kernel_rfl) h))

/-! jobmux/jobmuxlaw09.pattern -/
@[reducible] noncomputable def l09_pattern_q1 (Q : Value → Heap → Prop) (E : Chain → Heap → Prop) : Exit → Tau → Heap → Prop := (retQ Pr (Try.f18).results.toList Q)

@[reducible] noncomputable def l09_pattern_p0 : Code := bodyOf Try.f18

@[reducible] noncomputable def l09_pattern_p1 : Code := sB l09_pattern_p0

@[reducible] noncomputable def l09_pattern_p2 : Code := sB l09_pattern_p1

@[reducible] noncomputable def l09_pattern_p3 : Code := sB l09_pattern_p2

@[reducible] noncomputable def l09_pattern_p4 : Code := sB l09_pattern_p3

@[reducible] noncomputable def l09_pattern_p5 : Code := sB l09_pattern_p4

@[reducible] noncomputable def l09_pattern_p6 : Code := sB l09_pattern_p5

@[reducible] noncomputable def l09_pattern_p7 : Code := sB l09_pattern_p6

def l09_pattern_1 (Q : Value → Heap → Prop) (E : Chain → Heap → Prop) (x6 : Option Addr) (l6 : Nat) (c6 : Nat) (x9 : Option Addr) (l9 : Nat) (c9 : Nat) (H : Heap) : Prop :=
 Q (.tuple #[(.slice x9 l9 c9), (.slice x6 l6 c6)]) H

def l09_pattern_1_M (Q : Value → Heap → Prop) (E : Chain → Heap → Prop) (τ : Tau) (H : Heap) : Prop := mSl (τ 6) fun x6 l6 c6 => mSl (τ 9) fun x9 l9 c9 => l09_pattern_1 Q E x6 l6 c6 x9 l9 c9 H

theorem l09_pattern_2ok (Q : Value → Heap → Prop) (E : Chain → Heap → Prop) (τ : Tau) (H : Heap) (h : l09_pattern_1_M Q E τ H) : vc Pr l09_pattern_p7 τ (l09_pattern_q1 Q E) E H :=
  mSl_elim (i := 6) (G := fun τ => vc Pr l09_pattern_p7 τ (l09_pattern_q1 Q E) E H) h (fun x6 l6 c6 h => mSl_elim (i := 9) (G := fun τ => vc Pr l09_pattern_p7 τ (l09_pattern_q1 Q E) E H) h (fun x9 l9 c9 h => (conv (B := vc Pr l09_pattern_p7 (Tau.upd (Tau.upd τ 6 (.slice x6 l6 c6)) 9 (.slice x9 l9 c9)) (l09_pattern_q1 Q E) E H) (by kernel_rfl) h)))

@[reducible] noncomputable def l09_pattern_q2 (Q : Value → Heap → Prop) (E : Chain → Heap → Prop) : Exit → Tau → Heap → Prop := (xthen (l09_pattern_1_M Q E) (l09_pattern_q1 Q E))

@[reducible] noncomputable def l09_pattern_p8 : Code := sA l09_pattern_p6

def l09_pattern_3 (Q : Value → Heap → Prop) (E : Chain → Heap → Prop) (x4 : Option Addr) (x6 : Option Addr) (l6 : Nat) (c6 : Nat) (x9 : Option Addr) (l9 : Nat) (c9 : Nat) (x10 : Int) (H : Heap) : Prop :=
 sel ((x10 : Int) != 0)
 (Does Pr 21 #[] H (fun v51 H52 =>
 ∃ (p53 : Option Addr) (l54 c55 : Nat), v51 = (.slice p53 l54 c55) ∧ Does Pr 49 #[(.pointer x4), (.int .i64 7)] H52 (fun v56 H57 =>
 ∃ n58 : Int, v56 = (.int .i64 n58) ∧ (0 ≤ (n58 : Int) ∧ (n58 : Int) < ((l54 : Nat) : Int)) ∧ ptr p53 fun q59 =>
 ldS (Addr.add q59 ((n58 : Int).toNat * 1)) H57 fun s60 =>
 Does Pr 23 #[(.string s60)] H57 (fun v61 H62 =>
 ∃ (p63 : Option Addr) (l64 c65 : Nat), ∃ n66 : Int, v61 = (.tuple #[(.slice p63 l64 c65), (.int .i64 n66)]) ∧ l09_pattern_1 Q E x6 l6 c6 p63 l64 c65 H62) E) E) E)
 (l09_pattern_1 Q E x6 l6 c6 x9 l9 c9 H)

def l09_pattern_3_M (Q : Value → Heap → Prop) (E : Chain → Heap → Prop) (τ : Tau) (H : Heap) : Prop := mP (τ 4) fun x4 => mSl (τ 6) fun x6 l6 c6 => mSl (τ 9) fun x9 l9 c9 => mI .i64 (τ 10) fun x10 => l09_pattern_3 Q E x4 x6 l6 c6 x9 l9 c9 x10 H

theorem l09_pattern_4ok (Q : Value → Heap → Prop) (E : Chain → Heap → Prop) (τ : Tau) (H : Heap) (h : l09_pattern_3_M Q E τ H) : vc Pr l09_pattern_p8 τ (l09_pattern_q2 Q E) E H :=
  mP_elim (i := 4) (G := fun τ => vc Pr l09_pattern_p8 τ (l09_pattern_q2 Q E) E H) h (fun x4 h => mSl_elim (i := 6) (G := fun τ => vc Pr l09_pattern_p8 τ (l09_pattern_q2 Q E) E H) h (fun x6 l6 c6 h => mSl_elim (i := 9) (G := fun τ => vc Pr l09_pattern_p8 τ (l09_pattern_q2 Q E) E H) h (fun x9 l9 c9 h => mI_elim (i := 10) (G := fun τ => vc Pr l09_pattern_p8 τ (l09_pattern_q2 Q E) E H) h (fun x10 h => (conv (B := vc Pr l09_pattern_p8 (Tau.upd (Tau.upd (Tau.upd (Tau.upd τ 4 (.pointer x4)) 6 (.slice x6 l6 c6)) 9 (.slice x9 l9 c9)) 10 (.int .i64 x10)) (l09_pattern_q2 Q E) E H) (by kernel_rfl) h)))))

theorem l09_pattern_5ok (Q : Value → Heap → Prop) (E : Chain → Heap → Prop) (τ : Tau) (H : Heap) (h : l09_pattern_3_M Q E τ H) : vc Pr l09_pattern_p6 τ (l09_pattern_q1 Q E) E H :=
  (conv (B := vc Pr l09_pattern_p6 τ (l09_pattern_q1 Q E) E H) (by kernel_rfl) (vc_seq (K := (l09_pattern_1_M Q E)) (l09_pattern_4ok Q E τ H h) (l09_pattern_2ok Q E)))

@[reducible] noncomputable def l09_pattern_q3 (Q : Value → Heap → Prop) (E : Chain → Heap → Prop) : Exit → Tau → Heap → Prop := (xthen (l09_pattern_3_M Q E) (l09_pattern_q1 Q E))

@[reducible] noncomputable def l09_pattern_p9 : Code := sA l09_pattern_p5

def l09_pattern_6 (Q : Value → Heap → Prop) (E : Chain → Heap → Prop) (x4 : Option Addr) (x5 : Option Addr) (l5 : Nat) (c5 : Nat) (x6 : Option Addr) (l6 : Nat) (c6 : Nat) (H : Heap) : Prop :=
 ∃ bs67 : List UInt8, bs67.length = l5 ∧ Heap.rdS H x5 (bs67.map byteV) ∧ Does Pr 23 #[(.string (⟨bs67.toArray⟩ : ByteArray))] H (fun v68 H69 =>
 ∃ (p70 : Option Addr) (l71 c72 : Nat), ∃ n73 : Int, v68 = (.tuple #[(.slice p70 l71 c72), (.int .i64 n73)]) ∧ l09_pattern_3 Q E x4 x6 l6 c6 p70 l71 c72 n73 H69) E

def l09_pattern_6_M (Q : Value → Heap → Prop) (E : Chain → Heap → Prop) (τ : Tau) (H : Heap) : Prop := mP (τ 4) fun x4 => mSl (τ 5) fun x5 l5 c5 => mSl (τ 6) fun x6 l6 c6 => l09_pattern_6 Q E x4 x5 l5 c5 x6 l6 c6 H

theorem l09_pattern_7ok (Q : Value → Heap → Prop) (E : Chain → Heap → Prop) (τ : Tau) (H : Heap) (h : l09_pattern_6_M Q E τ H) : vc Pr l09_pattern_p9 τ (l09_pattern_q3 Q E) E H :=
  mP_elim (i := 4) (G := fun τ => vc Pr l09_pattern_p9 τ (l09_pattern_q3 Q E) E H) h (fun x4 h => mSl_elim (i := 5) (G := fun τ => vc Pr l09_pattern_p9 τ (l09_pattern_q3 Q E) E H) h (fun x5 l5 c5 h => mSl_elim (i := 6) (G := fun τ => vc Pr l09_pattern_p9 τ (l09_pattern_q3 Q E) E H) h (fun x6 l6 c6 h => (conv (B := vc Pr l09_pattern_p9 (Tau.upd (Tau.upd (Tau.upd τ 4 (.pointer x4)) 5 (.slice x5 l5 c5)) 6 (.slice x6 l6 c6)) (l09_pattern_q3 Q E) E H) (by kernel_rfl) h))))

theorem l09_pattern_8ok (Q : Value → Heap → Prop) (E : Chain → Heap → Prop) (τ : Tau) (H : Heap) (h : l09_pattern_6_M Q E τ H) : vc Pr l09_pattern_p5 τ (l09_pattern_q1 Q E) E H :=
  (conv (B := vc Pr l09_pattern_p5 τ (l09_pattern_q1 Q E) E H) (by kernel_rfl) (vc_seq (K := (l09_pattern_3_M Q E)) (l09_pattern_7ok Q E τ H h) (l09_pattern_5ok Q E)))

@[reducible] noncomputable def l09_pattern_q4 (Q : Value → Heap → Prop) (E : Chain → Heap → Prop) : Exit → Tau → Heap → Prop := (xthen (l09_pattern_6_M Q E) (l09_pattern_q1 Q E))

@[reducible] noncomputable def l09_pattern_p10 : Code := sA l09_pattern_p4

@[reducible] noncomputable def l09_pattern_p11 : Code := sB l09_pattern_p10

@[reducible] noncomputable def l09_pattern_q5 (Q : Value → Heap → Prop) (E : Chain → Heap → Prop) : Exit → Tau → Heap → Prop := (xblock 2 (l09_pattern_q4 Q E))

@[reducible] noncomputable def l09_pattern_p12 : Code := sI l09_pattern_p11

@[reducible] noncomputable def l09_pattern_q6 (nx77 : Option Addr → Nat → Nat → Int → Heap → Prop) (Q : Value → Heap → Prop) (E : Chain → Heap → Prop) : Exit → Tau → Heap → Prop := (xthen (fun τ H => mSl (τ 6) fun x6' l6' c6' => mI .i64 (τ 8) fun x8' => nx77 x6' l6' c6' x8' H) (l09_pattern_q5 Q E))

@[reducible] noncomputable def l09_pattern_p13 : Code := sI l09_pattern_p12

@[reducible] noncomputable def l09_pattern_p14 : Code := sB l09_pattern_p13

def l09_pattern_9 (nx77 : Option Addr → Nat → Nat → Int → Heap → Prop) (Q : Value → Heap → Prop) (E : Chain → Heap → Prop) (x4 : Option Addr) (x5 : Option Addr) (l5 : Nat) (c5 : Nat) (x6 : Option Addr) (l6 : Nat) (c6 : Nat) (x8 : Int) (H : Heap) : Prop :=
 Does Pr 49 #[(.pointer x4), (.int .i64 6)] H (fun v78 H79 =>
 ∃ n80 : Int, v78 = (.int .i64 n80) ∧ (0 ≤ (n80 : Int) ∧ (n80 : Int) < ((ByteArray.size ⟨[97, 98, 97, 98, 10, 120].toArray⟩ : Nat) : Int)) ∧ nw (.cells #[(.int .u8 (sAt ⟨[97, 98, 97, 98, 10, 120].toArray⟩ n80))] 5 (0, 0)) H79 fun i81 H82 =>
 app Pr 24 x6 l6 c6 (.slice (some ⟨i81, 0, none⟩) 1 1) H82 fun p83 l84 c85 H86 =>
 nx77 p83 l84 c85 (IntKind.wrap .i64 (x8 - 1)) H86) E

def l09_pattern_9_M (nx77 : Option Addr → Nat → Nat → Int → Heap → Prop) (Q : Value → Heap → Prop) (E : Chain → Heap → Prop) (τ : Tau) (H : Heap) : Prop := mP (τ 4) fun x4 => mSl (τ 5) fun x5 l5 c5 => mSl (τ 6) fun x6 l6 c6 => mI .i64 (τ 8) fun x8 => l09_pattern_9 nx77 Q E x4 x5 l5 c5 x6 l6 c6 x8 H

theorem l09_pattern_10ok (nx77 : Option Addr → Nat → Nat → Int → Heap → Prop) (Q : Value → Heap → Prop) (E : Chain → Heap → Prop) (τ : Tau) (H : Heap) (h : l09_pattern_9_M nx77 Q E τ H) : vc Pr l09_pattern_p14 τ (l09_pattern_q6 nx77 Q E) E H :=
  mP_elim (i := 4) (G := fun τ => vc Pr l09_pattern_p14 τ (l09_pattern_q6 nx77 Q E) E H) h (fun x4 h => mSl_elim (i := 5) (G := fun τ => vc Pr l09_pattern_p14 τ (l09_pattern_q6 nx77 Q E) E H) h (fun x5 l5 c5 h => mSl_elim (i := 6) (G := fun τ => vc Pr l09_pattern_p14 τ (l09_pattern_q6 nx77 Q E) E H) h (fun x6 l6 c6 h => mI_elim (i := 8) (G := fun τ => vc Pr l09_pattern_p14 τ (l09_pattern_q6 nx77 Q E) E H) h (fun x8 h => (conv (B := vc Pr l09_pattern_p14 (Tau.upd (Tau.upd (Tau.upd (Tau.upd τ 4 (.pointer x4)) 5 (.slice x5 l5 c5)) 6 (.slice x6 l6 c6)) 8 (.int .i64 x8)) (l09_pattern_q6 nx77 Q E) E H) (by kernel_rfl) h)))))

@[reducible] noncomputable def l09_pattern_q7 (nx77 : Option Addr → Nat → Nat → Int → Heap → Prop) (Q : Value → Heap → Prop) (E : Chain → Heap → Prop) : Exit → Tau → Heap → Prop := (xthen (l09_pattern_9_M nx77 Q E) (l09_pattern_q6 nx77 Q E))

@[reducible] noncomputable def l09_pattern_p15 : Code := sA l09_pattern_p13

def l09_pattern_11 (nx77 : Option Addr → Nat → Nat → Int → Heap → Prop) (Q : Value → Heap → Prop) (E : Chain → Heap → Prop) (x4 : Option Addr) (x5 : Option Addr) (l5 : Nat) (c5 : Nat) (x6 : Option Addr) (l6 : Nat) (c6 : Nat) (x8 : Int) (H : Heap) : Prop :=
 sel (decide ((x8 : Int) > 0))
 (l09_pattern_9 nx77 Q E x4 x5 l5 c5 x6 l6 c6 x8 H)
 (l09_pattern_6 Q E x4 x5 l5 c5 x6 l6 c6 H)

def l09_pattern_11_M (nx77 : Option Addr → Nat → Nat → Int → Heap → Prop) (Q : Value → Heap → Prop) (E : Chain → Heap → Prop) (τ : Tau) (H : Heap) : Prop := mP (τ 4) fun x4 => mSl (τ 5) fun x5 l5 c5 => mSl (τ 6) fun x6 l6 c6 => mI .i64 (τ 8) fun x8 => l09_pattern_11 nx77 Q E x4 x5 l5 c5 x6 l6 c6 x8 H

theorem l09_pattern_12ok (nx77 : Option Addr → Nat → Nat → Int → Heap → Prop) (Q : Value → Heap → Prop) (E : Chain → Heap → Prop) (τ : Tau) (H : Heap) (h : l09_pattern_11_M nx77 Q E τ H) : vc Pr l09_pattern_p15 τ (l09_pattern_q7 nx77 Q E) E H :=
  mP_elim (i := 4) (G := fun τ => vc Pr l09_pattern_p15 τ (l09_pattern_q7 nx77 Q E) E H) h (fun x4 h => mSl_elim (i := 5) (G := fun τ => vc Pr l09_pattern_p15 τ (l09_pattern_q7 nx77 Q E) E H) h (fun x5 l5 c5 h => mSl_elim (i := 6) (G := fun τ => vc Pr l09_pattern_p15 τ (l09_pattern_q7 nx77 Q E) E H) h (fun x6 l6 c6 h => mI_elim (i := 8) (G := fun τ => vc Pr l09_pattern_p15 τ (l09_pattern_q7 nx77 Q E) E H) h (fun x8 h => (conv (B := vc Pr l09_pattern_p15 (Tau.upd (Tau.upd (Tau.upd (Tau.upd τ 4 (.pointer x4)) 5 (.slice x5 l5 c5)) 6 (.slice x6 l6 c6)) 8 (.int .i64 x8)) (l09_pattern_q7 nx77 Q E) E H) (by kernel_rfl) h)))))

theorem l09_pattern_13ok (nx77 : Option Addr → Nat → Nat → Int → Heap → Prop) (Q : Value → Heap → Prop) (E : Chain → Heap → Prop) (τ : Tau) (H : Heap) (h : l09_pattern_11_M nx77 Q E τ H) : vc Pr l09_pattern_p13 τ (l09_pattern_q6 nx77 Q E) E H :=
  (conv (B := vc Pr l09_pattern_p13 τ (l09_pattern_q6 nx77 Q E) E H) (by kernel_rfl) (vc_seq (K := (l09_pattern_9_M nx77 Q E)) (l09_pattern_12ok nx77 Q E τ H h) (l09_pattern_10ok nx77 Q E)))

def l09_pattern_14 (Q : Value → Heap → Prop) (E : Chain → Heap → Prop) (x4 : Option Addr) (x5 : Option Addr) (l5 : Nat) (c5 : Nat) (x6 : Option Addr) (l6 : Nat) (c6 : Nat) (x8 : Int) (H : Heap) : Prop :=
 ∃ (I : Option Addr → Nat → Nat → Int → Heap → Prop) (μ : Option Addr → Nat → Nat → Int → Heap → Nat), I x6 l6 c6 x8 H ∧ ∀ (x6 : Option Addr) (l6 : Nat) (c6 : Nat) (x8 : Int) (H : Heap), I x6 l6 c6 x8 H →
 l09_pattern_11 (fun x6' l6' c6' x8' H1 => I x6' l6' c6' x8' H1 ∧ μ x6' l6' c6' x8' H1 < μ x6 l6 c6 x8 H) Q E x4 x5 l5 c5 x6 l6 c6 x8 H

def l09_pattern_14_M (Q : Value → Heap → Prop) (E : Chain → Heap → Prop) (τ : Tau) (H : Heap) : Prop := mP (τ 4) fun x4 => mSl (τ 5) fun x5 l5 c5 => mSl (τ 6) fun x6 l6 c6 => mI .i64 (τ 8) fun x8 => l09_pattern_14 Q E x4 x5 l5 c5 x6 l6 c6 x8 H

theorem l09_pattern_15ok (Q : Value → Heap → Prop) (E : Chain → Heap → Prop) (τ : Tau) (H : Heap) (h : l09_pattern_14_M Q E τ H) : vc Pr l09_pattern_p12 τ (l09_pattern_q5 Q E) E H :=
  mP_elim (i := 4) (G := fun τ => vc Pr l09_pattern_p12 τ (l09_pattern_q5 Q E) E H) h (fun x4 h => mSl_elim (i := 5) (G := fun τ => vc Pr l09_pattern_p12 τ (l09_pattern_q5 Q E) E H) h (fun x5 l5 c5 h => mSl_elim (i := 6) (G := fun τ => vc Pr l09_pattern_p12 τ (l09_pattern_q5 Q E) E H) h (fun x6 l6 c6 h => mI_elim (i := 8) (G := fun τ => vc Pr l09_pattern_p12 τ (l09_pattern_q5 Q E) E H) h (fun x8 h => match h with | ⟨I, μ, h0, hr⟩ => (conv (B := vc Pr l09_pattern_p12 (Tau.upd (Tau.upd (Tau.upd (Tau.upd τ 4 (.pointer x4)) 5 (.slice x5 l5 c5)) 6 (.slice x6 l6 c6)) 8 (.int .i64 x8)) (l09_pattern_q5 Q E) E H) (by kernel_rfl) (vc_loop (c := sI l09_pattern_p12) (τ := (Tau.upd (Tau.upd (Tau.upd (Tau.upd τ 4 (.pointer x4)) 5 (.slice x5 l5 c5)) 6 (.slice x6 l6 c6)) 8 (.int .i64 x8))) [4, 5] (fun τ H => mSl (τ 6) fun x6' l6' c6' => mI .i64 (τ 8) fun x8' => I x6' l6' c6' x8' H) (fun τ H => μ (gL1 (τ 6)) (gL2 (τ 6)) (gL3 (τ 6)) (gI (τ 8)) H) (by kernel_rfl) h0 (fun τ1 H1 hf hI => fix_elim (τ := τ1) (i := 4) (v := (.pointer x4)) (G := fun τ => vc Pr (sI l09_pattern_p12) τ (xthen (fun τ2 H2 => (mSl (τ2 6) fun x6' l6' c6' => mI .i64 (τ2 8) fun x8' => I x6' l6' c6' x8' H2) ∧ μ (gL1 (τ2 6)) (gL2 (τ2 6)) (gL3 (τ2 6)) (gI (τ2 8)) H2 < μ (gL1 (τ 6)) (gL2 (τ 6)) (gL3 (τ 6)) (gI (τ 8)) H1) (l09_pattern_q5 Q E)) E H1) (hf 4 (by simp)) (fix_elim (τ := (Tau.upd τ1 4 (.pointer x4))) (i := 5) (v := (.slice x5 l5 c5)) (G := fun τ => vc Pr (sI l09_pattern_p12) τ (xthen (fun τ2 H2 => (mSl (τ2 6) fun x6' l6' c6' => mI .i64 (τ2 8) fun x8' => I x6' l6' c6' x8' H2) ∧ μ (gL1 (τ2 6)) (gL2 (τ2 6)) (gL3 (τ2 6)) (gI (τ2 8)) H2 < μ (gL1 (τ 6)) (gL2 (τ 6)) (gL3 (τ 6)) (gI (τ 8)) H1) (l09_pattern_q5 Q E)) E H1) (hf 5 (by simp)) (mSl_elim (i := 6) (G := fun τ => vc Pr (sI l09_pattern_p12) τ (xthen (fun τ2 H2 => (mSl (τ2 6) fun x6' l6' c6' => mI .i64 (τ2 8) fun x8' => I x6' l6' c6' x8' H2) ∧ μ (gL1 (τ2 6)) (gL2 (τ2 6)) (gL3 (τ2 6)) (gI (τ2 8)) H2 < μ (gL1 (τ 6)) (gL2 (τ 6)) (gL3 (τ 6)) (gI (τ 8)) H1) (l09_pattern_q5 Q E)) E H1) hI (fun x6r l6r c6r h => mI_elim (i := 8) (G := fun τ => vc Pr (sI l09_pattern_p12) τ (xthen (fun τ2 H2 => (mSl (τ2 6) fun x6' l6' c6' => mI .i64 (τ2 8) fun x8' => I x6' l6' c6' x8' H2) ∧ μ (gL1 (τ2 6)) (gL2 (τ2 6)) (gL3 (τ2 6)) (gI (τ2 8)) H2 < μ (gL1 (τ 6)) (gL2 (τ 6)) (gL3 (τ 6)) (gI (τ 8)) H1) (l09_pattern_q5 Q E)) E H1) h (fun x8r h => (conv (B := vc Pr (sI l09_pattern_p12) (Tau.upd (Tau.upd (Tau.upd (Tau.upd τ1 4 (.pointer x4)) 5 (.slice x5 l5 c5)) 6 (.slice x6r l6r c6r)) 8 (.int .i64 x8r)) (xthen (fun τ2 H2 => (mSl (τ2 6) fun x6' l6' c6' => mI .i64 (τ2 8) fun x8' => I x6' l6' c6' x8' H2) ∧ μ (gL1 (τ2 6)) (gL2 (τ2 6)) (gL3 (τ2 6)) (gI (τ2 8)) H2 < μ (gL1 ((Tau.upd (Tau.upd (Tau.upd (Tau.upd τ1 4 (.pointer x4)) 5 (.slice x5 l5 c5)) 6 (.slice x6r l6r c6r)) 8 (.int .i64 x8r)) 6)) (gL2 ((Tau.upd (Tau.upd (Tau.upd (Tau.upd τ1 4 (.pointer x4)) 5 (.slice x5 l5 c5)) 6 (.slice x6r l6r c6r)) 8 (.int .i64 x8r)) 6)) (gL3 ((Tau.upd (Tau.upd (Tau.upd (Tau.upd τ1 4 (.pointer x4)) 5 (.slice x5 l5 c5)) 6 (.slice x6r l6r c6r)) 8 (.int .i64 x8r)) 6)) (gI ((Tau.upd (Tau.upd (Tau.upd (Tau.upd τ1 4 (.pointer x4)) 5 (.slice x5 l5 c5)) 6 (.slice x6r l6r c6r)) 8 (.int .i64 x8r)) 8)) H1) (l09_pattern_q5 Q E)) E H1) (by kernel_rfl) (vc_xthen (l09_pattern_13ok (fun x6' l6' c6' x8' H2 => I x6' l6' c6' x8' H2 ∧ μ x6' l6' c6' x8' H2 < μ x6r l6r c6r x8r H1) Q E (Tau.upd (Tau.upd (Tau.upd (Tau.upd τ1 4 (.pointer x4)) 5 (.slice x5 l5 c5)) 6 (.slice x6r l6r c6r)) 8 (.int .i64 x8r)) H1 (conv (B := l09_pattern_11_M (fun x6' l6' c6' x8' H2 => I x6' l6' c6' x8' H2 ∧ μ x6' l6' c6' x8' H2 < μ x6r l6r c6r x8r H1) Q E (Tau.upd (Tau.upd (Tau.upd (Tau.upd τ1 4 (.pointer x4)) 5 (.slice x5 l5 c5)) 6 (.slice x6r l6r c6r)) 8 (.int .i64 x8r)) H1) (by kernel_rfl) (hr x6r l6r c6r x8r H1 h))) (fun τ2 H2 hk => mSl_elim (i := 6) (G := fun τ => (mSl (τ 6) fun x6' l6' c6' => mI .i64 (τ 8) fun x8' => I x6' l6' c6' x8' H2) ∧ μ (gL1 (τ 6)) (gL2 (τ 6)) (gL3 (τ 6)) (gI (τ 8)) H2 < μ x6r l6r c6r x8r H1) hk (fun x6' l6' c6' h => mI_elim (i := 8) (G := fun τ => (mSl (τ 6) fun x6' l6' c6' => mI .i64 (τ 8) fun x8' => I x6' l6' c6' x8' H2) ∧ μ (gL1 (τ 6)) (gL2 (τ 6)) (gL3 (τ 6)) (gI (τ 8)) H2 < μ x6r l6r c6r x8r H1) h (fun x8' h => h))))))))))))))))

theorem l09_pattern_16ok (Q : Value → Heap → Prop) (E : Chain → Heap → Prop) (τ : Tau) (H : Heap) (h : l09_pattern_14_M Q E τ H) : vc Pr l09_pattern_p11 τ (l09_pattern_q4 Q E) E H :=
  (conv (B := vc Pr l09_pattern_p11 τ (l09_pattern_q4 Q E) E H) (by kernel_rfl) (l09_pattern_15ok Q E τ H h))

@[reducible] noncomputable def l09_pattern_q8 (Q : Value → Heap → Prop) (E : Chain → Heap → Prop) : Exit → Tau → Heap → Prop := (xthen (l09_pattern_14_M Q E) (l09_pattern_q4 Q E))

@[reducible] noncomputable def l09_pattern_p16 : Code := sA l09_pattern_p10

def l09_pattern_17 (Q : Value → Heap → Prop) (E : Chain → Heap → Prop) (x4 : Option Addr) (x5 : Option Addr) (l5 : Nat) (c5 : Nat) (x6 : Option Addr) (l6 : Nat) (c6 : Nat) (H : Heap) : Prop :=
 Does Pr 49 #[(.pointer x4), (.int .i64 10)] H (fun v87 H88 =>
 ∃ n89 : Int, v87 = (.int .i64 n89) ∧ l09_pattern_14 Q E x4 x5 l5 c5 x6 l6 c6 n89 H88) E

def l09_pattern_17_M (Q : Value → Heap → Prop) (E : Chain → Heap → Prop) (τ : Tau) (H : Heap) : Prop := mP (τ 4) fun x4 => mSl (τ 5) fun x5 l5 c5 => mSl (τ 6) fun x6 l6 c6 => l09_pattern_17 Q E x4 x5 l5 c5 x6 l6 c6 H

theorem l09_pattern_18ok (Q : Value → Heap → Prop) (E : Chain → Heap → Prop) (τ : Tau) (H : Heap) (h : l09_pattern_17_M Q E τ H) : vc Pr l09_pattern_p16 τ (l09_pattern_q8 Q E) E H :=
  mP_elim (i := 4) (G := fun τ => vc Pr l09_pattern_p16 τ (l09_pattern_q8 Q E) E H) h (fun x4 h => mSl_elim (i := 5) (G := fun τ => vc Pr l09_pattern_p16 τ (l09_pattern_q8 Q E) E H) h (fun x5 l5 c5 h => mSl_elim (i := 6) (G := fun τ => vc Pr l09_pattern_p16 τ (l09_pattern_q8 Q E) E H) h (fun x6 l6 c6 h => (conv (B := vc Pr l09_pattern_p16 (Tau.upd (Tau.upd (Tau.upd τ 4 (.pointer x4)) 5 (.slice x5 l5 c5)) 6 (.slice x6 l6 c6)) (l09_pattern_q8 Q E) E H) (by kernel_rfl) h))))

theorem l09_pattern_19ok (Q : Value → Heap → Prop) (E : Chain → Heap → Prop) (τ : Tau) (H : Heap) (h : l09_pattern_17_M Q E τ H) : vc Pr l09_pattern_p10 τ (l09_pattern_q4 Q E) E H :=
  (conv (B := vc Pr l09_pattern_p10 τ (l09_pattern_q4 Q E) E H) (by kernel_rfl) (vc_seq (K := (l09_pattern_14_M Q E)) (l09_pattern_18ok Q E τ H h) (l09_pattern_16ok Q E)))

theorem l09_pattern_20ok (Q : Value → Heap → Prop) (E : Chain → Heap → Prop) (τ : Tau) (H : Heap) (h : l09_pattern_17_M Q E τ H) : vc Pr l09_pattern_p4 τ (l09_pattern_q1 Q E) E H :=
  (conv (B := vc Pr l09_pattern_p4 τ (l09_pattern_q1 Q E) E H) (by kernel_rfl) (vc_seq (K := (l09_pattern_6_M Q E)) (l09_pattern_19ok Q E τ H h) (l09_pattern_8ok Q E)))

@[reducible] noncomputable def l09_pattern_q9 (Q : Value → Heap → Prop) (E : Chain → Heap → Prop) : Exit → Tau → Heap → Prop := (xthen (l09_pattern_17_M Q E) (l09_pattern_q1 Q E))

@[reducible] noncomputable def l09_pattern_p17 : Code := sA l09_pattern_p3

@[reducible] noncomputable def l09_pattern_p18 : Code := sB l09_pattern_p17

@[reducible] noncomputable def l09_pattern_q10 (Q : Value → Heap → Prop) (E : Chain → Heap → Prop) : Exit → Tau → Heap → Prop := (xblock 0 (l09_pattern_q9 Q E))

@[reducible] noncomputable def l09_pattern_p19 : Code := sI l09_pattern_p18

@[reducible] noncomputable def l09_pattern_q11 (nx93 : Option Addr → Nat → Nat → Int → Heap → Prop) (Q : Value → Heap → Prop) (E : Chain → Heap → Prop) : Exit → Tau → Heap → Prop := (xthen (fun τ H => mSl (τ 5) fun x5' l5' c5' => mI .i64 (τ 7) fun x7' => nx93 x5' l5' c5' x7' H) (l09_pattern_q10 Q E))

@[reducible] noncomputable def l09_pattern_p20 : Code := sI l09_pattern_p19

@[reducible] noncomputable def l09_pattern_p21 : Code := sB l09_pattern_p20

def l09_pattern_21 (nx93 : Option Addr → Nat → Nat → Int → Heap → Prop) (Q : Value → Heap → Prop) (E : Chain → Heap → Prop) (x4 : Option Addr) (x5 : Option Addr) (l5 : Nat) (c5 : Nat) (x6 : Option Addr) (l6 : Nat) (c6 : Nat) (x7 : Int) (H : Heap) : Prop :=
 Does Pr 49 #[(.pointer x4), (.int .i64 14)] H (fun v94 H95 =>
 ∃ n96 : Int, v94 = (.int .i64 n96) ∧ (0 ≤ (n96 : Int) ∧ (n96 : Int) < ((ByteArray.size ⟨[97, 98, 46, 40, 42, 124, 41, 43, 63, 94, 36, 91, 98, 93].toArray⟩ : Nat) : Int)) ∧ nw (.cells #[(.int .u8 (sAt ⟨[97, 98, 46, 40, 42, 124, 41, 43, 63, 94, 36, 91, 98, 93].toArray⟩ n96))] 5 (0, 0)) H95 fun i97 H98 =>
 app Pr 24 x5 l5 c5 (.slice (some ⟨i97, 0, none⟩) 1 1) H98 fun p99 l100 c101 H102 =>
 nx93 p99 l100 c101 (IntKind.wrap .i64 (x7 - 1)) H102) E

def l09_pattern_21_M (nx93 : Option Addr → Nat → Nat → Int → Heap → Prop) (Q : Value → Heap → Prop) (E : Chain → Heap → Prop) (τ : Tau) (H : Heap) : Prop := mP (τ 4) fun x4 => mSl (τ 5) fun x5 l5 c5 => mSl (τ 6) fun x6 l6 c6 => mI .i64 (τ 7) fun x7 => l09_pattern_21 nx93 Q E x4 x5 l5 c5 x6 l6 c6 x7 H

theorem l09_pattern_22ok (nx93 : Option Addr → Nat → Nat → Int → Heap → Prop) (Q : Value → Heap → Prop) (E : Chain → Heap → Prop) (τ : Tau) (H : Heap) (h : l09_pattern_21_M nx93 Q E τ H) : vc Pr l09_pattern_p21 τ (l09_pattern_q11 nx93 Q E) E H :=
  mP_elim (i := 4) (G := fun τ => vc Pr l09_pattern_p21 τ (l09_pattern_q11 nx93 Q E) E H) h (fun x4 h => mSl_elim (i := 5) (G := fun τ => vc Pr l09_pattern_p21 τ (l09_pattern_q11 nx93 Q E) E H) h (fun x5 l5 c5 h => mSl_elim (i := 6) (G := fun τ => vc Pr l09_pattern_p21 τ (l09_pattern_q11 nx93 Q E) E H) h (fun x6 l6 c6 h => mI_elim (i := 7) (G := fun τ => vc Pr l09_pattern_p21 τ (l09_pattern_q11 nx93 Q E) E H) h (fun x7 h => (conv (B := vc Pr l09_pattern_p21 (Tau.upd (Tau.upd (Tau.upd (Tau.upd τ 4 (.pointer x4)) 5 (.slice x5 l5 c5)) 6 (.slice x6 l6 c6)) 7 (.int .i64 x7)) (l09_pattern_q11 nx93 Q E) E H) (by kernel_rfl) h)))))

@[reducible] noncomputable def l09_pattern_q12 (nx93 : Option Addr → Nat → Nat → Int → Heap → Prop) (Q : Value → Heap → Prop) (E : Chain → Heap → Prop) : Exit → Tau → Heap → Prop := (xthen (l09_pattern_21_M nx93 Q E) (l09_pattern_q11 nx93 Q E))

@[reducible] noncomputable def l09_pattern_p22 : Code := sA l09_pattern_p20

def l09_pattern_23 (nx93 : Option Addr → Nat → Nat → Int → Heap → Prop) (Q : Value → Heap → Prop) (E : Chain → Heap → Prop) (x4 : Option Addr) (x5 : Option Addr) (l5 : Nat) (c5 : Nat) (x6 : Option Addr) (l6 : Nat) (c6 : Nat) (x7 : Int) (H : Heap) : Prop :=
 sel (decide ((x7 : Int) > 0))
 (l09_pattern_21 nx93 Q E x4 x5 l5 c5 x6 l6 c6 x7 H)
 (l09_pattern_17 Q E x4 x5 l5 c5 x6 l6 c6 H)

def l09_pattern_23_M (nx93 : Option Addr → Nat → Nat → Int → Heap → Prop) (Q : Value → Heap → Prop) (E : Chain → Heap → Prop) (τ : Tau) (H : Heap) : Prop := mP (τ 4) fun x4 => mSl (τ 5) fun x5 l5 c5 => mSl (τ 6) fun x6 l6 c6 => mI .i64 (τ 7) fun x7 => l09_pattern_23 nx93 Q E x4 x5 l5 c5 x6 l6 c6 x7 H

theorem l09_pattern_24ok (nx93 : Option Addr → Nat → Nat → Int → Heap → Prop) (Q : Value → Heap → Prop) (E : Chain → Heap → Prop) (τ : Tau) (H : Heap) (h : l09_pattern_23_M nx93 Q E τ H) : vc Pr l09_pattern_p22 τ (l09_pattern_q12 nx93 Q E) E H :=
  mP_elim (i := 4) (G := fun τ => vc Pr l09_pattern_p22 τ (l09_pattern_q12 nx93 Q E) E H) h (fun x4 h => mSl_elim (i := 5) (G := fun τ => vc Pr l09_pattern_p22 τ (l09_pattern_q12 nx93 Q E) E H) h (fun x5 l5 c5 h => mSl_elim (i := 6) (G := fun τ => vc Pr l09_pattern_p22 τ (l09_pattern_q12 nx93 Q E) E H) h (fun x6 l6 c6 h => mI_elim (i := 7) (G := fun τ => vc Pr l09_pattern_p22 τ (l09_pattern_q12 nx93 Q E) E H) h (fun x7 h => (conv (B := vc Pr l09_pattern_p22 (Tau.upd (Tau.upd (Tau.upd (Tau.upd τ 4 (.pointer x4)) 5 (.slice x5 l5 c5)) 6 (.slice x6 l6 c6)) 7 (.int .i64 x7)) (l09_pattern_q12 nx93 Q E) E H) (by kernel_rfl) h)))))

theorem l09_pattern_25ok (nx93 : Option Addr → Nat → Nat → Int → Heap → Prop) (Q : Value → Heap → Prop) (E : Chain → Heap → Prop) (τ : Tau) (H : Heap) (h : l09_pattern_23_M nx93 Q E τ H) : vc Pr l09_pattern_p20 τ (l09_pattern_q11 nx93 Q E) E H :=
  (conv (B := vc Pr l09_pattern_p20 τ (l09_pattern_q11 nx93 Q E) E H) (by kernel_rfl) (vc_seq (K := (l09_pattern_21_M nx93 Q E)) (l09_pattern_24ok nx93 Q E τ H h) (l09_pattern_22ok nx93 Q E)))

def l09_pattern_26 (Q : Value → Heap → Prop) (E : Chain → Heap → Prop) (x4 : Option Addr) (x6 : Option Addr) (l6 : Nat) (c6 : Nat) (x5 : Option Addr) (l5 : Nat) (c5 : Nat) (x7 : Int) (H : Heap) : Prop :=
 ∃ (I : Option Addr → Nat → Nat → Int → Heap → Prop) (μ : Option Addr → Nat → Nat → Int → Heap → Nat), I x5 l5 c5 x7 H ∧ ∀ (x5 : Option Addr) (l5 : Nat) (c5 : Nat) (x7 : Int) (H : Heap), I x5 l5 c5 x7 H →
 l09_pattern_23 (fun x5' l5' c5' x7' H1 => I x5' l5' c5' x7' H1 ∧ μ x5' l5' c5' x7' H1 < μ x5 l5 c5 x7 H) Q E x4 x5 l5 c5 x6 l6 c6 x7 H

def l09_pattern_26_M (Q : Value → Heap → Prop) (E : Chain → Heap → Prop) (τ : Tau) (H : Heap) : Prop := mP (τ 4) fun x4 => mSl (τ 6) fun x6 l6 c6 => mSl (τ 5) fun x5 l5 c5 => mI .i64 (τ 7) fun x7 => l09_pattern_26 Q E x4 x6 l6 c6 x5 l5 c5 x7 H

theorem l09_pattern_27ok (Q : Value → Heap → Prop) (E : Chain → Heap → Prop) (τ : Tau) (H : Heap) (h : l09_pattern_26_M Q E τ H) : vc Pr l09_pattern_p19 τ (l09_pattern_q10 Q E) E H :=
  mP_elim (i := 4) (G := fun τ => vc Pr l09_pattern_p19 τ (l09_pattern_q10 Q E) E H) h (fun x4 h => mSl_elim (i := 6) (G := fun τ => vc Pr l09_pattern_p19 τ (l09_pattern_q10 Q E) E H) h (fun x6 l6 c6 h => mSl_elim (i := 5) (G := fun τ => vc Pr l09_pattern_p19 τ (l09_pattern_q10 Q E) E H) h (fun x5 l5 c5 h => mI_elim (i := 7) (G := fun τ => vc Pr l09_pattern_p19 τ (l09_pattern_q10 Q E) E H) h (fun x7 h => match h with | ⟨I, μ, h0, hr⟩ => (conv (B := vc Pr l09_pattern_p19 (Tau.upd (Tau.upd (Tau.upd (Tau.upd τ 4 (.pointer x4)) 6 (.slice x6 l6 c6)) 5 (.slice x5 l5 c5)) 7 (.int .i64 x7)) (l09_pattern_q10 Q E) E H) (by kernel_rfl) (vc_loop (c := sI l09_pattern_p19) (τ := (Tau.upd (Tau.upd (Tau.upd (Tau.upd τ 4 (.pointer x4)) 6 (.slice x6 l6 c6)) 5 (.slice x5 l5 c5)) 7 (.int .i64 x7))) [4, 6] (fun τ H => mSl (τ 5) fun x5' l5' c5' => mI .i64 (τ 7) fun x7' => I x5' l5' c5' x7' H) (fun τ H => μ (gL1 (τ 5)) (gL2 (τ 5)) (gL3 (τ 5)) (gI (τ 7)) H) (by kernel_rfl) h0 (fun τ1 H1 hf hI => fix_elim (τ := τ1) (i := 4) (v := (.pointer x4)) (G := fun τ => vc Pr (sI l09_pattern_p19) τ (xthen (fun τ2 H2 => (mSl (τ2 5) fun x5' l5' c5' => mI .i64 (τ2 7) fun x7' => I x5' l5' c5' x7' H2) ∧ μ (gL1 (τ2 5)) (gL2 (τ2 5)) (gL3 (τ2 5)) (gI (τ2 7)) H2 < μ (gL1 (τ 5)) (gL2 (τ 5)) (gL3 (τ 5)) (gI (τ 7)) H1) (l09_pattern_q10 Q E)) E H1) (hf 4 (by simp)) (fix_elim (τ := (Tau.upd τ1 4 (.pointer x4))) (i := 6) (v := (.slice x6 l6 c6)) (G := fun τ => vc Pr (sI l09_pattern_p19) τ (xthen (fun τ2 H2 => (mSl (τ2 5) fun x5' l5' c5' => mI .i64 (τ2 7) fun x7' => I x5' l5' c5' x7' H2) ∧ μ (gL1 (τ2 5)) (gL2 (τ2 5)) (gL3 (τ2 5)) (gI (τ2 7)) H2 < μ (gL1 (τ 5)) (gL2 (τ 5)) (gL3 (τ 5)) (gI (τ 7)) H1) (l09_pattern_q10 Q E)) E H1) (hf 6 (by simp)) (mSl_elim (i := 5) (G := fun τ => vc Pr (sI l09_pattern_p19) τ (xthen (fun τ2 H2 => (mSl (τ2 5) fun x5' l5' c5' => mI .i64 (τ2 7) fun x7' => I x5' l5' c5' x7' H2) ∧ μ (gL1 (τ2 5)) (gL2 (τ2 5)) (gL3 (τ2 5)) (gI (τ2 7)) H2 < μ (gL1 (τ 5)) (gL2 (τ 5)) (gL3 (τ 5)) (gI (τ 7)) H1) (l09_pattern_q10 Q E)) E H1) hI (fun x5r l5r c5r h => mI_elim (i := 7) (G := fun τ => vc Pr (sI l09_pattern_p19) τ (xthen (fun τ2 H2 => (mSl (τ2 5) fun x5' l5' c5' => mI .i64 (τ2 7) fun x7' => I x5' l5' c5' x7' H2) ∧ μ (gL1 (τ2 5)) (gL2 (τ2 5)) (gL3 (τ2 5)) (gI (τ2 7)) H2 < μ (gL1 (τ 5)) (gL2 (τ 5)) (gL3 (τ 5)) (gI (τ 7)) H1) (l09_pattern_q10 Q E)) E H1) h (fun x7r h => (conv (B := vc Pr (sI l09_pattern_p19) (Tau.upd (Tau.upd (Tau.upd (Tau.upd τ1 4 (.pointer x4)) 6 (.slice x6 l6 c6)) 5 (.slice x5r l5r c5r)) 7 (.int .i64 x7r)) (xthen (fun τ2 H2 => (mSl (τ2 5) fun x5' l5' c5' => mI .i64 (τ2 7) fun x7' => I x5' l5' c5' x7' H2) ∧ μ (gL1 (τ2 5)) (gL2 (τ2 5)) (gL3 (τ2 5)) (gI (τ2 7)) H2 < μ (gL1 ((Tau.upd (Tau.upd (Tau.upd (Tau.upd τ1 4 (.pointer x4)) 6 (.slice x6 l6 c6)) 5 (.slice x5r l5r c5r)) 7 (.int .i64 x7r)) 5)) (gL2 ((Tau.upd (Tau.upd (Tau.upd (Tau.upd τ1 4 (.pointer x4)) 6 (.slice x6 l6 c6)) 5 (.slice x5r l5r c5r)) 7 (.int .i64 x7r)) 5)) (gL3 ((Tau.upd (Tau.upd (Tau.upd (Tau.upd τ1 4 (.pointer x4)) 6 (.slice x6 l6 c6)) 5 (.slice x5r l5r c5r)) 7 (.int .i64 x7r)) 5)) (gI ((Tau.upd (Tau.upd (Tau.upd (Tau.upd τ1 4 (.pointer x4)) 6 (.slice x6 l6 c6)) 5 (.slice x5r l5r c5r)) 7 (.int .i64 x7r)) 7)) H1) (l09_pattern_q10 Q E)) E H1) (by kernel_rfl) (vc_xthen (l09_pattern_25ok (fun x5' l5' c5' x7' H2 => I x5' l5' c5' x7' H2 ∧ μ x5' l5' c5' x7' H2 < μ x5r l5r c5r x7r H1) Q E (Tau.upd (Tau.upd (Tau.upd (Tau.upd τ1 4 (.pointer x4)) 6 (.slice x6 l6 c6)) 5 (.slice x5r l5r c5r)) 7 (.int .i64 x7r)) H1 (conv (B := l09_pattern_23_M (fun x5' l5' c5' x7' H2 => I x5' l5' c5' x7' H2 ∧ μ x5' l5' c5' x7' H2 < μ x5r l5r c5r x7r H1) Q E (Tau.upd (Tau.upd (Tau.upd (Tau.upd τ1 4 (.pointer x4)) 6 (.slice x6 l6 c6)) 5 (.slice x5r l5r c5r)) 7 (.int .i64 x7r)) H1) (by kernel_rfl) (hr x5r l5r c5r x7r H1 h))) (fun τ2 H2 hk => mSl_elim (i := 5) (G := fun τ => (mSl (τ 5) fun x5' l5' c5' => mI .i64 (τ 7) fun x7' => I x5' l5' c5' x7' H2) ∧ μ (gL1 (τ 5)) (gL2 (τ 5)) (gL3 (τ 5)) (gI (τ 7)) H2 < μ x5r l5r c5r x7r H1) hk (fun x5' l5' c5' h => mI_elim (i := 7) (G := fun τ => (mSl (τ 5) fun x5' l5' c5' => mI .i64 (τ 7) fun x7' => I x5' l5' c5' x7' H2) ∧ μ (gL1 (τ 5)) (gL2 (τ 5)) (gL3 (τ 5)) (gI (τ 7)) H2 < μ x5r l5r c5r x7r H1) h (fun x7' h => h))))))))))))))))

theorem l09_pattern_28ok (Q : Value → Heap → Prop) (E : Chain → Heap → Prop) (τ : Tau) (H : Heap) (h : l09_pattern_26_M Q E τ H) : vc Pr l09_pattern_p18 τ (l09_pattern_q9 Q E) E H :=
  (conv (B := vc Pr l09_pattern_p18 τ (l09_pattern_q9 Q E) E H) (by kernel_rfl) (l09_pattern_27ok Q E τ H h))

@[reducible] noncomputable def l09_pattern_q13 (Q : Value → Heap → Prop) (E : Chain → Heap → Prop) : Exit → Tau → Heap → Prop := (xthen (l09_pattern_26_M Q E) (l09_pattern_q9 Q E))

@[reducible] noncomputable def l09_pattern_p23 : Code := sA l09_pattern_p17

def l09_pattern_29 (Q : Value → Heap → Prop) (E : Chain → Heap → Prop) (x4 : Option Addr) (x5 : Option Addr) (l5 : Nat) (c5 : Nat) (x6 : Option Addr) (l6 : Nat) (c6 : Nat) (H : Heap) : Prop :=
 Does Pr 48 #[(.pointer x4), (.int .i64 1), (.int .i64 14)] H (fun v103 H104 =>
 ∃ n105 : Int, v103 = (.int .i64 n105) ∧ l09_pattern_26 Q E x4 x6 l6 c6 x5 l5 c5 n105 H104) E

def l09_pattern_29_M (Q : Value → Heap → Prop) (E : Chain → Heap → Prop) (τ : Tau) (H : Heap) : Prop := mP (τ 4) fun x4 => mSl (τ 5) fun x5 l5 c5 => mSl (τ 6) fun x6 l6 c6 => l09_pattern_29 Q E x4 x5 l5 c5 x6 l6 c6 H

theorem l09_pattern_30ok (Q : Value → Heap → Prop) (E : Chain → Heap → Prop) (τ : Tau) (H : Heap) (h : l09_pattern_29_M Q E τ H) : vc Pr l09_pattern_p23 τ (l09_pattern_q13 Q E) E H :=
  mP_elim (i := 4) (G := fun τ => vc Pr l09_pattern_p23 τ (l09_pattern_q13 Q E) E H) h (fun x4 h => mSl_elim (i := 5) (G := fun τ => vc Pr l09_pattern_p23 τ (l09_pattern_q13 Q E) E H) h (fun x5 l5 c5 h => mSl_elim (i := 6) (G := fun τ => vc Pr l09_pattern_p23 τ (l09_pattern_q13 Q E) E H) h (fun x6 l6 c6 h => (conv (B := vc Pr l09_pattern_p23 (Tau.upd (Tau.upd (Tau.upd τ 4 (.pointer x4)) 5 (.slice x5 l5 c5)) 6 (.slice x6 l6 c6)) (l09_pattern_q13 Q E) E H) (by kernel_rfl) h))))

theorem l09_pattern_31ok (Q : Value → Heap → Prop) (E : Chain → Heap → Prop) (τ : Tau) (H : Heap) (h : l09_pattern_29_M Q E τ H) : vc Pr l09_pattern_p17 τ (l09_pattern_q9 Q E) E H :=
  (conv (B := vc Pr l09_pattern_p17 τ (l09_pattern_q9 Q E) E H) (by kernel_rfl) (vc_seq (K := (l09_pattern_26_M Q E)) (l09_pattern_30ok Q E τ H h) (l09_pattern_28ok Q E)))

theorem l09_pattern_32ok (Q : Value → Heap → Prop) (E : Chain → Heap → Prop) (τ : Tau) (H : Heap) (h : l09_pattern_29_M Q E τ H) : vc Pr l09_pattern_p3 τ (l09_pattern_q1 Q E) E H :=
  (conv (B := vc Pr l09_pattern_p3 τ (l09_pattern_q1 Q E) E H) (by kernel_rfl) (vc_seq (K := (l09_pattern_17_M Q E)) (l09_pattern_31ok Q E τ H h) (l09_pattern_20ok Q E)))

@[reducible] noncomputable def l09_pattern_q14 (Q : Value → Heap → Prop) (E : Chain → Heap → Prop) : Exit → Tau → Heap → Prop := (xthen (l09_pattern_29_M Q E) (l09_pattern_q1 Q E))

@[reducible] noncomputable def l09_pattern_p24 : Code := sA l09_pattern_p2

def l09_pattern_33 (Q : Value → Heap → Prop) (E : Chain → Heap → Prop) (x4 : Option Addr) (H : Heap) : Prop :=
 l09_pattern_29 Q E x4 none 0 0 none 0 0 H

def l09_pattern_33_M (Q : Value → Heap → Prop) (E : Chain → Heap → Prop) (τ : Tau) (H : Heap) : Prop := mP (τ 4) fun x4 => l09_pattern_33 Q E x4 H

theorem l09_pattern_34ok (Q : Value → Heap → Prop) (E : Chain → Heap → Prop) (τ : Tau) (H : Heap) (h : l09_pattern_33_M Q E τ H) : vc Pr l09_pattern_p24 τ (l09_pattern_q14 Q E) E H :=
  mP_elim (i := 4) (G := fun τ => vc Pr l09_pattern_p24 τ (l09_pattern_q14 Q E) E H) h (fun x4 h => (conv (B := vc Pr l09_pattern_p24 (Tau.upd τ 4 (.pointer x4)) (l09_pattern_q14 Q E) E H) (by kernel_rfl) h))

theorem l09_pattern_35ok (Q : Value → Heap → Prop) (E : Chain → Heap → Prop) (τ : Tau) (H : Heap) (h : l09_pattern_33_M Q E τ H) : vc Pr l09_pattern_p2 τ (l09_pattern_q1 Q E) E H :=
  (conv (B := vc Pr l09_pattern_p2 τ (l09_pattern_q1 Q E) E H) (by kernel_rfl) (vc_seq (K := (l09_pattern_29_M Q E)) (l09_pattern_34ok Q E τ H h) (l09_pattern_32ok Q E)))

@[reducible] noncomputable def l09_pattern_q15 (Q : Value → Heap → Prop) (E : Chain → Heap → Prop) : Exit → Tau → Heap → Prop := (xthen (l09_pattern_33_M Q E) (l09_pattern_q1 Q E))

@[reducible] noncomputable def l09_pattern_p25 : Code := sA l09_pattern_p1

def l09_pattern_36 (Q : Value → Heap → Prop) (E : Chain → Heap → Prop) (x0 : Option Addr) (l0 : Nat) (c0 : Nat) (H : Heap) : Prop :=
 Does Pr 47 #[(.slice x0 l0 c0)] H (fun v106 H107 =>
 ∃ p108 : Option Addr, v106 = (.pointer p108) ∧ l09_pattern_33 Q E p108 H107) E

def l09_pattern_36_M (Q : Value → Heap → Prop) (E : Chain → Heap → Prop) (τ : Tau) (H : Heap) : Prop := mSl (τ 0) fun x0 l0 c0 => l09_pattern_36 Q E x0 l0 c0 H

theorem l09_pattern_37ok (Q : Value → Heap → Prop) (E : Chain → Heap → Prop) (τ : Tau) (H : Heap) (h : l09_pattern_36_M Q E τ H) : vc Pr l09_pattern_p25 τ (l09_pattern_q15 Q E) E H :=
  mSl_elim (i := 0) (G := fun τ => vc Pr l09_pattern_p25 τ (l09_pattern_q15 Q E) E H) h (fun x0 l0 c0 h => (conv (B := vc Pr l09_pattern_p25 (Tau.upd τ 0 (.slice x0 l0 c0)) (l09_pattern_q15 Q E) E H) (by kernel_rfl) h))

theorem l09_pattern_38ok (Q : Value → Heap → Prop) (E : Chain → Heap → Prop) (τ : Tau) (H : Heap) (h : l09_pattern_36_M Q E τ H) : vc Pr l09_pattern_p1 τ (l09_pattern_q1 Q E) E H :=
  (conv (B := vc Pr l09_pattern_p1 τ (l09_pattern_q1 Q E) E H) (by kernel_rfl) (vc_seq (K := (l09_pattern_33_M Q E)) (l09_pattern_37ok Q E τ H h) (l09_pattern_35ok Q E)))

@[reducible] noncomputable def l09_pattern_q16 (Q : Value → Heap → Prop) (E : Chain → Heap → Prop) : Exit → Tau → Heap → Prop := (xthen (l09_pattern_36_M Q E) (l09_pattern_q1 Q E))

@[reducible] noncomputable def l09_pattern_p26 : Code := sA l09_pattern_p0

def l09_pattern (Q : Value → Heap → Prop) (E : Chain → Heap → Prop) (a0 : Option Addr) (a0l : Nat) (a0c : Nat) (H : Heap) : Prop :=
 l09_pattern_36 Q E a0 a0l a0c H

theorem l09_pattern_fn (a0 : Option Addr) (a0l : Nat) (a0c : Nat) (Q : Value → Heap → Prop) (E : Chain → Heap → Prop) (H : Heap) (h : l09_pattern Q E a0 a0l a0c H)   : Does Pr 18 #[(.slice a0 a0l a0c)] H Q E :=
  Fn_of_vc (fn := Try.f18) (c := l09_pattern_p0) (args := [(.slice a0 a0l a0c)]) mixed (by kernel_rfl) (by kernel_rfl) (by kernel_rfl) (by kernel_rfl) (by kernel_rfl) ((conv (B := vc Pr l09_pattern_p0 (argT [(.slice a0 a0l a0c)]) (l09_pattern_q1 Q E) E H) (by kernel_rfl) (vc_seq (K := (l09_pattern_36_M Q E)) (conv (B := vc Pr l09_pattern_p26 (argT [(.slice a0 a0l a0c)]) (l09_pattern_q16 Q E) E H) (by kernel_rfl) h) (l09_pattern_38ok Q E))))

/-! jobmux/jobmuxlaw09.same -/
@[reducible] noncomputable def l09_same_q1 (Q : Value → Heap → Prop) (E : Chain → Heap → Prop) : Exit → Tau → Heap → Prop := (retQ Pr (Try.f26).results.toList Q)

@[reducible] noncomputable def l09_same_p0 : Code := bodyOf Try.f26

@[reducible] noncomputable def l09_same_p1 : Code := sB l09_same_p0

@[reducible] noncomputable def l09_same_p2 : Code := sB l09_same_p1

@[reducible] noncomputable def l09_same_p3 : Code := sB l09_same_p2

def l09_same_1 (Q : Value → Heap → Prop) (E : Chain → Heap → Prop)  (H : Heap) : Prop :=
 Q (.bool true) H

def l09_same_1_M (Q : Value → Heap → Prop) (E : Chain → Heap → Prop) (τ : Tau) (H : Heap) : Prop := l09_same_1 Q E  H

theorem l09_same_2ok (Q : Value → Heap → Prop) (E : Chain → Heap → Prop) (τ : Tau) (H : Heap) (h : l09_same_1_M Q E τ H) : vc Pr l09_same_p3 τ (l09_same_q1 Q E) E H :=
  (conv (B := vc Pr l09_same_p3 τ (l09_same_q1 Q E) E H) (by kernel_rfl) h)

@[reducible] noncomputable def l09_same_q2 (Q : Value → Heap → Prop) (E : Chain → Heap → Prop) : Exit → Tau → Heap → Prop := (xthen (l09_same_1_M Q E) (l09_same_q1 Q E))

@[reducible] noncomputable def l09_same_p4 : Code := sA l09_same_p2

@[reducible] noncomputable def l09_same_p5 : Code := sB l09_same_p4

@[reducible] noncomputable def l09_same_q3 (Q : Value → Heap → Prop) (E : Chain → Heap → Prop) : Exit → Tau → Heap → Prop := (xblock 0 (l09_same_q2 Q E))

@[reducible] noncomputable def l09_same_p6 : Code := sI l09_same_p5

@[reducible] noncomputable def l09_same_q4 (nx5 : Int → Heap → Prop) (Q : Value → Heap → Prop) (E : Chain → Heap → Prop) : Exit → Tau → Heap → Prop := (xthen (fun τ H => mI .i64 (τ 13) fun x13' => nx5 x13' H) (l09_same_q3 Q E))

@[reducible] noncomputable def l09_same_p7 : Code := sI l09_same_p6

@[reducible] noncomputable def l09_same_p8 : Code := sB l09_same_p7

@[reducible] noncomputable def l09_same_p9 : Code := sB l09_same_p8

@[reducible] noncomputable def l09_same_p10 : Code := sB l09_same_p9

def l09_same_3 (nx5 : Int → Heap → Prop) (Q : Value → Heap → Prop) (E : Chain → Heap → Prop) (x0 : Option Addr) (l0 : Nat) (c0 : Nat) (x1 : Option Addr) (l1 : Nat) (c1 : Nat) (x12 : Int) (x13 : Int) (H : Heap) : Prop :=
 nx5 (IntKind.wrap .i64 (x13 + 1)) H

def l09_same_3_M (nx5 : Int → Heap → Prop) (Q : Value → Heap → Prop) (E : Chain → Heap → Prop) (τ : Tau) (H : Heap) : Prop := mSl (τ 0) fun x0 l0 c0 => mSl (τ 1) fun x1 l1 c1 => mI .i64 (τ 12) fun x12 => mI .i64 (τ 13) fun x13 => l09_same_3 nx5 Q E x0 l0 c0 x1 l1 c1 x12 x13 H

theorem l09_same_4ok (nx5 : Int → Heap → Prop) (Q : Value → Heap → Prop) (E : Chain → Heap → Prop) (τ : Tau) (H : Heap) (h : l09_same_3_M nx5 Q E τ H) : vc Pr l09_same_p10 τ (l09_same_q4 nx5 Q E) E H :=
  mSl_elim (i := 0) (G := fun τ => vc Pr l09_same_p10 τ (l09_same_q4 nx5 Q E) E H) h (fun x0 l0 c0 h => mSl_elim (i := 1) (G := fun τ => vc Pr l09_same_p10 τ (l09_same_q4 nx5 Q E) E H) h (fun x1 l1 c1 h => mI_elim (i := 12) (G := fun τ => vc Pr l09_same_p10 τ (l09_same_q4 nx5 Q E) E H) h (fun x12 h => mI_elim (i := 13) (G := fun τ => vc Pr l09_same_p10 τ (l09_same_q4 nx5 Q E) E H) h (fun x13 h => (conv (B := vc Pr l09_same_p10 (Tau.upd (Tau.upd (Tau.upd (Tau.upd τ 0 (.slice x0 l0 c0)) 1 (.slice x1 l1 c1)) 12 (.int .i64 x12)) 13 (.int .i64 x13)) (l09_same_q4 nx5 Q E) E H) (by kernel_rfl) h)))))

@[reducible] noncomputable def l09_same_q5 (nx5 : Int → Heap → Prop) (Q : Value → Heap → Prop) (E : Chain → Heap → Prop) : Exit → Tau → Heap → Prop := (xthen (l09_same_3_M nx5 Q E) (l09_same_q4 nx5 Q E))

@[reducible] noncomputable def l09_same_p11 : Code := sA l09_same_p9

def l09_same_5 (nx5 : Int → Heap → Prop) (Q : Value → Heap → Prop) (E : Chain → Heap → Prop) (x0 : Option Addr) (l0 : Nat) (c0 : Nat) (x1 : Option Addr) (l1 : Nat) (c1 : Nat) (x12 : Int) (x13 : Int) (H : Heap) : Prop :=
 (0 ≤ (x13 : Int) ∧ (x13 : Int) < ((l0 : Nat) : Int)) ∧ ptr x0 fun q10 =>
 ldI .i64 (Addr.add q10 ((x13 : Int).toNat * 1)) H fun n11 =>
 (0 ≤ (x13 : Int) ∧ (x13 : Int) < ((l1 : Nat) : Int)) ∧ ptr x1 fun q12 =>
 ldI .i64 (Addr.add q12 ((x13 : Int).toNat * 1)) H fun n13 =>
 sel ((n11 : Int) != n13)
 (Q (.bool false) H)
 (l09_same_3 nx5 Q E x0 l0 c0 x1 l1 c1 x12 x13 H)

def l09_same_5_M (nx5 : Int → Heap → Prop) (Q : Value → Heap → Prop) (E : Chain → Heap → Prop) (τ : Tau) (H : Heap) : Prop := mSl (τ 0) fun x0 l0 c0 => mSl (τ 1) fun x1 l1 c1 => mI .i64 (τ 12) fun x12 => mI .i64 (τ 13) fun x13 => l09_same_5 nx5 Q E x0 l0 c0 x1 l1 c1 x12 x13 H

theorem l09_same_6ok (nx5 : Int → Heap → Prop) (Q : Value → Heap → Prop) (E : Chain → Heap → Prop) (τ : Tau) (H : Heap) (h : l09_same_5_M nx5 Q E τ H) : vc Pr l09_same_p11 τ (l09_same_q5 nx5 Q E) E H :=
  mSl_elim (i := 0) (G := fun τ => vc Pr l09_same_p11 τ (l09_same_q5 nx5 Q E) E H) h (fun x0 l0 c0 h => mSl_elim (i := 1) (G := fun τ => vc Pr l09_same_p11 τ (l09_same_q5 nx5 Q E) E H) h (fun x1 l1 c1 h => mI_elim (i := 12) (G := fun τ => vc Pr l09_same_p11 τ (l09_same_q5 nx5 Q E) E H) h (fun x12 h => mI_elim (i := 13) (G := fun τ => vc Pr l09_same_p11 τ (l09_same_q5 nx5 Q E) E H) h (fun x13 h => (conv (B := vc Pr l09_same_p11 (Tau.upd (Tau.upd (Tau.upd (Tau.upd τ 0 (.slice x0 l0 c0)) 1 (.slice x1 l1 c1)) 12 (.int .i64 x12)) 13 (.int .i64 x13)) (l09_same_q5 nx5 Q E) E H) (by kernel_rfl) h)))))

theorem l09_same_7ok (nx5 : Int → Heap → Prop) (Q : Value → Heap → Prop) (E : Chain → Heap → Prop) (τ : Tau) (H : Heap) (h : l09_same_5_M nx5 Q E τ H) : vc Pr l09_same_p9 τ (l09_same_q4 nx5 Q E) E H :=
  (conv (B := vc Pr l09_same_p9 τ (l09_same_q4 nx5 Q E) E H) (by kernel_rfl) (vc_seq (K := (l09_same_3_M nx5 Q E)) (l09_same_6ok nx5 Q E τ H h) (l09_same_4ok nx5 Q E)))

@[reducible] noncomputable def l09_same_q6 (nx5 : Int → Heap → Prop) (Q : Value → Heap → Prop) (E : Chain → Heap → Prop) : Exit → Tau → Heap → Prop := (xthen (l09_same_5_M nx5 Q E) (l09_same_q4 nx5 Q E))

@[reducible] noncomputable def l09_same_p12 : Code := sA l09_same_p8

def l09_same_8 (nx5 : Int → Heap → Prop) (Q : Value → Heap → Prop) (E : Chain → Heap → Prop) (x0 : Option Addr) (l0 : Nat) (c0 : Nat) (x1 : Option Addr) (l1 : Nat) (c1 : Nat) (x12 : Int) (x13 : Int) (x14 : Bool) (H : Heap) : Prop :=
 sel x14
 (l09_same_5 nx5 Q E x0 l0 c0 x1 l1 c1 x12 x13 H)
 (l09_same_1 Q E  H)

def l09_same_8_M (nx5 : Int → Heap → Prop) (Q : Value → Heap → Prop) (E : Chain → Heap → Prop) (τ : Tau) (H : Heap) : Prop := mSl (τ 0) fun x0 l0 c0 => mSl (τ 1) fun x1 l1 c1 => mI .i64 (τ 12) fun x12 => mI .i64 (τ 13) fun x13 => mB (τ 14) fun x14 => l09_same_8 nx5 Q E x0 l0 c0 x1 l1 c1 x12 x13 x14 H

theorem l09_same_9ok (nx5 : Int → Heap → Prop) (Q : Value → Heap → Prop) (E : Chain → Heap → Prop) (τ : Tau) (H : Heap) (h : l09_same_8_M nx5 Q E τ H) : vc Pr l09_same_p12 τ (l09_same_q6 nx5 Q E) E H :=
  mSl_elim (i := 0) (G := fun τ => vc Pr l09_same_p12 τ (l09_same_q6 nx5 Q E) E H) h (fun x0 l0 c0 h => mSl_elim (i := 1) (G := fun τ => vc Pr l09_same_p12 τ (l09_same_q6 nx5 Q E) E H) h (fun x1 l1 c1 h => mI_elim (i := 12) (G := fun τ => vc Pr l09_same_p12 τ (l09_same_q6 nx5 Q E) E H) h (fun x12 h => mI_elim (i := 13) (G := fun τ => vc Pr l09_same_p12 τ (l09_same_q6 nx5 Q E) E H) h (fun x13 h => mB_elim (i := 14) (G := fun τ => vc Pr l09_same_p12 τ (l09_same_q6 nx5 Q E) E H) h (fun x14 h => (conv (B := vc Pr l09_same_p12 (Tau.upd (Tau.upd (Tau.upd (Tau.upd (Tau.upd τ 0 (.slice x0 l0 c0)) 1 (.slice x1 l1 c1)) 12 (.int .i64 x12)) 13 (.int .i64 x13)) 14 (.bool x14)) (l09_same_q6 nx5 Q E) E H) (by kernel_rfl) h))))))

theorem l09_same_10ok (nx5 : Int → Heap → Prop) (Q : Value → Heap → Prop) (E : Chain → Heap → Prop) (τ : Tau) (H : Heap) (h : l09_same_8_M nx5 Q E τ H) : vc Pr l09_same_p8 τ (l09_same_q4 nx5 Q E) E H :=
  (conv (B := vc Pr l09_same_p8 τ (l09_same_q4 nx5 Q E) E H) (by kernel_rfl) (vc_seq (K := (l09_same_5_M nx5 Q E)) (l09_same_9ok nx5 Q E τ H h) (l09_same_7ok nx5 Q E)))

@[reducible] noncomputable def l09_same_q7 (nx5 : Int → Heap → Prop) (Q : Value → Heap → Prop) (E : Chain → Heap → Prop) : Exit → Tau → Heap → Prop := (xthen (l09_same_8_M nx5 Q E) (l09_same_q4 nx5 Q E))

@[reducible] noncomputable def l09_same_p13 : Code := sA l09_same_p7

def l09_same_11 (nx5 : Int → Heap → Prop) (Q : Value → Heap → Prop) (E : Chain → Heap → Prop) (x0 : Option Addr) (l0 : Nat) (c0 : Nat) (x1 : Option Addr) (l1 : Nat) (c1 : Nat) (x12 : Int) (x13 : Int) (H : Heap) : Prop :=
 l09_same_8 nx5 Q E x0 l0 c0 x1 l1 c1 x12 x13 (decide ((x13 : Int) < x12)) H

def l09_same_11_M (nx5 : Int → Heap → Prop) (Q : Value → Heap → Prop) (E : Chain → Heap → Prop) (τ : Tau) (H : Heap) : Prop := mSl (τ 0) fun x0 l0 c0 => mSl (τ 1) fun x1 l1 c1 => mI .i64 (τ 12) fun x12 => mI .i64 (τ 13) fun x13 => l09_same_11 nx5 Q E x0 l0 c0 x1 l1 c1 x12 x13 H

theorem l09_same_12ok (nx5 : Int → Heap → Prop) (Q : Value → Heap → Prop) (E : Chain → Heap → Prop) (τ : Tau) (H : Heap) (h : l09_same_11_M nx5 Q E τ H) : vc Pr l09_same_p13 τ (l09_same_q7 nx5 Q E) E H :=
  mSl_elim (i := 0) (G := fun τ => vc Pr l09_same_p13 τ (l09_same_q7 nx5 Q E) E H) h (fun x0 l0 c0 h => mSl_elim (i := 1) (G := fun τ => vc Pr l09_same_p13 τ (l09_same_q7 nx5 Q E) E H) h (fun x1 l1 c1 h => mI_elim (i := 12) (G := fun τ => vc Pr l09_same_p13 τ (l09_same_q7 nx5 Q E) E H) h (fun x12 h => mI_elim (i := 13) (G := fun τ => vc Pr l09_same_p13 τ (l09_same_q7 nx5 Q E) E H) h (fun x13 h => (conv (B := vc Pr l09_same_p13 (Tau.upd (Tau.upd (Tau.upd (Tau.upd τ 0 (.slice x0 l0 c0)) 1 (.slice x1 l1 c1)) 12 (.int .i64 x12)) 13 (.int .i64 x13)) (l09_same_q7 nx5 Q E) E H) (by kernel_rfl) h)))))

theorem l09_same_13ok (nx5 : Int → Heap → Prop) (Q : Value → Heap → Prop) (E : Chain → Heap → Prop) (τ : Tau) (H : Heap) (h : l09_same_11_M nx5 Q E τ H) : vc Pr l09_same_p7 τ (l09_same_q4 nx5 Q E) E H :=
  (conv (B := vc Pr l09_same_p7 τ (l09_same_q4 nx5 Q E) E H) (by kernel_rfl) (vc_seq (K := (l09_same_8_M nx5 Q E)) (l09_same_12ok nx5 Q E τ H h) (l09_same_10ok nx5 Q E)))

def l09_same_14 (Q : Value → Heap → Prop) (E : Chain → Heap → Prop) (x0 : Option Addr) (l0 : Nat) (c0 : Nat) (x1 : Option Addr) (l1 : Nat) (c1 : Nat) (x12 : Int) (x13 : Int) (H : Heap) : Prop :=
 ∃ (I : Int → Heap → Prop) (μ : Int → Heap → Nat), I x13 H ∧ ∀ (x13 : Int) (H : Heap), I x13 H →
 l09_same_11 (fun x13' H1 => I x13' H1 ∧ μ x13' H1 < μ x13 H) Q E x0 l0 c0 x1 l1 c1 x12 x13 H

def l09_same_14_M (Q : Value → Heap → Prop) (E : Chain → Heap → Prop) (τ : Tau) (H : Heap) : Prop := mSl (τ 0) fun x0 l0 c0 => mSl (τ 1) fun x1 l1 c1 => mI .i64 (τ 12) fun x12 => mI .i64 (τ 13) fun x13 => l09_same_14 Q E x0 l0 c0 x1 l1 c1 x12 x13 H

theorem l09_same_15ok (Q : Value → Heap → Prop) (E : Chain → Heap → Prop) (τ : Tau) (H : Heap) (h : l09_same_14_M Q E τ H) : vc Pr l09_same_p6 τ (l09_same_q3 Q E) E H :=
  mSl_elim (i := 0) (G := fun τ => vc Pr l09_same_p6 τ (l09_same_q3 Q E) E H) h (fun x0 l0 c0 h => mSl_elim (i := 1) (G := fun τ => vc Pr l09_same_p6 τ (l09_same_q3 Q E) E H) h (fun x1 l1 c1 h => mI_elim (i := 12) (G := fun τ => vc Pr l09_same_p6 τ (l09_same_q3 Q E) E H) h (fun x12 h => mI_elim (i := 13) (G := fun τ => vc Pr l09_same_p6 τ (l09_same_q3 Q E) E H) h (fun x13 h => match h with | ⟨I, μ, h0, hr⟩ => (conv (B := vc Pr l09_same_p6 (Tau.upd (Tau.upd (Tau.upd (Tau.upd τ 0 (.slice x0 l0 c0)) 1 (.slice x1 l1 c1)) 12 (.int .i64 x12)) 13 (.int .i64 x13)) (l09_same_q3 Q E) E H) (by kernel_rfl) (vc_loop (c := sI l09_same_p6) (τ := (Tau.upd (Tau.upd (Tau.upd (Tau.upd τ 0 (.slice x0 l0 c0)) 1 (.slice x1 l1 c1)) 12 (.int .i64 x12)) 13 (.int .i64 x13))) [0, 1, 12] (fun τ H => mI .i64 (τ 13) fun x13' => I x13' H) (fun τ H => μ (gI (τ 13)) H) (by kernel_rfl) h0 (fun τ1 H1 hf hI => fix_elim (τ := τ1) (i := 0) (v := (.slice x0 l0 c0)) (G := fun τ => vc Pr (sI l09_same_p6) τ (xthen (fun τ2 H2 => (mI .i64 (τ2 13) fun x13' => I x13' H2) ∧ μ (gI (τ2 13)) H2 < μ (gI (τ 13)) H1) (l09_same_q3 Q E)) E H1) (hf 0 (by simp)) (fix_elim (τ := (Tau.upd τ1 0 (.slice x0 l0 c0))) (i := 1) (v := (.slice x1 l1 c1)) (G := fun τ => vc Pr (sI l09_same_p6) τ (xthen (fun τ2 H2 => (mI .i64 (τ2 13) fun x13' => I x13' H2) ∧ μ (gI (τ2 13)) H2 < μ (gI (τ 13)) H1) (l09_same_q3 Q E)) E H1) (hf 1 (by simp)) (fix_elim (τ := (Tau.upd (Tau.upd τ1 0 (.slice x0 l0 c0)) 1 (.slice x1 l1 c1))) (i := 12) (v := (.int .i64 x12)) (G := fun τ => vc Pr (sI l09_same_p6) τ (xthen (fun τ2 H2 => (mI .i64 (τ2 13) fun x13' => I x13' H2) ∧ μ (gI (τ2 13)) H2 < μ (gI (τ 13)) H1) (l09_same_q3 Q E)) E H1) (hf 12 (by simp)) (mI_elim (i := 13) (G := fun τ => vc Pr (sI l09_same_p6) τ (xthen (fun τ2 H2 => (mI .i64 (τ2 13) fun x13' => I x13' H2) ∧ μ (gI (τ2 13)) H2 < μ (gI (τ 13)) H1) (l09_same_q3 Q E)) E H1) hI (fun x13r h => (conv (B := vc Pr (sI l09_same_p6) (Tau.upd (Tau.upd (Tau.upd (Tau.upd τ1 0 (.slice x0 l0 c0)) 1 (.slice x1 l1 c1)) 12 (.int .i64 x12)) 13 (.int .i64 x13r)) (xthen (fun τ2 H2 => (mI .i64 (τ2 13) fun x13' => I x13' H2) ∧ μ (gI (τ2 13)) H2 < μ (gI ((Tau.upd (Tau.upd (Tau.upd (Tau.upd τ1 0 (.slice x0 l0 c0)) 1 (.slice x1 l1 c1)) 12 (.int .i64 x12)) 13 (.int .i64 x13r)) 13)) H1) (l09_same_q3 Q E)) E H1) (by kernel_rfl) (vc_xthen (l09_same_13ok (fun x13' H2 => I x13' H2 ∧ μ x13' H2 < μ x13r H1) Q E (Tau.upd (Tau.upd (Tau.upd (Tau.upd τ1 0 (.slice x0 l0 c0)) 1 (.slice x1 l1 c1)) 12 (.int .i64 x12)) 13 (.int .i64 x13r)) H1 (conv (B := l09_same_11_M (fun x13' H2 => I x13' H2 ∧ μ x13' H2 < μ x13r H1) Q E (Tau.upd (Tau.upd (Tau.upd (Tau.upd τ1 0 (.slice x0 l0 c0)) 1 (.slice x1 l1 c1)) 12 (.int .i64 x12)) 13 (.int .i64 x13r)) H1) (by kernel_rfl) (hr x13r H1 h))) (fun τ2 H2 hk => mI_elim (i := 13) (G := fun τ => (mI .i64 (τ 13) fun x13' => I x13' H2) ∧ μ (gI (τ 13)) H2 < μ x13r H1) hk (fun x13' h => h)))))))))))))))

theorem l09_same_16ok (Q : Value → Heap → Prop) (E : Chain → Heap → Prop) (τ : Tau) (H : Heap) (h : l09_same_14_M Q E τ H) : vc Pr l09_same_p5 τ (l09_same_q2 Q E) E H :=
  (conv (B := vc Pr l09_same_p5 τ (l09_same_q2 Q E) E H) (by kernel_rfl) (l09_same_15ok Q E τ H h))

@[reducible] noncomputable def l09_same_q8 (Q : Value → Heap → Prop) (E : Chain → Heap → Prop) : Exit → Tau → Heap → Prop := (xthen (l09_same_14_M Q E) (l09_same_q2 Q E))

@[reducible] noncomputable def l09_same_p14 : Code := sA l09_same_p4

def l09_same_17 (Q : Value → Heap → Prop) (E : Chain → Heap → Prop) (x0 : Option Addr) (l0 : Nat) (c0 : Nat) (x1 : Option Addr) (l1 : Nat) (c1 : Nat) (H : Heap) : Prop :=
 l09_same_14 Q E x0 l0 c0 x1 l1 c1 ((l0 : Nat) : Int) 0 H

def l09_same_17_M (Q : Value → Heap → Prop) (E : Chain → Heap → Prop) (τ : Tau) (H : Heap) : Prop := mSl (τ 0) fun x0 l0 c0 => mSl (τ 1) fun x1 l1 c1 => l09_same_17 Q E x0 l0 c0 x1 l1 c1 H

theorem l09_same_18ok (Q : Value → Heap → Prop) (E : Chain → Heap → Prop) (τ : Tau) (H : Heap) (h : l09_same_17_M Q E τ H) : vc Pr l09_same_p14 τ (l09_same_q8 Q E) E H :=
  mSl_elim (i := 0) (G := fun τ => vc Pr l09_same_p14 τ (l09_same_q8 Q E) E H) h (fun x0 l0 c0 h => mSl_elim (i := 1) (G := fun τ => vc Pr l09_same_p14 τ (l09_same_q8 Q E) E H) h (fun x1 l1 c1 h => (conv (B := vc Pr l09_same_p14 (Tau.upd (Tau.upd τ 0 (.slice x0 l0 c0)) 1 (.slice x1 l1 c1)) (l09_same_q8 Q E) E H) (by kernel_rfl) h)))

theorem l09_same_19ok (Q : Value → Heap → Prop) (E : Chain → Heap → Prop) (τ : Tau) (H : Heap) (h : l09_same_17_M Q E τ H) : vc Pr l09_same_p4 τ (l09_same_q2 Q E) E H :=
  (conv (B := vc Pr l09_same_p4 τ (l09_same_q2 Q E) E H) (by kernel_rfl) (vc_seq (K := (l09_same_14_M Q E)) (l09_same_18ok Q E τ H h) (l09_same_16ok Q E)))

theorem l09_same_20ok (Q : Value → Heap → Prop) (E : Chain → Heap → Prop) (τ : Tau) (H : Heap) (h : l09_same_17_M Q E τ H) : vc Pr l09_same_p2 τ (l09_same_q1 Q E) E H :=
  (conv (B := vc Pr l09_same_p2 τ (l09_same_q1 Q E) E H) (by kernel_rfl) (vc_seq (K := (l09_same_1_M Q E)) (l09_same_19ok Q E τ H h) (l09_same_2ok Q E)))

@[reducible] noncomputable def l09_same_q9 (Q : Value → Heap → Prop) (E : Chain → Heap → Prop) : Exit → Tau → Heap → Prop := (xthen (l09_same_17_M Q E) (l09_same_q1 Q E))

@[reducible] noncomputable def l09_same_p15 : Code := sA l09_same_p1

def l09_same_21 (Q : Value → Heap → Prop) (E : Chain → Heap → Prop) (x0 : Option Addr) (l0 : Nat) (c0 : Nat) (x1 : Option Addr) (l1 : Nat) (c1 : Nat) (H : Heap) : Prop :=
 sel ((((l0 : Nat) : Int) : Int) != ((l1 : Nat) : Int))
 (Q (.bool false) H)
 (l09_same_17 Q E x0 l0 c0 x1 l1 c1 H)

def l09_same_21_M (Q : Value → Heap → Prop) (E : Chain → Heap → Prop) (τ : Tau) (H : Heap) : Prop := mSl (τ 0) fun x0 l0 c0 => mSl (τ 1) fun x1 l1 c1 => l09_same_21 Q E x0 l0 c0 x1 l1 c1 H

theorem l09_same_22ok (Q : Value → Heap → Prop) (E : Chain → Heap → Prop) (τ : Tau) (H : Heap) (h : l09_same_21_M Q E τ H) : vc Pr l09_same_p15 τ (l09_same_q9 Q E) E H :=
  mSl_elim (i := 0) (G := fun τ => vc Pr l09_same_p15 τ (l09_same_q9 Q E) E H) h (fun x0 l0 c0 h => mSl_elim (i := 1) (G := fun τ => vc Pr l09_same_p15 τ (l09_same_q9 Q E) E H) h (fun x1 l1 c1 h => (conv (B := vc Pr l09_same_p15 (Tau.upd (Tau.upd τ 0 (.slice x0 l0 c0)) 1 (.slice x1 l1 c1)) (l09_same_q9 Q E) E H) (by kernel_rfl) h)))

theorem l09_same_23ok (Q : Value → Heap → Prop) (E : Chain → Heap → Prop) (τ : Tau) (H : Heap) (h : l09_same_21_M Q E τ H) : vc Pr l09_same_p1 τ (l09_same_q1 Q E) E H :=
  (conv (B := vc Pr l09_same_p1 τ (l09_same_q1 Q E) E H) (by kernel_rfl) (vc_seq (K := (l09_same_17_M Q E)) (l09_same_22ok Q E τ H h) (l09_same_20ok Q E)))

@[reducible] noncomputable def l09_same_q10 (Q : Value → Heap → Prop) (E : Chain → Heap → Prop) : Exit → Tau → Heap → Prop := (xthen (l09_same_21_M Q E) (l09_same_q1 Q E))

@[reducible] noncomputable def l09_same_p16 : Code := sA l09_same_p0

def l09_same (Q : Value → Heap → Prop) (E : Chain → Heap → Prop) (a0 : Option Addr) (a0l : Nat) (a0c : Nat) (a1 : Option Addr) (a1l : Nat) (a1c : Nat) (H : Heap) : Prop :=
 l09_same_21 Q E a0 a0l a0c a1 a1l a1c H

theorem l09_same_fn (a0 : Option Addr) (a0l : Nat) (a0c : Nat) (a1 : Option Addr) (a1l : Nat) (a1c : Nat) (Q : Value → Heap → Prop) (E : Chain → Heap → Prop) (H : Heap) (h : l09_same Q E a0 a0l a0c a1 a1l a1c H)   : Does Pr 26 #[(.slice a0 a0l a0c), (.slice a1 a1l a1c)] H Q E :=
  Fn_of_vc (fn := Try.f26) (c := l09_same_p0) (args := [(.slice a0 a0l a0c), (.slice a1 a1l a1c)]) mixed (by kernel_rfl) (by kernel_rfl) (by kernel_rfl) (by kernel_rfl) (by kernel_rfl) ((conv (B := vc Pr l09_same_p0 (argT [(.slice a0 a0l a0c), (.slice a1 a1l a1c)]) (l09_same_q1 Q E) E H) (by kernel_rfl) (vc_seq (K := (l09_same_21_M Q E)) (conv (B := vc Pr l09_same_p16 (argT [(.slice a0 a0l a0c), (.slice a1 a1l a1c)]) (l09_same_q10 Q E) E H) (by kernel_rfl) h) (l09_same_23ok Q E))))

end Go.Proofs.Ytaffcoiomggpfaa
