import Derived.Test.YtaffcoiomggpfaaVPr
/- Printed by gen.py: the Go functions of package r08 over a heap view, and that the model does so. -/
namespace Go.Proofs.Ytaffcoiomggpfaa
open Go.V
set_option linter.unusedVariables false
set_option maxRecDepth 100000
/-! jobmux/jobmuxref08.Kids -/
@[reducible] noncomputable def r08_Kids_q1 (Q : Value → Heap → Prop) (E : Chain → Heap → Prop) : Exit → Tau → Heap → Prop := (retQ Pr (Try.f42).results.toList Q)

@[reducible] noncomputable def r08_Kids_p0 : Code := bodyOf Try.f42

@[reducible] noncomputable def r08_Kids_p1 : Code := sB r08_Kids_p0

@[reducible] noncomputable def r08_Kids_p2 : Code := sB r08_Kids_p1

def r08_Kids_1 (Q : Value → Heap → Prop) (E : Chain → Heap → Prop)  (H : Heap) : Prop :=
 Q (.int .i64 0) H

def r08_Kids_1_M (Q : Value → Heap → Prop) (E : Chain → Heap → Prop) (τ : Tau) (H : Heap) : Prop := r08_Kids_1 Q E  H

theorem r08_Kids_2ok (Q : Value → Heap → Prop) (E : Chain → Heap → Prop) (τ : Tau) (H : Heap) (h : r08_Kids_1_M Q E τ H) : vc Pr r08_Kids_p2 τ (r08_Kids_q1 Q E) E H :=
  (conv (B := vc Pr r08_Kids_p2 τ (r08_Kids_q1 Q E) E H) (by kernel_rfl) h)

@[reducible] noncomputable def r08_Kids_q2 (Q : Value → Heap → Prop) (E : Chain → Heap → Prop) : Exit → Tau → Heap → Prop := (xthen (r08_Kids_1_M Q E) (r08_Kids_q1 Q E))

@[reducible] noncomputable def r08_Kids_p3 : Code := sA r08_Kids_p1

@[reducible] noncomputable def r08_Kids_p4 : Code := sB r08_Kids_p3

@[reducible] noncomputable def r08_Kids_q3 (Q : Value → Heap → Prop) (E : Chain → Heap → Prop) : Exit → Tau → Heap → Prop := (xblock 0 (r08_Kids_q2 Q E))

@[reducible] noncomputable def r08_Kids_p5 : Code := sI r08_Kids_p4

@[reducible] noncomputable def r08_Kids_p6 : Code := sB r08_Kids_p5

@[reducible] noncomputable def r08_Kids_p7 : Code := sT r08_Kids_p6

def r08_Kids_3 (Q : Value → Heap → Prop) (E : Chain → Heap → Prop)  (H : Heap) : Prop :=
 Q (.int .i64 2) H

def r08_Kids_3_M (Q : Value → Heap → Prop) (E : Chain → Heap → Prop) (τ : Tau) (H : Heap) : Prop := r08_Kids_3 Q E  H

theorem r08_Kids_4ok (Q : Value → Heap → Prop) (E : Chain → Heap → Prop) (τ : Tau) (H : Heap) (h : r08_Kids_3_M Q E τ H) : vc Pr r08_Kids_p7 τ (r08_Kids_q3 Q E) E H :=
  (conv (B := vc Pr r08_Kids_p7 τ (r08_Kids_q3 Q E) E H) (by kernel_rfl) h)

@[reducible] noncomputable def r08_Kids_p8 : Code := sE r08_Kids_p6

@[reducible] noncomputable def r08_Kids_p9 : Code := sB r08_Kids_p8

def r08_Kids_5 (Q : Value → Heap → Prop) (E : Chain → Heap → Prop) (x7 : Bool) (H : Heap) : Prop :=
 sel x7
 (Q (.int .i64 1) H)
 (r08_Kids_1 Q E  H)

def r08_Kids_5_M (Q : Value → Heap → Prop) (E : Chain → Heap → Prop) (τ : Tau) (H : Heap) : Prop := mB (τ 7) fun x7 => r08_Kids_5 Q E x7 H

theorem r08_Kids_6ok (Q : Value → Heap → Prop) (E : Chain → Heap → Prop) (τ : Tau) (H : Heap) (h : r08_Kids_5_M Q E τ H) : vc Pr r08_Kids_p9 τ (r08_Kids_q3 Q E) E H :=
  mB_elim (i := 7) (G := fun τ => vc Pr r08_Kids_p9 τ (r08_Kids_q3 Q E) E H) h (fun x7 h => (conv (B := vc Pr r08_Kids_p9 (Tau.upd τ 7 (.bool x7)) (r08_Kids_q3 Q E) E H) (by kernel_rfl) h))

@[reducible] noncomputable def r08_Kids_q4 (Q : Value → Heap → Prop) (E : Chain → Heap → Prop) : Exit → Tau → Heap → Prop := (xthen (r08_Kids_5_M Q E) (r08_Kids_q3 Q E))

@[reducible] noncomputable def r08_Kids_p10 : Code := sA r08_Kids_p8

def r08_Kids_7 (Q : Value → Heap → Prop) (E : Chain → Heap → Prop) (x3 : Int) (H : Heap) : Prop :=
 sel ((x3 : Int) == 5)
 (r08_Kids_5 Q E ((x3 : Int) == 5) H)
 (sel ((x3 : Int) == 6)
 (r08_Kids_5 Q E ((x3 : Int) == 6) H)
 (r08_Kids_5 Q E ((x3 : Int) == 7) H))

def r08_Kids_7_M (Q : Value → Heap → Prop) (E : Chain → Heap → Prop) (τ : Tau) (H : Heap) : Prop := mI .i64 (τ 3) fun x3 => r08_Kids_7 Q E x3 H

theorem r08_Kids_8ok (Q : Value → Heap → Prop) (E : Chain → Heap → Prop) (τ : Tau) (H : Heap) (h : r08_Kids_7_M Q E τ H) : vc Pr r08_Kids_p10 τ (r08_Kids_q4 Q E) E H :=
  mI_elim (i := 3) (G := fun τ => vc Pr r08_Kids_p10 τ (r08_Kids_q4 Q E) E H) h (fun x3 h => (conv (B := vc Pr r08_Kids_p10 (Tau.upd τ 3 (.int .i64 x3)) (r08_Kids_q4 Q E) E H) (by kernel_rfl) h))

theorem r08_Kids_9ok (Q : Value → Heap → Prop) (E : Chain → Heap → Prop) (τ : Tau) (H : Heap) (h : r08_Kids_7_M Q E τ H) : vc Pr r08_Kids_p8 τ (r08_Kids_q3 Q E) E H :=
  (conv (B := vc Pr r08_Kids_p8 τ (r08_Kids_q3 Q E) E H) (by kernel_rfl) (vc_seq (K := (r08_Kids_5_M Q E)) (r08_Kids_8ok Q E τ H h) (r08_Kids_6ok Q E)))

def r08_Kids_10 (Q : Value → Heap → Prop) (E : Chain → Heap → Prop) (x3 : Int) (x4 : Bool) (H : Heap) : Prop :=
 sel x4
 (r08_Kids_3 Q E  H)
 (r08_Kids_7 Q E x3 H)

def r08_Kids_10_M (Q : Value → Heap → Prop) (E : Chain → Heap → Prop) (τ : Tau) (H : Heap) : Prop := mI .i64 (τ 3) fun x3 => mB (τ 4) fun x4 => r08_Kids_10 Q E x3 x4 H

theorem r08_Kids_11ok (Q : Value → Heap → Prop) (E : Chain → Heap → Prop) (τ : Tau) (H : Heap) (h : r08_Kids_10_M Q E τ H) : vc Pr r08_Kids_p6 τ (r08_Kids_q3 Q E) E H :=
  mI_elim (i := 3) (G := fun τ => vc Pr r08_Kids_p6 τ (r08_Kids_q3 Q E) E H) h (fun x3 h => mB_elim (i := 4) (G := fun τ => vc Pr r08_Kids_p6 τ (r08_Kids_q3 Q E) E H) h (fun x4 h => (conv (B := vc Pr r08_Kids_p6 (Tau.upd (Tau.upd τ 3 (.int .i64 x3)) 4 (.bool x4)) (r08_Kids_q3 Q E) E H) (by kernel_rfl) (sel_map (r08_Kids_4ok Q E (Tau.upd (Tau.upd τ 3 (.int .i64 x3)) 4 (.bool x4)) H) (r08_Kids_9ok Q E (Tau.upd (Tau.upd τ 3 (.int .i64 x3)) 4 (.bool x4)) H) (conv (B := sel x4 (r08_Kids_3_M Q E (Tau.upd (Tau.upd τ 3 (.int .i64 x3)) 4 (.bool x4)) H) (r08_Kids_7_M Q E (Tau.upd (Tau.upd τ 3 (.int .i64 x3)) 4 (.bool x4)) H)) (by kernel_rfl) h)))))

@[reducible] noncomputable def r08_Kids_q5 (Q : Value → Heap → Prop) (E : Chain → Heap → Prop) : Exit → Tau → Heap → Prop := (xthen (r08_Kids_10_M Q E) (r08_Kids_q3 Q E))

@[reducible] noncomputable def r08_Kids_p11 : Code := sA r08_Kids_p5

def r08_Kids_12 (Q : Value → Heap → Prop) (E : Chain → Heap → Prop) (x3 : Int) (H : Heap) : Prop :=
 sel ((x3 : Int) == 3)
 (r08_Kids_10 Q E x3 ((x3 : Int) == 3) H)
 (r08_Kids_10 Q E x3 ((x3 : Int) == 4) H)

def r08_Kids_12_M (Q : Value → Heap → Prop) (E : Chain → Heap → Prop) (τ : Tau) (H : Heap) : Prop := mI .i64 (τ 3) fun x3 => r08_Kids_12 Q E x3 H

theorem r08_Kids_13ok (Q : Value → Heap → Prop) (E : Chain → Heap → Prop) (τ : Tau) (H : Heap) (h : r08_Kids_12_M Q E τ H) : vc Pr r08_Kids_p11 τ (r08_Kids_q5 Q E) E H :=
  mI_elim (i := 3) (G := fun τ => vc Pr r08_Kids_p11 τ (r08_Kids_q5 Q E) E H) h (fun x3 h => (conv (B := vc Pr r08_Kids_p11 (Tau.upd τ 3 (.int .i64 x3)) (r08_Kids_q5 Q E) E H) (by kernel_rfl) h))

theorem r08_Kids_14ok (Q : Value → Heap → Prop) (E : Chain → Heap → Prop) (τ : Tau) (H : Heap) (h : r08_Kids_12_M Q E τ H) : vc Pr r08_Kids_p5 τ (r08_Kids_q3 Q E) E H :=
  (conv (B := vc Pr r08_Kids_p5 τ (r08_Kids_q3 Q E) E H) (by kernel_rfl) (vc_seq (K := (r08_Kids_10_M Q E)) (r08_Kids_13ok Q E τ H h) (r08_Kids_11ok Q E)))

theorem r08_Kids_15ok (Q : Value → Heap → Prop) (E : Chain → Heap → Prop) (τ : Tau) (H : Heap) (h : r08_Kids_12_M Q E τ H) : vc Pr r08_Kids_p4 τ (r08_Kids_q2 Q E) E H :=
  (conv (B := vc Pr r08_Kids_p4 τ (r08_Kids_q2 Q E) E H) (by kernel_rfl) (r08_Kids_14ok Q E τ H h))

@[reducible] noncomputable def r08_Kids_q6 (Q : Value → Heap → Prop) (E : Chain → Heap → Prop) : Exit → Tau → Heap → Prop := (xthen (r08_Kids_12_M Q E) (r08_Kids_q2 Q E))

@[reducible] noncomputable def r08_Kids_p12 : Code := sA r08_Kids_p3

def r08_Kids_16 (Q : Value → Heap → Prop) (E : Chain → Heap → Prop) (x0 : Int) (H : Heap) : Prop :=
 r08_Kids_12 Q E x0 H

def r08_Kids_16_M (Q : Value → Heap → Prop) (E : Chain → Heap → Prop) (τ : Tau) (H : Heap) : Prop := mI .i64 (τ 0) fun x0 => r08_Kids_16 Q E x0 H

theorem r08_Kids_17ok (Q : Value → Heap → Prop) (E : Chain → Heap → Prop) (τ : Tau) (H : Heap) (h : r08_Kids_16_M Q E τ H) : vc Pr r08_Kids_p12 τ (r08_Kids_q6 Q E) E H :=
  mI_elim (i := 0) (G := fun τ => vc Pr r08_Kids_p12 τ (r08_Kids_q6 Q E) E H) h (fun x0 h => (conv (B := vc Pr r08_Kids_p12 (Tau.upd τ 0 (.int .i64 x0)) (r08_Kids_q6 Q E) E H) (by kernel_rfl) h))

theorem r08_Kids_18ok (Q : Value → Heap → Prop) (E : Chain → Heap → Prop) (τ : Tau) (H : Heap) (h : r08_Kids_16_M Q E τ H) : vc Pr r08_Kids_p3 τ (r08_Kids_q2 Q E) E H :=
  (conv (B := vc Pr r08_Kids_p3 τ (r08_Kids_q2 Q E) E H) (by kernel_rfl) (vc_seq (K := (r08_Kids_12_M Q E)) (r08_Kids_17ok Q E τ H h) (r08_Kids_15ok Q E)))

theorem r08_Kids_19ok (Q : Value → Heap → Prop) (E : Chain → Heap → Prop) (τ : Tau) (H : Heap) (h : r08_Kids_16_M Q E τ H) : vc Pr r08_Kids_p1 τ (r08_Kids_q1 Q E) E H :=
  (conv (B := vc Pr r08_Kids_p1 τ (r08_Kids_q1 Q E) E H) (by kernel_rfl) (vc_seq (K := (r08_Kids_1_M Q E)) (r08_Kids_18ok Q E τ H h) (r08_Kids_2ok Q E)))

@[reducible] noncomputable def r08_Kids_q7 (Q : Value → Heap → Prop) (E : Chain → Heap → Prop) : Exit → Tau → Heap → Prop := (xthen (r08_Kids_16_M Q E) (r08_Kids_q1 Q E))

@[reducible] noncomputable def r08_Kids_p13 : Code := sA r08_Kids_p0

def r08_Kids (Q : Value → Heap → Prop) (E : Chain → Heap → Prop) (a0 : Int) (H : Heap) : Prop :=
 r08_Kids_16 Q E a0 H

theorem r08_Kids_fn (a0 : Int) (Q : Value → Heap → Prop) (E : Chain → Heap → Prop) (H : Heap) (h : r08_Kids Q E a0 H)   : Does Pr 42 #[(.int .i64 a0)] H Q E :=
  Fn_of_vc (fn := Try.f42) (c := r08_Kids_p0) (args := [(.int .i64 a0)]) mixed (by kernel_rfl) (by kernel_rfl) (by kernel_rfl) (by kernel_rfl) (by kernel_rfl) ((conv (B := vc Pr r08_Kids_p0 (argT [(.int .i64 a0)]) (r08_Kids_q1 Q E) E H) (by kernel_rfl) (vc_seq (K := (r08_Kids_16_M Q E)) (conv (B := vc Pr r08_Kids_p13 (argT [(.int .i64 a0)]) (r08_Kids_q7 Q E) E H) (by kernel_rfl) h) (r08_Kids_19ok Q E))))

end Go.Proofs.Ytaffcoiomggpfaa
