import Derived.Test.YtaffcoiomggpfaaVPr
/- Printed by gen.py: the Go functions of package l08 over a heap view, and that the model does so. -/
namespace Go.Proofs.Ytaffcoiomggpfaa
open Go.V
set_option linter.unusedVariables false
set_option maxRecDepth 100000
/-! jobmux/jobmuxlaw08.RegexSmall -/
@[reducible] noncomputable def l08_RegexSmall_q1 (Q : Value → Heap → Prop) (E : Chain → Heap → Prop) : Exit → Tau → Heap → Prop := (retQ Pr (Try.f13).results.toList Q)

@[reducible] noncomputable def l08_RegexSmall_p0 : Code := bodyOf Try.f13

@[reducible] noncomputable def l08_RegexSmall_p1 : Code := sB l08_RegexSmall_p0

@[reducible] noncomputable def l08_RegexSmall_p2 : Code := sB l08_RegexSmall_p1

@[reducible] noncomputable def l08_RegexSmall_p3 : Code := sB l08_RegexSmall_p2

@[reducible] noncomputable def l08_RegexSmall_p4 : Code := sB l08_RegexSmall_p3

def l08_RegexSmall_1 (Q : Value → Heap → Prop) (E : Chain → Heap → Prop)  (H : Heap) : Prop :=
 Q (.bool true) H

def l08_RegexSmall_1_M (Q : Value → Heap → Prop) (E : Chain → Heap → Prop) (τ : Tau) (H : Heap) : Prop := l08_RegexSmall_1 Q E  H

theorem l08_RegexSmall_2ok (Q : Value → Heap → Prop) (E : Chain → Heap → Prop) (τ : Tau) (H : Heap) (h : l08_RegexSmall_1_M Q E τ H) : vc Pr l08_RegexSmall_p4 τ (l08_RegexSmall_q1 Q E) E H :=
  (conv (B := vc Pr l08_RegexSmall_p4 τ (l08_RegexSmall_q1 Q E) E H) (by kernel_rfl) h)

@[reducible] noncomputable def l08_RegexSmall_q2 (Q : Value → Heap → Prop) (E : Chain → Heap → Prop) : Exit → Tau → Heap → Prop := (xthen (l08_RegexSmall_1_M Q E) (l08_RegexSmall_q1 Q E))

@[reducible] noncomputable def l08_RegexSmall_p5 : Code := sA l08_RegexSmall_p3

@[reducible] noncomputable def l08_RegexSmall_p6 : Code := sB l08_RegexSmall_p5

@[reducible] noncomputable def l08_RegexSmall_q3 (Q : Value → Heap → Prop) (E : Chain → Heap → Prop) : Exit → Tau → Heap → Prop := (xblock 0 (l08_RegexSmall_q2 Q E))

@[reducible] noncomputable def l08_RegexSmall_p7 : Code := sI l08_RegexSmall_p6

@[reducible] noncomputable def l08_RegexSmall_q4 (nx39 : Int → Heap → Prop) (Q : Value → Heap → Prop) (E : Chain → Heap → Prop) : Exit → Tau → Heap → Prop := (xthen (fun τ H => mI .i64 (τ 22) fun x22' => nx39 x22' H) (l08_RegexSmall_q3 Q E))

@[reducible] noncomputable def l08_RegexSmall_p8 : Code := sI l08_RegexSmall_p7

@[reducible] noncomputable def l08_RegexSmall_p9 : Code := sB l08_RegexSmall_p8

@[reducible] noncomputable def l08_RegexSmall_p10 : Code := sB l08_RegexSmall_p9

@[reducible] noncomputable def l08_RegexSmall_p11 : Code := sB l08_RegexSmall_p10

def l08_RegexSmall_3 (nx39 : Int → Heap → Prop) (Q : Value → Heap → Prop) (E : Chain → Heap → Prop) (x20 : Option Addr) (l20 : Nat) (c20 : Nat) (x21 : Int) (x22 : Int) (H : Heap) : Prop :=
 nx39 (IntKind.wrap .i64 (x22 + 1)) H

def l08_RegexSmall_3_M (nx39 : Int → Heap → Prop) (Q : Value → Heap → Prop) (E : Chain → Heap → Prop) (τ : Tau) (H : Heap) : Prop := mSl (τ 20) fun x20 l20 c20 => mI .i64 (τ 21) fun x21 => mI .i64 (τ 22) fun x22 => l08_RegexSmall_3 nx39 Q E x20 l20 c20 x21 x22 H

theorem l08_RegexSmall_4ok (nx39 : Int → Heap → Prop) (Q : Value → Heap → Prop) (E : Chain → Heap → Prop) (τ : Tau) (H : Heap) (h : l08_RegexSmall_3_M nx39 Q E τ H) : vc Pr l08_RegexSmall_p11 τ (l08_RegexSmall_q4 nx39 Q E) E H :=
  mSl_elim (i := 20) (G := fun τ => vc Pr l08_RegexSmall_p11 τ (l08_RegexSmall_q4 nx39 Q E) E H) h (fun x20 l20 c20 h => mI_elim (i := 21) (G := fun τ => vc Pr l08_RegexSmall_p11 τ (l08_RegexSmall_q4 nx39 Q E) E H) h (fun x21 h => mI_elim (i := 22) (G := fun τ => vc Pr l08_RegexSmall_p11 τ (l08_RegexSmall_q4 nx39 Q E) E H) h (fun x22 h => (conv (B := vc Pr l08_RegexSmall_p11 (Tau.upd (Tau.upd (Tau.upd τ 20 (.slice x20 l20 c20)) 21 (.int .i64 x21)) 22 (.int .i64 x22)) (l08_RegexSmall_q4 nx39 Q E) E H) (by kernel_rfl) h))))

@[reducible] noncomputable def l08_RegexSmall_q5 (nx39 : Int → Heap → Prop) (Q : Value → Heap → Prop) (E : Chain → Heap → Prop) : Exit → Tau → Heap → Prop := (xthen (l08_RegexSmall_3_M nx39 Q E) (l08_RegexSmall_q4 nx39 Q E))

@[reducible] noncomputable def l08_RegexSmall_p12 : Code := sA l08_RegexSmall_p10

@[reducible] noncomputable def l08_RegexSmall_q6 (nx39 : Int → Heap → Prop) (Q : Value → Heap → Prop) (E : Chain → Heap → Prop) : Exit → Tau → Heap → Prop := (xblock 1 (l08_RegexSmall_q5 nx39 Q E))

@[reducible] noncomputable def l08_RegexSmall_p13 : Code := sI l08_RegexSmall_p12

@[reducible] noncomputable def l08_RegexSmall_p14 : Code := sB l08_RegexSmall_p13

@[reducible] noncomputable def l08_RegexSmall_p15 : Code := sB l08_RegexSmall_p14

@[reducible] noncomputable def l08_RegexSmall_p16 : Code := sB l08_RegexSmall_p15

@[reducible] noncomputable def l08_RegexSmall_p17 : Code := sB l08_RegexSmall_p16

@[reducible] noncomputable def l08_RegexSmall_p18 : Code := sB l08_RegexSmall_p17

@[reducible] noncomputable def l08_RegexSmall_p19 : Code := sB l08_RegexSmall_p18

def l08_RegexSmall_5 (nx39 : Int → Heap → Prop) (Q : Value → Heap → Prop) (E : Chain → Heap → Prop) (x20 : Option Addr) (l20 : Nat) (c20 : Nat) (x21 : Int) (x22 : Int) (x66 : Bool) (H : Heap) : Prop :=
 sel x66
 (Q (.bool false) H)
 (l08_RegexSmall_3 nx39 Q E x20 l20 c20 x21 x22 H)

def l08_RegexSmall_5_M (nx39 : Int → Heap → Prop) (Q : Value → Heap → Prop) (E : Chain → Heap → Prop) (τ : Tau) (H : Heap) : Prop := mSl (τ 20) fun x20 l20 c20 => mI .i64 (τ 21) fun x21 => mI .i64 (τ 22) fun x22 => mB (τ 66) fun x66 => l08_RegexSmall_5 nx39 Q E x20 l20 c20 x21 x22 x66 H

theorem l08_RegexSmall_6ok (nx39 : Int → Heap → Prop) (Q : Value → Heap → Prop) (E : Chain → Heap → Prop) (τ : Tau) (H : Heap) (h : l08_RegexSmall_5_M nx39 Q E τ H) : vc Pr l08_RegexSmall_p19 τ (l08_RegexSmall_q6 nx39 Q E) E H :=
  mSl_elim (i := 20) (G := fun τ => vc Pr l08_RegexSmall_p19 τ (l08_RegexSmall_q6 nx39 Q E) E H) h (fun x20 l20 c20 h => mI_elim (i := 21) (G := fun τ => vc Pr l08_RegexSmall_p19 τ (l08_RegexSmall_q6 nx39 Q E) E H) h (fun x21 h => mI_elim (i := 22) (G := fun τ => vc Pr l08_RegexSmall_p19 τ (l08_RegexSmall_q6 nx39 Q E) E H) h (fun x22 h => mB_elim (i := 66) (G := fun τ => vc Pr l08_RegexSmall_p19 τ (l08_RegexSmall_q6 nx39 Q E) E H) h (fun x66 h => (conv (B := vc Pr l08_RegexSmall_p19 (Tau.upd (Tau.upd (Tau.upd (Tau.upd τ 20 (.slice x20 l20 c20)) 21 (.int .i64 x21)) 22 (.int .i64 x22)) 66 (.bool x66)) (l08_RegexSmall_q6 nx39 Q E) E H) (by kernel_rfl) h)))))

@[reducible] noncomputable def l08_RegexSmall_q7 (nx39 : Int → Heap → Prop) (Q : Value → Heap → Prop) (E : Chain → Heap → Prop) : Exit → Tau → Heap → Prop := (xthen (l08_RegexSmall_5_M nx39 Q E) (l08_RegexSmall_q6 nx39 Q E))

@[reducible] noncomputable def l08_RegexSmall_p20 : Code := sA l08_RegexSmall_p18

def l08_RegexSmall_7 (nx39 : Int → Heap → Prop) (Q : Value → Heap → Prop) (E : Chain → Heap → Prop) (x6 : ByteArray) (x7 : Option Addr) (l7 : Nat) (c7 : Nat) (x9 : Int) (x20 : Option Addr) (l20 : Nat) (c20 : Nat) (x21 : Int) (x22 : Int) (H : Heap) : Prop :=
 sel (decide ((((l7 : Nat) : Int) : Int) > (IntKind.wrap .i64 ((IntKind.wrap .i64 (2 * ((ByteArray.size x6 : Nat) : Int))) + 1))))
 (l08_RegexSmall_5 nx39 Q E x20 l20 c20 x21 x22 true H)
 (sel ((x9 : Int) != (IntKind.wrap .i64 (((l7 : Nat) : Int) - 1)))
 (l08_RegexSmall_5 nx39 Q E x20 l20 c20 x21 x22 true H)
 (Does Pr 40 #[(.slice x7 l7 c7)] H (fun v92 H93 =>
 ∃ b94 : Bool, v92 = (.bool b94) ∧ l08_RegexSmall_5 nx39 Q E x20 l20 c20 x21 x22 (!b94) H93) E))

def l08_RegexSmall_7_M (nx39 : Int → Heap → Prop) (Q : Value → Heap → Prop) (E : Chain → Heap → Prop) (τ : Tau) (H : Heap) : Prop := mS (τ 6) fun x6 => mSl (τ 7) fun x7 l7 c7 => mI .i64 (τ 9) fun x9 => mSl (τ 20) fun x20 l20 c20 => mI .i64 (τ 21) fun x21 => mI .i64 (τ 22) fun x22 => l08_RegexSmall_7 nx39 Q E x6 x7 l7 c7 x9 x20 l20 c20 x21 x22 H

theorem l08_RegexSmall_8ok (nx39 : Int → Heap → Prop) (Q : Value → Heap → Prop) (E : Chain → Heap → Prop) (τ : Tau) (H : Heap) (h : l08_RegexSmall_7_M nx39 Q E τ H) : vc Pr l08_RegexSmall_p20 τ (l08_RegexSmall_q7 nx39 Q E) E H :=
  mS_elim (i := 6) (G := fun τ => vc Pr l08_RegexSmall_p20 τ (l08_RegexSmall_q7 nx39 Q E) E H) h (fun x6 h => mSl_elim (i := 7) (G := fun τ => vc Pr l08_RegexSmall_p20 τ (l08_RegexSmall_q7 nx39 Q E) E H) h (fun x7 l7 c7 h => mI_elim (i := 9) (G := fun τ => vc Pr l08_RegexSmall_p20 τ (l08_RegexSmall_q7 nx39 Q E) E H) h (fun x9 h => mSl_elim (i := 20) (G := fun τ => vc Pr l08_RegexSmall_p20 τ (l08_RegexSmall_q7 nx39 Q E) E H) h (fun x20 l20 c20 h => mI_elim (i := 21) (G := fun τ => vc Pr l08_RegexSmall_p20 τ (l08_RegexSmall_q7 nx39 Q E) E H) h (fun x21 h => mI_elim (i := 22) (G := fun τ => vc Pr l08_RegexSmall_p20 τ (l08_RegexSmall_q7 nx39 Q E) E H) h (fun x22 h => (conv (B := vc Pr l08_RegexSmall_p20 (Tau.upd (Tau.upd (Tau.upd (Tau.upd (Tau.upd (Tau.upd τ 6 (.string x6)) 7 (.slice x7 l7 c7)) 9 (.int .i64 x9)) 20 (.slice x20 l20 c20)) 21 (.int .i64 x21)) 22 (.int .i64 x22)) (l08_RegexSmall_q7 nx39 Q E) E H) (by kernel_rfl) h)))))))

theorem l08_RegexSmall_9ok (nx39 : Int → Heap → Prop) (Q : Value → Heap → Prop) (E : Chain → Heap → Prop) (τ : Tau) (H : Heap) (h : l08_RegexSmall_7_M nx39 Q E τ H) : vc Pr l08_RegexSmall_p18 τ (l08_RegexSmall_q6 nx39 Q E) E H :=
  (conv (B := vc Pr l08_RegexSmall_p18 τ (l08_RegexSmall_q6 nx39 Q E) E H) (by kernel_rfl) (vc_seq (K := (l08_RegexSmall_5_M nx39 Q E)) (l08_RegexSmall_8ok nx39 Q E τ H h) (l08_RegexSmall_6ok nx39 Q E)))

@[reducible] noncomputable def l08_RegexSmall_q8 (nx39 : Int → Heap → Prop) (Q : Value → Heap → Prop) (E : Chain → Heap → Prop) : Exit → Tau → Heap → Prop := (xthen (l08_RegexSmall_7_M nx39 Q E) (l08_RegexSmall_q6 nx39 Q E))

@[reducible] noncomputable def l08_RegexSmall_p21 : Code := sA l08_RegexSmall_p17

@[reducible] noncomputable def l08_RegexSmall_p22 : Code := sB l08_RegexSmall_p21

@[reducible] noncomputable def l08_RegexSmall_q9 (nx39 : Int → Heap → Prop) (Q : Value → Heap → Prop) (E : Chain → Heap → Prop) : Exit → Tau → Heap → Prop := (xblock 2 (l08_RegexSmall_q8 nx39 Q E))

@[reducible] noncomputable def l08_RegexSmall_p23 : Code := sI l08_RegexSmall_p22

@[reducible] noncomputable def l08_RegexSmall_q10 (nx39 : Int → Heap → Prop) (nx95 : Int → Int → Heap → Prop) (Q : Value → Heap → Prop) (E : Chain → Heap → Prop) : Exit → Tau → Heap → Prop := (xthen (fun τ H => mI .i64 (τ 9) fun x9' => mI .i64 (τ 38) fun x38' => nx95 x9' x38' H) (l08_RegexSmall_q9 nx39 Q E))

@[reducible] noncomputable def l08_RegexSmall_p24 : Code := sI l08_RegexSmall_p23

@[reducible] noncomputable def l08_RegexSmall_p25 : Code := sB l08_RegexSmall_p24

@[reducible] noncomputable def l08_RegexSmall_p26 : Code := sB l08_RegexSmall_p25

def l08_RegexSmall_10 (nx39 : Int → Heap → Prop) (nx95 : Int → Int → Heap → Prop) (Q : Value → Heap → Prop) (E : Chain → Heap → Prop) (x6 : ByteArray) (x7 : Option Addr) (l7 : Nat) (c7 : Nat) (x9 : Int) (x20 : Option Addr) (l20 : Nat) (c20 : Nat) (x21 : Int) (x22 : Int) (x36 : Option Addr) (l36 : Nat) (c36 : Nat) (x37 : Int) (x38 : Int) (H : Heap) : Prop :=
 (0 ≤ (x38 : Int) ∧ (x38 : Int) < ((l36 : Nat) : Int)) ∧ ptr x36 fun q96 =>
 ∃ n97 : Int, ∃ n98 : Int, ∃ n99 : Int, ∃ n100 : Int, ∃ n101 : Int, ∃ n102 : Int, ∃ n103 : Int, Heap.rd H (Addr.add q96 ((x38 : Int).toNat * 7)) 0 [(.int .i64 n97), (.int .i64 n98), (.int .i64 n99), (.int .u64 n100), (.int .u64 n101), (.int .u64 n102), (.int .u64 n103)] ∧ nw (.cells #[(.int .i64 0), (.int .i64 0), (.int .i64 0), (.int .u64 0), (.int .u64 0), (.int .u64 0), (.int .u64 0)] 48 (0, 0)) H fun i104 H105 =>
 wr ⟨i104, 0, none⟩ [(.int .i64 n97), (.int .i64 n98), (.int .i64 n99), (.int .u64 n100), (.int .u64 n101), (.int .u64 n102), (.int .u64 n103)] H105 fun H106 =>
 ldI .i64 ⟨i104, 0, none⟩ H106 fun n107 =>
 Does Pr 42 #[(.int .i64 n107)] H106 (fun v108 H109 =>
 ∃ n110 : Int, v108 = (.int .i64 n110) ∧ nx95 (IntKind.wrap .i64 (x9 + n110)) (IntKind.wrap .i64 (x38 + 1)) H109) E

def l08_RegexSmall_10_M (nx39 : Int → Heap → Prop) (nx95 : Int → Int → Heap → Prop) (Q : Value → Heap → Prop) (E : Chain → Heap → Prop) (τ : Tau) (H : Heap) : Prop := mS (τ 6) fun x6 => mSl (τ 7) fun x7 l7 c7 => mI .i64 (τ 9) fun x9 => mSl (τ 20) fun x20 l20 c20 => mI .i64 (τ 21) fun x21 => mI .i64 (τ 22) fun x22 => mSl (τ 36) fun x36 l36 c36 => mI .i64 (τ 37) fun x37 => mI .i64 (τ 38) fun x38 => l08_RegexSmall_10 nx39 nx95 Q E x6 x7 l7 c7 x9 x20 l20 c20 x21 x22 x36 l36 c36 x37 x38 H

theorem l08_RegexSmall_11ok (nx39 : Int → Heap → Prop) (nx95 : Int → Int → Heap → Prop) (Q : Value → Heap → Prop) (E : Chain → Heap → Prop) (τ : Tau) (H : Heap) (h : l08_RegexSmall_10_M nx39 nx95 Q E τ H) : vc Pr l08_RegexSmall_p26 τ (l08_RegexSmall_q10 nx39 nx95 Q E) E H :=
  mS_elim (i := 6) (G := fun τ => vc Pr l08_RegexSmall_p26 τ (l08_RegexSmall_q10 nx39 nx95 Q E) E H) h (fun x6 h => mSl_elim (i := 7) (G := fun τ => vc Pr l08_RegexSmall_p26 τ (l08_RegexSmall_q10 nx39 nx95 Q E) E H) h (fun x7 l7 c7 h => mI_elim (i := 9) (G := fun τ => vc Pr l08_RegexSmall_p26 τ (l08_RegexSmall_q10 nx39 nx95 Q E) E H) h (fun x9 h => mSl_elim (i := 20) (G := fun τ => vc Pr l08_RegexSmall_p26 τ (l08_RegexSmall_q10 nx39 nx95 Q E) E H) h (fun x20 l20 c20 h => mI_elim (i := 21) (G := fun τ => vc Pr l08_RegexSmall_p26 τ (l08_RegexSmall_q10 nx39 nx95 Q E) E H) h (fun x21 h => mI_elim (i := 22) (G := fun τ => vc Pr l08_RegexSmall_p26 τ (l08_RegexSmall_q10 nx39 nx95 Q E) E H) h (fun x22 h => mSl_elim (i := 36) (G := fun τ => vc Pr l08_RegexSmall_p26 τ (l08_RegexSmall_q10 nx39 nx95 Q E) E H) h (fun x36 l36 c36 h => mI_elim (i := 37) (G := fun τ => vc Pr l08_RegexSmall_p26 τ (l08_RegexSmall_q10 nx39 nx95 Q E) E H) h (fun x37 h => mI_elim (i := 38) (G := fun τ => vc Pr l08_RegexSmall_p26 τ (l08_RegexSmall_q10 nx39 nx95 Q E) E H) h (fun x38 h => (conv (B := vc Pr l08_RegexSmall_p26 (Tau.upd (Tau.upd (Tau.upd (Tau.upd (Tau.upd (Tau.upd (Tau.upd (Tau.upd (Tau.upd τ 6 (.string x6)) 7 (.slice x7 l7 c7)) 9 (.int .i64 x9)) 20 (.slice x20 l20 c20)) 21 (.int .i64 x21)) 22 (.int .i64 x22)) 36 (.slice x36 l36 c36)) 37 (.int .i64 x37)) 38 (.int .i64 x38)) (l08_RegexSmall_q10 nx39 nx95 Q E) E H) (by kernel_rfl) h))))))))))

@[reducible] noncomputable def l08_RegexSmall_q11 (nx39 : Int → Heap → Prop) (nx95 : Int → Int → Heap → Prop) (Q : Value → Heap → Prop) (E : Chain → Heap → Prop) : Exit → Tau → Heap → Prop := (xthen (l08_RegexSmall_10_M nx39 nx95 Q E) (l08_RegexSmall_q10 nx39 nx95 Q E))

@[reducible] noncomputable def l08_RegexSmall_p27 : Code := sA l08_RegexSmall_p25

def l08_RegexSmall_12 (nx39 : Int → Heap → Prop) (nx95 : Int → Int → Heap → Prop) (Q : Value → Heap → Prop) (E : Chain → Heap → Prop) (x6 : ByteArray) (x7 : Option Addr) (l7 : Nat) (c7 : Nat) (x9 : Int) (x20 : Option Addr) (l20 : Nat) (c20 : Nat) (x21 : Int) (x22 : Int) (x36 : Option Addr) (l36 : Nat) (c36 : Nat) (x37 : Int) (x38 : Int) (x39 : Bool) (H : Heap) : Prop :=
 sel x39
 (l08_RegexSmall_10 nx39 nx95 Q E x6 x7 l7 c7 x9 x20 l20 c20 x21 x22 x36 l36 c36 x37 x38 H)
 (l08_RegexSmall_7 nx39 Q E x6 x7 l7 c7 x9 x20 l20 c20 x21 x22 H)

def l08_RegexSmall_12_M (nx39 : Int → Heap → Prop) (nx95 : Int → Int → Heap → Prop) (Q : Value → Heap → Prop) (E : Chain → Heap → Prop) (τ : Tau) (H : Heap) : Prop := mS (τ 6) fun x6 => mSl (τ 7) fun x7 l7 c7 => mI .i64 (τ 9) fun x9 => mSl (τ 20) fun x20 l20 c20 => mI .i64 (τ 21) fun x21 => mI .i64 (τ 22) fun x22 => mSl (τ 36) fun x36 l36 c36 => mI .i64 (τ 37) fun x37 => mI .i64 (τ 38) fun x38 => mB (τ 39) fun x39 => l08_RegexSmall_12 nx39 nx95 Q E x6 x7 l7 c7 x9 x20 l20 c20 x21 x22 x36 l36 c36 x37 x38 x39 H

theorem l08_RegexSmall_13ok (nx39 : Int → Heap → Prop) (nx95 : Int → Int → Heap → Prop) (Q : Value → Heap → Prop) (E : Chain → Heap → Prop) (τ : Tau) (H : Heap) (h : l08_RegexSmall_12_M nx39 nx95 Q E τ H) : vc Pr l08_RegexSmall_p27 τ (l08_RegexSmall_q11 nx39 nx95 Q E) E H :=
  mS_elim (i := 6) (G := fun τ => vc Pr l08_RegexSmall_p27 τ (l08_RegexSmall_q11 nx39 nx95 Q E) E H) h (fun x6 h => mSl_elim (i := 7) (G := fun τ => vc Pr l08_RegexSmall_p27 τ (l08_RegexSmall_q11 nx39 nx95 Q E) E H) h (fun x7 l7 c7 h => mI_elim (i := 9) (G := fun τ => vc Pr l08_RegexSmall_p27 τ (l08_RegexSmall_q11 nx39 nx95 Q E) E H) h (fun x9 h => mSl_elim (i := 20) (G := fun τ => vc Pr l08_RegexSmall_p27 τ (l08_RegexSmall_q11 nx39 nx95 Q E) E H) h (fun x20 l20 c20 h => mI_elim (i := 21) (G := fun τ => vc Pr l08_RegexSmall_p27 τ (l08_RegexSmall_q11 nx39 nx95 Q E) E H) h (fun x21 h => mI_elim (i := 22) (G := fun τ => vc Pr l08_RegexSmall_p27 τ (l08_RegexSmall_q11 nx39 nx95 Q E) E H) h (fun x22 h => mSl_elim (i := 36) (G := fun τ => vc Pr l08_RegexSmall_p27 τ (l08_RegexSmall_q11 nx39 nx95 Q E) E H) h (fun x36 l36 c36 h => mI_elim (i := 37) (G := fun τ => vc Pr l08_RegexSmall_p27 τ (l08_RegexSmall_q11 nx39 nx95 Q E) E H) h (fun x37 h => mI_elim (i := 38) (G := fun τ => vc Pr l08_RegexSmall_p27 τ (l08_RegexSmall_q11 nx39 nx95 Q E) E H) h (fun x38 h => mB_elim (i := 39) (G := fun τ => vc Pr l08_RegexSmall_p27 τ (l08_RegexSmall_q11 nx39 nx95 Q E) E H) h (fun x39 h => (conv (B := vc Pr l08_RegexSmall_p27 (Tau.upd (Tau.upd (Tau.upd (Tau.upd (Tau.upd (Tau.upd (Tau.upd (Tau.upd (Tau.upd (Tau.upd τ 6 (.string x6)) 7 (.slice x7 l7 c7)) 9 (.int .i64 x9)) 20 (.slice x20 l20 c20)) 21 (.int .i64 x21)) 22 (.int .i64 x22)) 36 (.slice x36 l36 c36)) 37 (.int .i64 x37)) 38 (.int .i64 x38)) 39 (.bool x39)) (l08_RegexSmall_q11 nx39 nx95 Q E) E H) (by kernel_rfl) h)))))))))))

theorem l08_RegexSmall_14ok (nx39 : Int → Heap → Prop) (nx95 : Int → Int → Heap → Prop) (Q : Value → Heap → Prop) (E : Chain → Heap → Prop) (τ : Tau) (H : Heap) (h : l08_RegexSmall_12_M nx39 nx95 Q E τ H) : vc Pr l08_RegexSmall_p25 τ (l08_RegexSmall_q10 nx39 nx95 Q E) E H :=
  (conv (B := vc Pr l08_RegexSmall_p25 τ (l08_RegexSmall_q10 nx39 nx95 Q E) E H) (by kernel_rfl) (vc_seq (K := (l08_RegexSmall_10_M nx39 nx95 Q E)) (l08_RegexSmall_13ok nx39 nx95 Q E τ H h) (l08_RegexSmall_11ok nx39 nx95 Q E)))

@[reducible] noncomputable def l08_RegexSmall_q12 (nx39 : Int → Heap → Prop) (nx95 : Int → Int → Heap → Prop) (Q : Value → Heap → Prop) (E : Chain → Heap → Prop) : Exit → Tau → Heap → Prop := (xthen (l08_RegexSmall_12_M nx39 nx95 Q E) (l08_RegexSmall_q10 nx39 nx95 Q E))

@[reducible] noncomputable def l08_RegexSmall_p28 : Code := sA l08_RegexSmall_p24

def l08_RegexSmall_15 (nx39 : Int → Heap → Prop) (nx95 : Int → Int → Heap → Prop) (Q : Value → Heap → Prop) (E : Chain → Heap → Prop) (x6 : ByteArray) (x7 : Option Addr) (l7 : Nat) (c7 : Nat) (x9 : Int) (x20 : Option Addr) (l20 : Nat) (c20 : Nat) (x21 : Int) (x22 : Int) (x36 : Option Addr) (l36 : Nat) (c36 : Nat) (x37 : Int) (x38 : Int) (H : Heap) : Prop :=
 l08_RegexSmall_12 nx39 nx95 Q E x6 x7 l7 c7 x9 x20 l20 c20 x21 x22 x36 l36 c36 x37 x38 (decide ((x38 : Int) < x37)) H

def l08_RegexSmall_15_M (nx39 : Int → Heap → Prop) (nx95 : Int → Int → Heap → Prop) (Q : Value → Heap → Prop) (E : Chain → Heap → Prop) (τ : Tau) (H : Heap) : Prop := mS (τ 6) fun x6 => mSl (τ 7) fun x7 l7 c7 => mI .i64 (τ 9) fun x9 => mSl (τ 20) fun x20 l20 c20 => mI .i64 (τ 21) fun x21 => mI .i64 (τ 22) fun x22 => mSl (τ 36) fun x36 l36 c36 => mI .i64 (τ 37) fun x37 => mI .i64 (τ 38) fun x38 => l08_RegexSmall_15 nx39 nx95 Q E x6 x7 l7 c7 x9 x20 l20 c20 x21 x22 x36 l36 c36 x37 x38 H

theorem l08_RegexSmall_16ok (nx39 : Int → Heap → Prop) (nx95 : Int → Int → Heap → Prop) (Q : Value → Heap → Prop) (E : Chain → Heap → Prop) (τ : Tau) (H : Heap) (h : l08_RegexSmall_15_M nx39 nx95 Q E τ H) : vc Pr l08_RegexSmall_p28 τ (l08_RegexSmall_q12 nx39 nx95 Q E) E H :=
  mS_elim (i := 6) (G := fun τ => vc Pr l08_RegexSmall_p28 τ (l08_RegexSmall_q12 nx39 nx95 Q E) E H) h (fun x6 h => mSl_elim (i := 7) (G := fun τ => vc Pr l08_RegexSmall_p28 τ (l08_RegexSmall_q12 nx39 nx95 Q E) E H) h (fun x7 l7 c7 h => mI_elim (i := 9) (G := fun τ => vc Pr l08_RegexSmall_p28 τ (l08_RegexSmall_q12 nx39 nx95 Q E) E H) h (fun x9 h => mSl_elim (i := 20) (G := fun τ => vc Pr l08_RegexSmall_p28 τ (l08_RegexSmall_q12 nx39 nx95 Q E) E H) h (fun x20 l20 c20 h => mI_elim (i := 21) (G := fun τ => vc Pr l08_RegexSmall_p28 τ (l08_RegexSmall_q12 nx39 nx95 Q E) E H) h (fun x21 h => mI_elim (i := 22) (G := fun τ => vc Pr l08_RegexSmall_p28 τ (l08_RegexSmall_q12 nx39 nx95 Q E) E H) h (fun x22 h => mSl_elim (i := 36) (G := fun τ => vc Pr l08_RegexSmall_p28 τ (l08_RegexSmall_q12 nx39 nx95 Q E) E H) h (fun x36 l36 c36 h => mI_elim (i := 37) (G := fun τ => vc Pr l08_RegexSmall_p28 τ (l08_RegexSmall_q12 nx39 nx95 Q E) E H) h (fun x37 h => mI_elim (i := 38) (G := fun τ => vc Pr l08_RegexSmall_p28 τ (l08_RegexSmall_q12 nx39 nx95 Q E) E H) h (fun x38 h => (conv (B := vc Pr l08_RegexSmall_p28 (Tau.upd (Tau.upd (Tau.upd (Tau.upd (Tau.upd (Tau.upd (Tau.upd (Tau.upd (Tau.upd τ 6 (.string x6)) 7 (.slice x7 l7 c7)) 9 (.int .i64 x9)) 20 (.slice x20 l20 c20)) 21 (.int .i64 x21)) 22 (.int .i64 x22)) 36 (.slice x36 l36 c36)) 37 (.int .i64 x37)) 38 (.int .i64 x38)) (l08_RegexSmall_q12 nx39 nx95 Q E) E H) (by kernel_rfl) h))))))))))

theorem l08_RegexSmall_17ok (nx39 : Int → Heap → Prop) (nx95 : Int → Int → Heap → Prop) (Q : Value → Heap → Prop) (E : Chain → Heap → Prop) (τ : Tau) (H : Heap) (h : l08_RegexSmall_15_M nx39 nx95 Q E τ H) : vc Pr l08_RegexSmall_p24 τ (l08_RegexSmall_q10 nx39 nx95 Q E) E H :=
  (conv (B := vc Pr l08_RegexSmall_p24 τ (l08_RegexSmall_q10 nx39 nx95 Q E) E H) (by kernel_rfl) (vc_seq (K := (l08_RegexSmall_12_M nx39 nx95 Q E)) (l08_RegexSmall_16ok nx39 nx95 Q E τ H h) (l08_RegexSmall_14ok nx39 nx95 Q E)))

def l08_RegexSmall_18 (nx39 : Int → Heap → Prop) (Q : Value → Heap → Prop) (E : Chain → Heap → Prop) (x6 : ByteArray) (x7 : Option Addr) (l7 : Nat) (c7 : Nat) (x20 : Option Addr) (l20 : Nat) (c20 : Nat) (x21 : Int) (x22 : Int) (x36 : Option Addr) (l36 : Nat) (c36 : Nat) (x37 : Int) (x9 : Int) (x38 : Int) (H : Heap) : Prop :=
 ∃ (I : Int → Int → Heap → Prop) (μ : Int → Int → Heap → Nat), I x9 x38 H ∧ ∀ (x9 : Int) (x38 : Int) (H : Heap), I x9 x38 H →
 l08_RegexSmall_15 nx39 (fun x9' x38' H1 => I x9' x38' H1 ∧ μ x9' x38' H1 < μ x9 x38 H) Q E x6 x7 l7 c7 x9 x20 l20 c20 x21 x22 x36 l36 c36 x37 x38 H

def l08_RegexSmall_18_M (nx39 : Int → Heap → Prop) (Q : Value → Heap → Prop) (E : Chain → Heap → Prop) (τ : Tau) (H : Heap) : Prop := mS (τ 6) fun x6 => mSl (τ 7) fun x7 l7 c7 => mSl (τ 20) fun x20 l20 c20 => mI .i64 (τ 21) fun x21 => mI .i64 (τ 22) fun x22 => mSl (τ 36) fun x36 l36 c36 => mI .i64 (τ 37) fun x37 => mI .i64 (τ 9) fun x9 => mI .i64 (τ 38) fun x38 => l08_RegexSmall_18 nx39 Q E x6 x7 l7 c7 x20 l20 c20 x21 x22 x36 l36 c36 x37 x9 x38 H

theorem l08_RegexSmall_19ok (nx39 : Int → Heap → Prop) (Q : Value → Heap → Prop) (E : Chain → Heap → Prop) (τ : Tau) (H : Heap) (h : l08_RegexSmall_18_M nx39 Q E τ H) : vc Pr l08_RegexSmall_p23 τ (l08_RegexSmall_q9 nx39 Q E) E H :=
  mS_elim (i := 6) (G := fun τ => vc Pr l08_RegexSmall_p23 τ (l08_RegexSmall_q9 nx39 Q E) E H) h (fun x6 h => mSl_elim (i := 7) (G := fun τ => vc Pr l08_RegexSmall_p23 τ (l08_RegexSmall_q9 nx39 Q E) E H) h (fun x7 l7 c7 h => mSl_elim (i := 20) (G := fun τ => vc Pr l08_RegexSmall_p23 τ (l08_RegexSmall_q9 nx39 Q E) E H) h (fun x20 l20 c20 h => mI_elim (i := 21) (G := fun τ => vc Pr l08_RegexSmall_p23 τ (l08_RegexSmall_q9 nx39 Q E) E H) h (fun x21 h => mI_elim (i := 22) (G := fun τ => vc Pr l08_RegexSmall_p23 τ (l08_RegexSmall_q9 nx39 Q E) E H) h (fun x22 h => mSl_elim (i := 36) (G := fun τ => vc Pr l08_RegexSmall_p23 τ (l08_RegexSmall_q9 nx39 Q E) E H) h (fun x36 l36 c36 h => mI_elim (i := 37) (G := fun τ => vc Pr l08_RegexSmall_p23 τ (l08_RegexSmall_q9 nx39 Q E) E H) h (fun x37 h => mI_elim (i := 9) (G := fun τ => vc Pr l08_RegexSmall_p23 τ (l08_RegexSmall_q9 nx39 Q E) E H) h (fun x9 h => mI_elim (i := 38) (G := fun τ => vc Pr l08_RegexSmall_p23 τ (l08_RegexSmall_q9 nx39 Q E) E H) h (fun x38 h => match h with | ⟨I, μ, h0, hr⟩ => (conv (B := vc Pr l08_RegexSmall_p23 (Tau.upd (Tau.upd (Tau.upd (Tau.upd (Tau.upd (Tau.upd (Tau.upd (Tau.upd (Tau.upd τ 6 (.string x6)) 7 (.slice x7 l7 c7)) 20 (.slice x20 l20 c20)) 21 (.int .i64 x21)) 22 (.int .i64 x22)) 36 (.slice x36 l36 c36)) 37 (.int .i64 x37)) 9 (.int .i64 x9)) 38 (.int .i64 x38)) (l08_RegexSmall_q9 nx39 Q E) E H) (by kernel_rfl) (vc_loop (c := sI l08_RegexSmall_p23) (τ := (Tau.upd (Tau.upd (Tau.upd (Tau.upd (Tau.upd (Tau.upd (Tau.upd (Tau.upd (Tau.upd τ 6 (.string x6)) 7 (.slice x7 l7 c7)) 20 (.slice x20 l20 c20)) 21 (.int .i64 x21)) 22 (.int .i64 x22)) 36 (.slice x36 l36 c36)) 37 (.int .i64 x37)) 9 (.int .i64 x9)) 38 (.int .i64 x38))) [6, 7, 20, 21, 22, 36, 37] (fun τ H => mI .i64 (τ 9) fun x9' => mI .i64 (τ 38) fun x38' => I x9' x38' H) (fun τ H => μ (gI (τ 9)) (gI (τ 38)) H) (by kernel_rfl) h0 (fun τ1 H1 hf hI => fix_elim (τ := τ1) (i := 6) (v := (.string x6)) (G := fun τ => vc Pr (sI l08_RegexSmall_p23) τ (xthen (fun τ2 H2 => (mI .i64 (τ2 9) fun x9' => mI .i64 (τ2 38) fun x38' => I x9' x38' H2) ∧ μ (gI (τ2 9)) (gI (τ2 38)) H2 < μ (gI (τ 9)) (gI (τ 38)) H1) (l08_RegexSmall_q9 nx39 Q E)) E H1) (hf 6 (by simp)) (fix_elim (τ := (Tau.upd τ1 6 (.string x6))) (i := 7) (v := (.slice x7 l7 c7)) (G := fun τ => vc Pr (sI l08_RegexSmall_p23) τ (xthen (fun τ2 H2 => (mI .i64 (τ2 9) fun x9' => mI .i64 (τ2 38) fun x38' => I x9' x38' H2) ∧ μ (gI (τ2 9)) (gI (τ2 38)) H2 < μ (gI (τ 9)) (gI (τ 38)) H1) (l08_RegexSmall_q9 nx39 Q E)) E H1) (hf 7 (by simp)) (fix_elim (τ := (Tau.upd (Tau.upd τ1 6 (.string x6)) 7 (.slice x7 l7 c7))) (i := 20) (v := (.slice x20 l20 c20)) (G := fun τ => vc Pr (sI l08_RegexSmall_p23) τ (xthen (fun τ2 H2 => (mI .i64 (τ2 9) fun x9' => mI .i64 (τ2 38) fun x38' => I x9' x38' H2) ∧ μ (gI (τ2 9)) (gI (τ2 38)) H2 < μ (gI (τ 9)) (gI (τ 38)) H1) (l08_RegexSmall_q9 nx39 Q E)) E H1) (hf 20 (by simp)) (fix_elim (τ := (Tau.upd (Tau.upd (Tau.upd τ1 6 (.string x6)) 7 (.slice x7 l7 c7)) 20 (.slice x20 l20 c20))) (i := 21) (v := (.int .i64 x21)) (G := fun τ => vc Pr (sI l08_RegexSmall_p23) τ (xthen (fun τ2 H2 => (mI .i64 (τ2 9) fun x9' => mI .i64 (τ2 38) fun x38' => I x9' x38' H2) ∧ μ (gI (τ2 9)) (gI (τ2 38)) H2 < μ (gI (τ 9)) (gI (τ 38)) H1) (l08_RegexSmall_q9 nx39 Q E)) E H1) (hf 21 (by simp)) (fix_elim (τ := (Tau.upd (Tau.upd (Tau.upd (Tau.upd τ1 6 (.string x6)) 7 (.slice x7 l7 c7)) 20 (.slice x20 l20 c20)) 21 (.int .i64 x21))) (i := 22) (v := (.int .i64 x22)) (G := fun τ => vc Pr (sI l08_RegexSmall_p23) τ (xthen (fun τ2 H2 => (mI .i64 (τ2 9) fun x9' => mI .i64 (τ2 38) fun x38' => I x9' x38' H2) ∧ μ (gI (τ2 9)) (gI (τ2 38)) H2 < μ (gI (τ 9)) (gI (τ 38)) H1) (l08_RegexSmall_q9 nx39 Q E)) E H1) (hf 22 (by simp)) (fix_elim (τ := (Tau.upd (Tau.upd (Tau.upd (Tau.upd (Tau.upd τ1 6 (.string x6)) 7 (.slice x7 l7 c7)) 20 (.slice x20 l20 c20)) 21 (.int .i64 x21)) 22 (.int .i64 x22))) (i := 36) (v := (.slice x36 l36 c36)) (G := fun τ => vc Pr (sI l08_RegexSmall_p23) τ (xthen (fun τ2 H2 => (mI .i64 (τ2 9) fun x9' => mI .i64 (τ2 38) fun x38' => I x9' x38' H2) ∧ μ (gI (τ2 9)) (gI (τ2 38)) H2 < μ (gI (τ 9)) (gI (τ 38)) H1) (l08_RegexSmall_q9 nx39 Q E)) E H1) (hf 36 (by simp)) (fix_elim (τ := (Tau.upd (Tau.upd (Tau.upd (Tau.upd (Tau.upd (Tau.upd τ1 6 (.string x6)) 7 (.slice x7 l7 c7)) 20 (.slice x20 l20 c20)) 21 (.int .i64 x21)) 22 (.int .i64 x22)) 36 (.slice x36 l36 c36))) (i := 37) (v := (.int .i64 x37)) (G := fun τ => vc Pr (sI l08_RegexSmall_p23) τ (xthen (fun τ2 H2 => (mI .i64 (τ2 9) fun x9' => mI .i64 (τ2 38) fun x38' => I x9' x38' H2) ∧ μ (gI (τ2 9)) (gI (τ2 38)) H2 < μ (gI (τ 9)) (gI (τ 38)) H1) (l08_RegexSmall_q9 nx39 Q E)) E H1) (hf 37 (by simp)) (mI_elim (i := 9) (G := fun τ => vc Pr (sI l08_RegexSmall_p23) τ (xthen (fun τ2 H2 => (mI .i64 (τ2 9) fun x9' => mI .i64 (τ2 38) fun x38' => I x9' x38' H2) ∧ μ (gI (τ2 9)) (gI (τ2 38)) H2 < μ (gI (τ 9)) (gI (τ 38)) H1) (l08_RegexSmall_q9 nx39 Q E)) E H1) hI (fun x9r h => mI_elim (i := 38) (G := fun τ => vc Pr (sI l08_RegexSmall_p23) τ (xthen (fun τ2 H2 => (mI .i64 (τ2 9) fun x9' => mI .i64 (τ2 38) fun x38' => I x9' x38' H2) ∧ μ (gI (τ2 9)) (gI (τ2 38)) H2 < μ (gI (τ 9)) (gI (τ 38)) H1) (l08_RegexSmall_q9 nx39 Q E)) E H1) h (fun x38r h => (conv (B := vc Pr (sI l08_RegexSmall_p23) (Tau.upd (Tau.upd (Tau.upd (Tau.upd (Tau.upd (Tau.upd (Tau.upd (Tau.upd (Tau.upd τ1 6 (.string x6)) 7 (.slice x7 l7 c7)) 20 (.slice x20 l20 c20)) 21 (.int .i64 x21)) 22 (.int .i64 x22)) 36 (.slice x36 l36 c36)) 37 (.int .i64 x37)) 9 (.int .i64 x9r)) 38 (.int .i64 x38r)) (xthen (fun τ2 H2 => (mI .i64 (τ2 9) fun x9' => mI .i64 (τ2 38) fun x38' => I x9' x38' H2) ∧ μ (gI (τ2 9)) (gI (τ2 38)) H2 < μ (gI ((Tau.upd (Tau.upd (Tau.upd (Tau.upd (Tau.upd (Tau.upd (Tau.upd (Tau.upd (Tau.upd τ1 6 (.string x6)) 7 (.slice x7 l7 c7)) 20 (.slice x20 l20 c20)) 21 (.int .i64 x21)) 22 (.int .i64 x22)) 36 (.slice x36 l36 c36)) 37 (.int .i64 x37)) 9 (.int .i64 x9r)) 38 (.int .i64 x38r)) 9)) (gI ((Tau.upd (Tau.upd (Tau.upd (Tau.upd (Tau.upd (Tau.upd (Tau.upd (Tau.upd (Tau.upd τ1 6 (.string x6)) 7 (.slice x7 l7 c7)) 20 (.slice x20 l20 c20)) 21 (.int .i64 x21)) 22 (.int .i64 x22)) 36 (.slice x36 l36 c36)) 37 (.int .i64 x37)) 9 (.int .i64 x9r)) 38 (.int .i64 x38r)) 38)) H1) (l08_RegexSmall_q9 nx39 Q E)) E H1) (by kernel_rfl) (vc_xthen (l08_RegexSmall_17ok nx39 (fun x9' x38' H2 => I x9' x38' H2 ∧ μ x9' x38' H2 < μ x9r x38r H1) Q E (Tau.upd (Tau.upd (Tau.upd (Tau.upd (Tau.upd (Tau.upd (Tau.upd (Tau.upd (Tau.upd τ1 6 (.string x6)) 7 (.slice x7 l7 c7)) 20 (.slice x20 l20 c20)) 21 (.int .i64 x21)) 22 (.int .i64 x22)) 36 (.slice x36 l36 c36)) 37 (.int .i64 x37)) 9 (.int .i64 x9r)) 38 (.int .i64 x38r)) H1 (conv (B := l08_RegexSmall_15_M nx39 (fun x9' x38' H2 => I x9' x38' H2 ∧ μ x9' x38' H2 < μ x9r x38r H1) Q E (Tau.upd (Tau.upd (Tau.upd (Tau.upd (Tau.upd (Tau.upd (Tau.upd (Tau.upd (Tau.upd τ1 6 (.string x6)) 7 (.slice x7 l7 c7)) 20 (.slice x20 l20 c20)) 21 (.int .i64 x21)) 22 (.int .i64 x22)) 36 (.slice x36 l36 c36)) 37 (.int .i64 x37)) 9 (.int .i64 x9r)) 38 (.int .i64 x38r)) H1) (by kernel_rfl) (hr x9r x38r H1 h))) (fun τ2 H2 hk => mI_elim (i := 9) (G := fun τ => (mI .i64 (τ 9) fun x9' => mI .i64 (τ 38) fun x38' => I x9' x38' H2) ∧ μ (gI (τ 9)) (gI (τ 38)) H2 < μ x9r x38r H1) hk (fun x9' h => mI_elim (i := 38) (G := fun τ => (mI .i64 (τ 9) fun x9' => mI .i64 (τ 38) fun x38' => I x9' x38' H2) ∧ μ (gI (τ 9)) (gI (τ 38)) H2 < μ x9r x38r H1) h (fun x38' h => h))))))))))))))))))))))))))

theorem l08_RegexSmall_20ok (nx39 : Int → Heap → Prop) (Q : Value → Heap → Prop) (E : Chain → Heap → Prop) (τ : Tau) (H : Heap) (h : l08_RegexSmall_18_M nx39 Q E τ H) : vc Pr l08_RegexSmall_p22 τ (l08_RegexSmall_q8 nx39 Q E) E H :=
  (conv (B := vc Pr l08_RegexSmall_p22 τ (l08_RegexSmall_q8 nx39 Q E) E H) (by kernel_rfl) (l08_RegexSmall_19ok nx39 Q E τ H h))

@[reducible] noncomputable def l08_RegexSmall_q13 (nx39 : Int → Heap → Prop) (Q : Value → Heap → Prop) (E : Chain → Heap → Prop) : Exit → Tau → Heap → Prop := (xthen (l08_RegexSmall_18_M nx39 Q E) (l08_RegexSmall_q8 nx39 Q E))

@[reducible] noncomputable def l08_RegexSmall_p29 : Code := sA l08_RegexSmall_p21

def l08_RegexSmall_21 (nx39 : Int → Heap → Prop) (Q : Value → Heap → Prop) (E : Chain → Heap → Prop) (x6 : ByteArray) (x7 : Option Addr) (l7 : Nat) (c7 : Nat) (x9 : Int) (x20 : Option Addr) (l20 : Nat) (c20 : Nat) (x21 : Int) (x22 : Int) (H : Heap) : Prop :=
 l08_RegexSmall_18 nx39 Q E x6 x7 l7 c7 x20 l20 c20 x21 x22 x7 l7 c7 ((l7 : Nat) : Int) x9 0 H

def l08_RegexSmall_21_M (nx39 : Int → Heap → Prop) (Q : Value → Heap → Prop) (E : Chain → Heap → Prop) (τ : Tau) (H : Heap) : Prop := mS (τ 6) fun x6 => mSl (τ 7) fun x7 l7 c7 => mI .i64 (τ 9) fun x9 => mSl (τ 20) fun x20 l20 c20 => mI .i64 (τ 21) fun x21 => mI .i64 (τ 22) fun x22 => l08_RegexSmall_21 nx39 Q E x6 x7 l7 c7 x9 x20 l20 c20 x21 x22 H

theorem l08_RegexSmall_22ok (nx39 : Int → Heap → Prop) (Q : Value → Heap → Prop) (E : Chain → Heap → Prop) (τ : Tau) (H : Heap) (h : l08_RegexSmall_21_M nx39 Q E τ H) : vc Pr l08_RegexSmall_p29 τ (l08_RegexSmall_q13 nx39 Q E) E H :=
  mS_elim (i := 6) (G := fun τ => vc Pr l08_RegexSmall_p29 τ (l08_RegexSmall_q13 nx39 Q E) E H) h (fun x6 h => mSl_elim (i := 7) (G := fun τ => vc Pr l08_RegexSmall_p29 τ (l08_RegexSmall_q13 nx39 Q E) E H) h (fun x7 l7 c7 h => mI_elim (i := 9) (G := fun τ => vc Pr l08_RegexSmall_p29 τ (l08_RegexSmall_q13 nx39 Q E) E H) h (fun x9 h => mSl_elim (i := 20) (G := fun τ => vc Pr l08_RegexSmall_p29 τ (l08_RegexSmall_q13 nx39 Q E) E H) h (fun x20 l20 c20 h => mI_elim (i := 21) (G := fun τ => vc Pr l08_RegexSmall_p29 τ (l08_RegexSmall_q13 nx39 Q E) E H) h (fun x21 h => mI_elim (i := 22) (G := fun τ => vc Pr l08_RegexSmall_p29 τ (l08_RegexSmall_q13 nx39 Q E) E H) h (fun x22 h => (conv (B := vc Pr l08_RegexSmall_p29 (Tau.upd (Tau.upd (Tau.upd (Tau.upd (Tau.upd (Tau.upd τ 6 (.string x6)) 7 (.slice x7 l7 c7)) 9 (.int .i64 x9)) 20 (.slice x20 l20 c20)) 21 (.int .i64 x21)) 22 (.int .i64 x22)) (l08_RegexSmall_q13 nx39 Q E) E H) (by kernel_rfl) h)))))))

theorem l08_RegexSmall_23ok (nx39 : Int → Heap → Prop) (Q : Value → Heap → Prop) (E : Chain → Heap → Prop) (τ : Tau) (H : Heap) (h : l08_RegexSmall_21_M nx39 Q E τ H) : vc Pr l08_RegexSmall_p21 τ (l08_RegexSmall_q8 nx39 Q E) E H :=
  (conv (B := vc Pr l08_RegexSmall_p21 τ (l08_RegexSmall_q8 nx39 Q E) E H) (by kernel_rfl) (vc_seq (K := (l08_RegexSmall_18_M nx39 Q E)) (l08_RegexSmall_22ok nx39 Q E τ H h) (l08_RegexSmall_20ok nx39 Q E)))

theorem l08_RegexSmall_24ok (nx39 : Int → Heap → Prop) (Q : Value → Heap → Prop) (E : Chain → Heap → Prop) (τ : Tau) (H : Heap) (h : l08_RegexSmall_21_M nx39 Q E τ H) : vc Pr l08_RegexSmall_p17 τ (l08_RegexSmall_q6 nx39 Q E) E H :=
  (conv (B := vc Pr l08_RegexSmall_p17 τ (l08_RegexSmall_q6 nx39 Q E) E H) (by kernel_rfl) (vc_seq (K := (l08_RegexSmall_7_M nx39 Q E)) (l08_RegexSmall_23ok nx39 Q E τ H h) (l08_RegexSmall_9ok nx39 Q E)))

@[reducible] noncomputable def l08_RegexSmall_q14 (nx39 : Int → Heap → Prop) (Q : Value → Heap → Prop) (E : Chain → Heap → Prop) : Exit → Tau → Heap → Prop := (xthen (l08_RegexSmall_21_M nx39 Q E) (l08_RegexSmall_q6 nx39 Q E))

@[reducible] noncomputable def l08_RegexSmall_p30 : Code := sA l08_RegexSmall_p16

def l08_RegexSmall_25 (nx39 : Int → Heap → Prop) (Q : Value → Heap → Prop) (E : Chain → Heap → Prop) (x6 : ByteArray) (x7 : Option Addr) (l7 : Nat) (c7 : Nat) (x20 : Option Addr) (l20 : Nat) (c20 : Nat) (x21 : Int) (x22 : Int) (H : Heap) : Prop :=
 l08_RegexSmall_21 nx39 Q E x6 x7 l7 c7 0 x20 l20 c20 x21 x22 H

def l08_RegexSmall_25_M (nx39 : Int → Heap → Prop) (Q : Value → Heap → Prop) (E : Chain → Heap → Prop) (τ : Tau) (H : Heap) : Prop := mS (τ 6) fun x6 => mSl (τ 7) fun x7 l7 c7 => mSl (τ 20) fun x20 l20 c20 => mI .i64 (τ 21) fun x21 => mI .i64 (τ 22) fun x22 => l08_RegexSmall_25 nx39 Q E x6 x7 l7 c7 x20 l20 c20 x21 x22 H

theorem l08_RegexSmall_26ok (nx39 : Int → Heap → Prop) (Q : Value → Heap → Prop) (E : Chain → Heap → Prop) (τ : Tau) (H : Heap) (h : l08_RegexSmall_25_M nx39 Q E τ H) : vc Pr l08_RegexSmall_p30 τ (l08_RegexSmall_q14 nx39 Q E) E H :=
  mS_elim (i := 6) (G := fun τ => vc Pr l08_RegexSmall_p30 τ (l08_RegexSmall_q14 nx39 Q E) E H) h (fun x6 h => mSl_elim (i := 7) (G := fun τ => vc Pr l08_RegexSmall_p30 τ (l08_RegexSmall_q14 nx39 Q E) E H) h (fun x7 l7 c7 h => mSl_elim (i := 20) (G := fun τ => vc Pr l08_RegexSmall_p30 τ (l08_RegexSmall_q14 nx39 Q E) E H) h (fun x20 l20 c20 h => mI_elim (i := 21) (G := fun τ => vc Pr l08_RegexSmall_p30 τ (l08_RegexSmall_q14 nx39 Q E) E H) h (fun x21 h => mI_elim (i := 22) (G := fun τ => vc Pr l08_RegexSmall_p30 τ (l08_RegexSmall_q14 nx39 Q E) E H) h (fun x22 h => (conv (B := vc Pr l08_RegexSmall_p30 (Tau.upd (Tau.upd (Tau.upd (Tau.upd (Tau.upd τ 6 (.string x6)) 7 (.slice x7 l7 c7)) 20 (.slice x20 l20 c20)) 21 (.int .i64 x21)) 22 (.int .i64 x22)) (l08_RegexSmall_q14 nx39 Q E) E H) (by kernel_rfl) h))))))

theorem l08_RegexSmall_27ok (nx39 : Int → Heap → Prop) (Q : Value → Heap → Prop) (E : Chain → Heap → Prop) (τ : Tau) (H : Heap) (h : l08_RegexSmall_25_M nx39 Q E τ H) : vc Pr l08_RegexSmall_p16 τ (l08_RegexSmall_q6 nx39 Q E) E H :=
  (conv (B := vc Pr l08_RegexSmall_p16 τ (l08_RegexSmall_q6 nx39 Q E) E H) (by kernel_rfl) (vc_seq (K := (l08_RegexSmall_21_M nx39 Q E)) (l08_RegexSmall_26ok nx39 Q E τ H h) (l08_RegexSmall_24ok nx39 Q E)))

@[reducible] noncomputable def l08_RegexSmall_q15 (nx39 : Int → Heap → Prop) (Q : Value → Heap → Prop) (E : Chain → Heap → Prop) : Exit → Tau → Heap → Prop := (xthen (l08_RegexSmall_25_M nx39 Q E) (l08_RegexSmall_q6 nx39 Q E))

@[reducible] noncomputable def l08_RegexSmall_p31 : Code := sA l08_RegexSmall_p15

def l08_RegexSmall_28 (nx39 : Int → Heap → Prop) (Q : Value → Heap → Prop) (E : Chain → Heap → Prop) (x6 : ByteArray) (x7 : Option Addr) (l7 : Nat) (c7 : Nat) (x8 : Int) (x20 : Option Addr) (l20 : Nat) (c20 : Nat) (x21 : Int) (x22 : Int) (H : Heap) : Prop :=
 sel ((x8 : Int) != 0)
 (sel ((((l7 : Nat) : Int) : Int) != 0)
 (Q (.bool false) H)
 (l08_RegexSmall_3 nx39 Q E x20 l20 c20 x21 x22 H))
 (l08_RegexSmall_25 nx39 Q E x6 x7 l7 c7 x20 l20 c20 x21 x22 H)

def l08_RegexSmall_28_M (nx39 : Int → Heap → Prop) (Q : Value → Heap → Prop) (E : Chain → Heap → Prop) (τ : Tau) (H : Heap) : Prop := mS (τ 6) fun x6 => mSl (τ 7) fun x7 l7 c7 => mI .i64 (τ 8) fun x8 => mSl (τ 20) fun x20 l20 c20 => mI .i64 (τ 21) fun x21 => mI .i64 (τ 22) fun x22 => l08_RegexSmall_28 nx39 Q E x6 x7 l7 c7 x8 x20 l20 c20 x21 x22 H

theorem l08_RegexSmall_29ok (nx39 : Int → Heap → Prop) (Q : Value → Heap → Prop) (E : Chain → Heap → Prop) (τ : Tau) (H : Heap) (h : l08_RegexSmall_28_M nx39 Q E τ H) : vc Pr l08_RegexSmall_p31 τ (l08_RegexSmall_q15 nx39 Q E) E H :=
  mS_elim (i := 6) (G := fun τ => vc Pr l08_RegexSmall_p31 τ (l08_RegexSmall_q15 nx39 Q E) E H) h (fun x6 h => mSl_elim (i := 7) (G := fun τ => vc Pr l08_RegexSmall_p31 τ (l08_RegexSmall_q15 nx39 Q E) E H) h (fun x7 l7 c7 h => mI_elim (i := 8) (G := fun τ => vc Pr l08_RegexSmall_p31 τ (l08_RegexSmall_q15 nx39 Q E) E H) h (fun x8 h => mSl_elim (i := 20) (G := fun τ => vc Pr l08_RegexSmall_p31 τ (l08_RegexSmall_q15 nx39 Q E) E H) h (fun x20 l20 c20 h => mI_elim (i := 21) (G := fun τ => vc Pr l08_RegexSmall_p31 τ (l08_RegexSmall_q15 nx39 Q E) E H) h (fun x21 h => mI_elim (i := 22) (G := fun τ => vc Pr l08_RegexSmall_p31 τ (l08_RegexSmall_q15 nx39 Q E) E H) h (fun x22 h => (conv (B := vc Pr l08_RegexSmall_p31 (Tau.upd (Tau.upd (Tau.upd (Tau.upd (Tau.upd (Tau.upd τ 6 (.string x6)) 7 (.slice x7 l7 c7)) 8 (.int .i64 x8)) 20 (.slice x20 l20 c20)) 21 (.int .i64 x21)) 22 (.int .i64 x22)) (l08_RegexSmall_q15 nx39 Q E) E H) (by kernel_rfl) h)))))))

theorem l08_RegexSmall_30ok (nx39 : Int → Heap → Prop) (Q : Value → Heap → Prop) (E : Chain → Heap → Prop) (τ : Tau) (H : Heap) (h : l08_RegexSmall_28_M nx39 Q E τ H) : vc Pr l08_RegexSmall_p15 τ (l08_RegexSmall_q6 nx39 Q E) E H :=
  (conv (B := vc Pr l08_RegexSmall_p15 τ (l08_RegexSmall_q6 nx39 Q E) E H) (by kernel_rfl) (vc_seq (K := (l08_RegexSmall_25_M nx39 Q E)) (l08_RegexSmall_29ok nx39 Q E τ H h) (l08_RegexSmall_27ok nx39 Q E)))

@[reducible] noncomputable def l08_RegexSmall_q16 (nx39 : Int → Heap → Prop) (Q : Value → Heap → Prop) (E : Chain → Heap → Prop) : Exit → Tau → Heap → Prop := (xthen (l08_RegexSmall_28_M nx39 Q E) (l08_RegexSmall_q6 nx39 Q E))

@[reducible] noncomputable def l08_RegexSmall_p32 : Code := sA l08_RegexSmall_p14

def l08_RegexSmall_31 (nx39 : Int → Heap → Prop) (Q : Value → Heap → Prop) (E : Chain → Heap → Prop) (x6 : ByteArray) (x20 : Option Addr) (l20 : Nat) (c20 : Nat) (x21 : Int) (x22 : Int) (H : Heap) : Prop :=
 Does Pr 28 #[(.string x6)] H (fun v111 H112 =>
 ∃ (p113 : Option Addr) (l114 c115 : Nat), ∃ n116 : Int, v111 = (.tuple #[(.slice p113 l114 c115), (.int .i64 n116)]) ∧ l08_RegexSmall_28 nx39 Q E x6 p113 l114 c115 n116 x20 l20 c20 x21 x22 H112) E

def l08_RegexSmall_31_M (nx39 : Int → Heap → Prop) (Q : Value → Heap → Prop) (E : Chain → Heap → Prop) (τ : Tau) (H : Heap) : Prop := mS (τ 6) fun x6 => mSl (τ 20) fun x20 l20 c20 => mI .i64 (τ 21) fun x21 => mI .i64 (τ 22) fun x22 => l08_RegexSmall_31 nx39 Q E x6 x20 l20 c20 x21 x22 H

theorem l08_RegexSmall_32ok (nx39 : Int → Heap → Prop) (Q : Value → Heap → Prop) (E : Chain → Heap → Prop) (τ : Tau) (H : Heap) (h : l08_RegexSmall_31_M nx39 Q E τ H) : vc Pr l08_RegexSmall_p32 τ (l08_RegexSmall_q16 nx39 Q E) E H :=
  mS_elim (i := 6) (G := fun τ => vc Pr l08_RegexSmall_p32 τ (l08_RegexSmall_q16 nx39 Q E) E H) h (fun x6 h => mSl_elim (i := 20) (G := fun τ => vc Pr l08_RegexSmall_p32 τ (l08_RegexSmall_q16 nx39 Q E) E H) h (fun x20 l20 c20 h => mI_elim (i := 21) (G := fun τ => vc Pr l08_RegexSmall_p32 τ (l08_RegexSmall_q16 nx39 Q E) E H) h (fun x21 h => mI_elim (i := 22) (G := fun τ => vc Pr l08_RegexSmall_p32 τ (l08_RegexSmall_q16 nx39 Q E) E H) h (fun x22 h => (conv (B := vc Pr l08_RegexSmall_p32 (Tau.upd (Tau.upd (Tau.upd (Tau.upd τ 6 (.string x6)) 20 (.slice x20 l20 c20)) 21 (.int .i64 x21)) 22 (.int .i64 x22)) (l08_RegexSmall_q16 nx39 Q E) E H) (by kernel_rfl) h)))))

theorem l08_RegexSmall_33ok (nx39 : Int → Heap → Prop) (Q : Value → Heap → Prop) (E : Chain → Heap → Prop) (τ : Tau) (H : Heap) (h : l08_RegexSmall_31_M nx39 Q E τ H) : vc Pr l08_RegexSmall_p14 τ (l08_RegexSmall_q6 nx39 Q E) E H :=
  (conv (B := vc Pr l08_RegexSmall_p14 τ (l08_RegexSmall_q6 nx39 Q E) E H) (by kernel_rfl) (vc_seq (K := (l08_RegexSmall_28_M nx39 Q E)) (l08_RegexSmall_32ok nx39 Q E τ H h) (l08_RegexSmall_30ok nx39 Q E)))

@[reducible] noncomputable def l08_RegexSmall_q17 (nx39 : Int → Heap → Prop) (Q : Value → Heap → Prop) (E : Chain → Heap → Prop) : Exit → Tau → Heap → Prop := (xthen (l08_RegexSmall_31_M nx39 Q E) (l08_RegexSmall_q6 nx39 Q E))

@[reducible] noncomputable def l08_RegexSmall_p33 : Code := sA l08_RegexSmall_p13

def l08_RegexSmall_34 (nx39 : Int → Heap → Prop) (Q : Value → Heap → Prop) (E : Chain → Heap → Prop) (x20 : Option Addr) (l20 : Nat) (c20 : Nat) (x21 : Int) (x22 : Int) (H : Heap) : Prop :=
 (0 ≤ (x22 : Int) ∧ (x22 : Int) < ((l20 : Nat) : Int)) ∧ ptr x20 fun q117 =>
 ldS (Addr.add q117 ((x22 : Int).toNat * 1)) H fun s118 =>
 l08_RegexSmall_31 nx39 Q E s118 x20 l20 c20 x21 x22 H

def l08_RegexSmall_34_M (nx39 : Int → Heap → Prop) (Q : Value → Heap → Prop) (E : Chain → Heap → Prop) (τ : Tau) (H : Heap) : Prop := mSl (τ 20) fun x20 l20 c20 => mI .i64 (τ 21) fun x21 => mI .i64 (τ 22) fun x22 => l08_RegexSmall_34 nx39 Q E x20 l20 c20 x21 x22 H

theorem l08_RegexSmall_35ok (nx39 : Int → Heap → Prop) (Q : Value → Heap → Prop) (E : Chain → Heap → Prop) (τ : Tau) (H : Heap) (h : l08_RegexSmall_34_M nx39 Q E τ H) : vc Pr l08_RegexSmall_p33 τ (l08_RegexSmall_q17 nx39 Q E) E H :=
  mSl_elim (i := 20) (G := fun τ => vc Pr l08_RegexSmall_p33 τ (l08_RegexSmall_q17 nx39 Q E) E H) h (fun x20 l20 c20 h => mI_elim (i := 21) (G := fun τ => vc Pr l08_RegexSmall_p33 τ (l08_RegexSmall_q17 nx39 Q E) E H) h (fun x21 h => mI_elim (i := 22) (G := fun τ => vc Pr l08_RegexSmall_p33 τ (l08_RegexSmall_q17 nx39 Q E) E H) h (fun x22 h => (conv (B := vc Pr l08_RegexSmall_p33 (Tau.upd (Tau.upd (Tau.upd τ 20 (.slice x20 l20 c20)) 21 (.int .i64 x21)) 22 (.int .i64 x22)) (l08_RegexSmall_q17 nx39 Q E) E H) (by kernel_rfl) h))))

theorem l08_RegexSmall_36ok (nx39 : Int → Heap → Prop) (Q : Value → Heap → Prop) (E : Chain → Heap → Prop) (τ : Tau) (H : Heap) (h : l08_RegexSmall_34_M nx39 Q E τ H) : vc Pr l08_RegexSmall_p13 τ (l08_RegexSmall_q6 nx39 Q E) E H :=
  (conv (B := vc Pr l08_RegexSmall_p13 τ (l08_RegexSmall_q6 nx39 Q E) E H) (by kernel_rfl) (vc_seq (K := (l08_RegexSmall_31_M nx39 Q E)) (l08_RegexSmall_35ok nx39 Q E τ H h) (l08_RegexSmall_33ok nx39 Q E)))

theorem l08_RegexSmall_37ok (nx39 : Int → Heap → Prop) (Q : Value → Heap → Prop) (E : Chain → Heap → Prop) (τ : Tau) (H : Heap) (h : l08_RegexSmall_34_M nx39 Q E τ H) : vc Pr l08_RegexSmall_p12 τ (l08_RegexSmall_q5 nx39 Q E) E H :=
  (conv (B := vc Pr l08_RegexSmall_p12 τ (l08_RegexSmall_q5 nx39 Q E) E H) (by kernel_rfl) (l08_RegexSmall_36ok nx39 Q E τ H h))

theorem l08_RegexSmall_38ok (nx39 : Int → Heap → Prop) (Q : Value → Heap → Prop) (E : Chain → Heap → Prop) (τ : Tau) (H : Heap) (h : l08_RegexSmall_34_M nx39 Q E τ H) : vc Pr l08_RegexSmall_p10 τ (l08_RegexSmall_q4 nx39 Q E) E H :=
  (conv (B := vc Pr l08_RegexSmall_p10 τ (l08_RegexSmall_q4 nx39 Q E) E H) (by kernel_rfl) (vc_seq (K := (l08_RegexSmall_3_M nx39 Q E)) (l08_RegexSmall_37ok nx39 Q E τ H h) (l08_RegexSmall_4ok nx39 Q E)))

@[reducible] noncomputable def l08_RegexSmall_q18 (nx39 : Int → Heap → Prop) (Q : Value → Heap → Prop) (E : Chain → Heap → Prop) : Exit → Tau → Heap → Prop := (xthen (l08_RegexSmall_34_M nx39 Q E) (l08_RegexSmall_q4 nx39 Q E))

@[reducible] noncomputable def l08_RegexSmall_p34 : Code := sA l08_RegexSmall_p9

def l08_RegexSmall_39 (nx39 : Int → Heap → Prop) (Q : Value → Heap → Prop) (E : Chain → Heap → Prop) (x20 : Option Addr) (l20 : Nat) (c20 : Nat) (x21 : Int) (x22 : Int) (x23 : Bool) (H : Heap) : Prop :=
 sel x23
 (l08_RegexSmall_34 nx39 Q E x20 l20 c20 x21 x22 H)
 (l08_RegexSmall_1 Q E  H)

def l08_RegexSmall_39_M (nx39 : Int → Heap → Prop) (Q : Value → Heap → Prop) (E : Chain → Heap → Prop) (τ : Tau) (H : Heap) : Prop := mSl (τ 20) fun x20 l20 c20 => mI .i64 (τ 21) fun x21 => mI .i64 (τ 22) fun x22 => mB (τ 23) fun x23 => l08_RegexSmall_39 nx39 Q E x20 l20 c20 x21 x22 x23 H

theorem l08_RegexSmall_40ok (nx39 : Int → Heap → Prop) (Q : Value → Heap → Prop) (E : Chain → Heap → Prop) (τ : Tau) (H : Heap) (h : l08_RegexSmall_39_M nx39 Q E τ H) : vc Pr l08_RegexSmall_p34 τ (l08_RegexSmall_q18 nx39 Q E) E H :=
  mSl_elim (i := 20) (G := fun τ => vc Pr l08_RegexSmall_p34 τ (l08_RegexSmall_q18 nx39 Q E) E H) h (fun x20 l20 c20 h => mI_elim (i := 21) (G := fun τ => vc Pr l08_RegexSmall_p34 τ (l08_RegexSmall_q18 nx39 Q E) E H) h (fun x21 h => mI_elim (i := 22) (G := fun τ => vc Pr l08_RegexSmall_p34 τ (l08_RegexSmall_q18 nx39 Q E) E H) h (fun x22 h => mB_elim (i := 23) (G := fun τ => vc Pr l08_RegexSmall_p34 τ (l08_RegexSmall_q18 nx39 Q E) E H) h (fun x23 h => (conv (B := vc Pr l08_RegexSmall_p34 (Tau.upd (Tau.upd (Tau.upd (Tau.upd τ 20 (.slice x20 l20 c20)) 21 (.int .i64 x21)) 22 (.int .i64 x22)) 23 (.bool x23)) (l08_RegexSmall_q18 nx39 Q E) E H) (by kernel_rfl) h)))))

theorem l08_RegexSmall_41ok (nx39 : Int → Heap → Prop) (Q : Value → Heap → Prop) (E : Chain → Heap → Prop) (τ : Tau) (H : Heap) (h : l08_RegexSmall_39_M nx39 Q E τ H) : vc Pr l08_RegexSmall_p9 τ (l08_RegexSmall_q4 nx39 Q E) E H :=
  (conv (B := vc Pr l08_RegexSmall_p9 τ (l08_RegexSmall_q4 nx39 Q E) E H) (by kernel_rfl) (vc_seq (K := (l08_RegexSmall_34_M nx39 Q E)) (l08_RegexSmall_40ok nx39 Q E τ H h) (l08_RegexSmall_38ok nx39 Q E)))

@[reducible] noncomputable def l08_RegexSmall_q19 (nx39 : Int → Heap → Prop) (Q : Value → Heap → Prop) (E : Chain → Heap → Prop) : Exit → Tau → Heap → Prop := (xthen (l08_RegexSmall_39_M nx39 Q E) (l08_RegexSmall_q4 nx39 Q E))

@[reducible] noncomputable def l08_RegexSmall_p35 : Code := sA l08_RegexSmall_p8

def l08_RegexSmall_42 (nx39 : Int → Heap → Prop) (Q : Value → Heap → Prop) (E : Chain → Heap → Prop) (x20 : Option Addr) (l20 : Nat) (c20 : Nat) (x21 : Int) (x22 : Int) (H : Heap) : Prop :=
 l08_RegexSmall_39 nx39 Q E x20 l20 c20 x21 x22 (decide ((x22 : Int) < x21)) H

def l08_RegexSmall_42_M (nx39 : Int → Heap → Prop) (Q : Value → Heap → Prop) (E : Chain → Heap → Prop) (τ : Tau) (H : Heap) : Prop := mSl (τ 20) fun x20 l20 c20 => mI .i64 (τ 21) fun x21 => mI .i64 (τ 22) fun x22 => l08_RegexSmall_42 nx39 Q E x20 l20 c20 x21 x22 H

theorem l08_RegexSmall_43ok (nx39 : Int → Heap → Prop) (Q : Value → Heap → Prop) (E : Chain → Heap → Prop) (τ : Tau) (H : Heap) (h : l08_RegexSmall_42_M nx39 Q E τ H) : vc Pr l08_RegexSmall_p35 τ (l08_RegexSmall_q19 nx39 Q E) E H :=
  mSl_elim (i := 20) (G := fun τ => vc Pr l08_RegexSmall_p35 τ (l08_RegexSmall_q19 nx39 Q E) E H) h (fun x20 l20 c20 h => mI_elim (i := 21) (G := fun τ => vc Pr l08_RegexSmall_p35 τ (l08_RegexSmall_q19 nx39 Q E) E H) h (fun x21 h => mI_elim (i := 22) (G := fun τ => vc Pr l08_RegexSmall_p35 τ (l08_RegexSmall_q19 nx39 Q E) E H) h (fun x22 h => (conv (B := vc Pr l08_RegexSmall_p35 (Tau.upd (Tau.upd (Tau.upd τ 20 (.slice x20 l20 c20)) 21 (.int .i64 x21)) 22 (.int .i64 x22)) (l08_RegexSmall_q19 nx39 Q E) E H) (by kernel_rfl) h))))

theorem l08_RegexSmall_44ok (nx39 : Int → Heap → Prop) (Q : Value → Heap → Prop) (E : Chain → Heap → Prop) (τ : Tau) (H : Heap) (h : l08_RegexSmall_42_M nx39 Q E τ H) : vc Pr l08_RegexSmall_p8 τ (l08_RegexSmall_q4 nx39 Q E) E H :=
  (conv (B := vc Pr l08_RegexSmall_p8 τ (l08_RegexSmall_q4 nx39 Q E) E H) (by kernel_rfl) (vc_seq (K := (l08_RegexSmall_39_M nx39 Q E)) (l08_RegexSmall_43ok nx39 Q E τ H h) (l08_RegexSmall_41ok nx39 Q E)))

def l08_RegexSmall_45 (Q : Value → Heap → Prop) (E : Chain → Heap → Prop) (x20 : Option Addr) (l20 : Nat) (c20 : Nat) (x21 : Int) (x22 : Int) (H : Heap) : Prop :=
 ∃ (I : Int → Heap → Prop) (μ : Int → Heap → Nat), I x22 H ∧ ∀ (x22 : Int) (H : Heap), I x22 H →
 l08_RegexSmall_42 (fun x22' H1 => I x22' H1 ∧ μ x22' H1 < μ x22 H) Q E x20 l20 c20 x21 x22 H

def l08_RegexSmall_45_M (Q : Value → Heap → Prop) (E : Chain → Heap → Prop) (τ : Tau) (H : Heap) : Prop := mSl (τ 20) fun x20 l20 c20 => mI .i64 (τ 21) fun x21 => mI .i64 (τ 22) fun x22 => l08_RegexSmall_45 Q E x20 l20 c20 x21 x22 H

theorem l08_RegexSmall_46ok (Q : Value → Heap → Prop) (E : Chain → Heap → Prop) (τ : Tau) (H : Heap) (h : l08_RegexSmall_45_M Q E τ H) : vc Pr l08_RegexSmall_p7 τ (l08_RegexSmall_q3 Q E) E H :=
  mSl_elim (i := 20) (G := fun τ => vc Pr l08_RegexSmall_p7 τ (l08_RegexSmall_q3 Q E) E H) h (fun x20 l20 c20 h => mI_elim (i := 21) (G := fun τ => vc Pr l08_RegexSmall_p7 τ (l08_RegexSmall_q3 Q E) E H) h (fun x21 h => mI_elim (i := 22) (G := fun τ => vc Pr l08_RegexSmall_p7 τ (l08_RegexSmall_q3 Q E) E H) h (fun x22 h => match h with | ⟨I, μ, h0, hr⟩ => (conv (B := vc Pr l08_RegexSmall_p7 (Tau.upd (Tau.upd (Tau.upd τ 20 (.slice x20 l20 c20)) 21 (.int .i64 x21)) 22 (.int .i64 x22)) (l08_RegexSmall_q3 Q E) E H) (by kernel_rfl) (vc_loop (c := sI l08_RegexSmall_p7) (τ := (Tau.upd (Tau.upd (Tau.upd τ 20 (.slice x20 l20 c20)) 21 (.int .i64 x21)) 22 (.int .i64 x22))) [20, 21] (fun τ H => mI .i64 (τ 22) fun x22' => I x22' H) (fun τ H => μ (gI (τ 22)) H) (by kernel_rfl) h0 (fun τ1 H1 hf hI => fix_elim (τ := τ1) (i := 20) (v := (.slice x20 l20 c20)) (G := fun τ => vc Pr (sI l08_RegexSmall_p7) τ (xthen (fun τ2 H2 => (mI .i64 (τ2 22) fun x22' => I x22' H2) ∧ μ (gI (τ2 22)) H2 < μ (gI (τ 22)) H1) (l08_RegexSmall_q3 Q E)) E H1) (hf 20 (by simp)) (fix_elim (τ := (Tau.upd τ1 20 (.slice x20 l20 c20))) (i := 21) (v := (.int .i64 x21)) (G := fun τ => vc Pr (sI l08_RegexSmall_p7) τ (xthen (fun τ2 H2 => (mI .i64 (τ2 22) fun x22' => I x22' H2) ∧ μ (gI (τ2 22)) H2 < μ (gI (τ 22)) H1) (l08_RegexSmall_q3 Q E)) E H1) (hf 21 (by simp)) (mI_elim (i := 22) (G := fun τ => vc Pr (sI l08_RegexSmall_p7) τ (xthen (fun τ2 H2 => (mI .i64 (τ2 22) fun x22' => I x22' H2) ∧ μ (gI (τ2 22)) H2 < μ (gI (τ 22)) H1) (l08_RegexSmall_q3 Q E)) E H1) hI (fun x22r h => (conv (B := vc Pr (sI l08_RegexSmall_p7) (Tau.upd (Tau.upd (Tau.upd τ1 20 (.slice x20 l20 c20)) 21 (.int .i64 x21)) 22 (.int .i64 x22r)) (xthen (fun τ2 H2 => (mI .i64 (τ2 22) fun x22' => I x22' H2) ∧ μ (gI (τ2 22)) H2 < μ (gI ((Tau.upd (Tau.upd (Tau.upd τ1 20 (.slice x20 l20 c20)) 21 (.int .i64 x21)) 22 (.int .i64 x22r)) 22)) H1) (l08_RegexSmall_q3 Q E)) E H1) (by kernel_rfl) (vc_xthen (l08_RegexSmall_44ok (fun x22' H2 => I x22' H2 ∧ μ x22' H2 < μ x22r H1) Q E (Tau.upd (Tau.upd (Tau.upd τ1 20 (.slice x20 l20 c20)) 21 (.int .i64 x21)) 22 (.int .i64 x22r)) H1 (conv (B := l08_RegexSmall_42_M (fun x22' H2 => I x22' H2 ∧ μ x22' H2 < μ x22r H1) Q E (Tau.upd (Tau.upd (Tau.upd τ1 20 (.slice x20 l20 c20)) 21 (.int .i64 x21)) 22 (.int .i64 x22r)) H1) (by kernel_rfl) (hr x22r H1 h))) (fun τ2 H2 hk => mI_elim (i := 22) (G := fun τ => (mI .i64 (τ 22) fun x22' => I x22' H2) ∧ μ (gI (τ 22)) H2 < μ x22r H1) hk (fun x22' h => h)))))))))))))

theorem l08_RegexSmall_47ok (Q : Value → Heap → Prop) (E : Chain → Heap → Prop) (τ : Tau) (H : Heap) (h : l08_RegexSmall_45_M Q E τ H) : vc Pr l08_RegexSmall_p6 τ (l08_RegexSmall_q2 Q E) E H :=
  (conv (B := vc Pr l08_RegexSmall_p6 τ (l08_RegexSmall_q2 Q E) E H) (by kernel_rfl) (l08_RegexSmall_46ok Q E τ H h))

@[reducible] noncomputable def l08_RegexSmall_q20 (Q : Value → Heap → Prop) (E : Chain → Heap → Prop) : Exit → Tau → Heap → Prop := (xthen (l08_RegexSmall_45_M Q E) (l08_RegexSmall_q2 Q E))

@[reducible] noncomputable def l08_RegexSmall_p36 : Code := sA l08_RegexSmall_p5

def l08_RegexSmall_48 (Q : Value → Heap → Prop) (E : Chain → Heap → Prop) (x0 : Option Addr) (l0 : Nat) (c0 : Nat) (x1 : ByteArray) (H : Heap) : Prop :=
 Does Pr 30 #[(.slice x0 l0 c0)] H (fun v119 H120 =>
 ∃ s121 : ByteArray, v119 = (.string s121) ∧ nw (.cells #[(.string s121), (.string x1)] 9 (0, 0)) H120 fun i122 H123 =>
 l08_RegexSmall_45 Q E (some ⟨i122, 0, none⟩) 2 2 2 0 H123) E

def l08_RegexSmall_48_M (Q : Value → Heap → Prop) (E : Chain → Heap → Prop) (τ : Tau) (H : Heap) : Prop := mSl (τ 0) fun x0 l0 c0 => mS (τ 1) fun x1 => l08_RegexSmall_48 Q E x0 l0 c0 x1 H

theorem l08_RegexSmall_49ok (Q : Value → Heap → Prop) (E : Chain → Heap → Prop) (τ : Tau) (H : Heap) (h : l08_RegexSmall_48_M Q E τ H) : vc Pr l08_RegexSmall_p36 τ (l08_RegexSmall_q20 Q E) E H :=
  mSl_elim (i := 0) (G := fun τ => vc Pr l08_RegexSmall_p36 τ (l08_RegexSmall_q20 Q E) E H) h (fun x0 l0 c0 h => mS_elim (i := 1) (G := fun τ => vc Pr l08_RegexSmall_p36 τ (l08_RegexSmall_q20 Q E) E H) h (fun x1 h => (conv (B := vc Pr l08_RegexSmall_p36 (Tau.upd (Tau.upd τ 0 (.slice x0 l0 c0)) 1 (.string x1)) (l08_RegexSmall_q20 Q E) E H) (by kernel_rfl) h)))

theorem l08_RegexSmall_50ok (Q : Value → Heap → Prop) (E : Chain → Heap → Prop) (τ : Tau) (H : Heap) (h : l08_RegexSmall_48_M Q E τ H) : vc Pr l08_RegexSmall_p5 τ (l08_RegexSmall_q2 Q E) E H :=
  (conv (B := vc Pr l08_RegexSmall_p5 τ (l08_RegexSmall_q2 Q E) E H) (by kernel_rfl) (vc_seq (K := (l08_RegexSmall_45_M Q E)) (l08_RegexSmall_49ok Q E τ H h) (l08_RegexSmall_47ok Q E)))

theorem l08_RegexSmall_51ok (Q : Value → Heap → Prop) (E : Chain → Heap → Prop) (τ : Tau) (H : Heap) (h : l08_RegexSmall_48_M Q E τ H) : vc Pr l08_RegexSmall_p3 τ (l08_RegexSmall_q1 Q E) E H :=
  (conv (B := vc Pr l08_RegexSmall_p3 τ (l08_RegexSmall_q1 Q E) E H) (by kernel_rfl) (vc_seq (K := (l08_RegexSmall_1_M Q E)) (l08_RegexSmall_50ok Q E τ H h) (l08_RegexSmall_2ok Q E)))

@[reducible] noncomputable def l08_RegexSmall_q21 (Q : Value → Heap → Prop) (E : Chain → Heap → Prop) : Exit → Tau → Heap → Prop := (xthen (l08_RegexSmall_48_M Q E) (l08_RegexSmall_q1 Q E))

@[reducible] noncomputable def l08_RegexSmall_p37 : Code := sA l08_RegexSmall_p2

def l08_RegexSmall_52 (Q : Value → Heap → Prop) (E : Chain → Heap → Prop) (x0 : Option Addr) (l0 : Nat) (c0 : Nat) (x1 : ByteArray) (H : Heap) : Prop :=
 sel (decide ((((ByteArray.size x1 : Nat) : Int) : Int) > 140))
 (Q (.bool true) H)
 (l08_RegexSmall_48 Q E x0 l0 c0 x1 H)

def l08_RegexSmall_52_M (Q : Value → Heap → Prop) (E : Chain → Heap → Prop) (τ : Tau) (H : Heap) : Prop := mSl (τ 0) fun x0 l0 c0 => mS (τ 1) fun x1 => l08_RegexSmall_52 Q E x0 l0 c0 x1 H

theorem l08_RegexSmall_53ok (Q : Value → Heap → Prop) (E : Chain → Heap → Prop) (τ : Tau) (H : Heap) (h : l08_RegexSmall_52_M Q E τ H) : vc Pr l08_RegexSmall_p37 τ (l08_RegexSmall_q21 Q E) E H :=
  mSl_elim (i := 0) (G := fun τ => vc Pr l08_RegexSmall_p37 τ (l08_RegexSmall_q21 Q E) E H) h (fun x0 l0 c0 h => mS_elim (i := 1) (G := fun τ => vc Pr l08_RegexSmall_p37 τ (l08_RegexSmall_q21 Q E) E H) h (fun x1 h => (conv (B := vc Pr l08_RegexSmall_p37 (Tau.upd (Tau.upd τ 0 (.slice x0 l0 c0)) 1 (.string x1)) (l08_RegexSmall_q21 Q E) E H) (by kernel_rfl) h)))

theorem l08_RegexSmall_54ok (Q : Value → Heap → Prop) (E : Chain → Heap → Prop) (τ : Tau) (H : Heap) (h : l08_RegexSmall_52_M Q E τ H) : vc Pr l08_RegexSmall_p2 τ (l08_RegexSmall_q1 Q E) E H :=
  (conv (B := vc Pr l08_RegexSmall_p2 τ (l08_RegexSmall_q1 Q E) E H) (by kernel_rfl) (vc_seq (K := (l08_RegexSmall_48_M Q E)) (l08_RegexSmall_53ok Q E τ H h) (l08_RegexSmall_51ok Q E)))

@[reducible] noncomputable def l08_RegexSmall_q22 (Q : Value → Heap → Prop) (E : Chain → Heap → Prop) : Exit → Tau → Heap → Prop := (xthen (l08_RegexSmall_52_M Q E) (l08_RegexSmall_q1 Q E))

@[reducible] noncomputable def l08_RegexSmall_p38 : Code := sA l08_RegexSmall_p1

def l08_RegexSmall_55 (Q : Value → Heap → Prop) (E : Chain → Heap → Prop) (x0 : Option Addr) (l0 : Nat) (c0 : Nat) (x1 : ByteArray) (H : Heap) : Prop :=
 Does Pr 27 #[] H (fun v124 H125 =>
 ∃ b126 : Bool, v124 = (.bool b126) ∧ sel (!b126)
 (Q (.bool false) H125)
 (l08_RegexSmall_52 Q E x0 l0 c0 x1 H125)) E

def l08_RegexSmall_55_M (Q : Value → Heap → Prop) (E : Chain → Heap → Prop) (τ : Tau) (H : Heap) : Prop := mSl (τ 0) fun x0 l0 c0 => mS (τ 1) fun x1 => l08_RegexSmall_55 Q E x0 l0 c0 x1 H

theorem l08_RegexSmall_56ok (Q : Value → Heap → Prop) (E : Chain → Heap → Prop) (τ : Tau) (H : Heap) (h : l08_RegexSmall_55_M Q E τ H) : vc Pr l08_RegexSmall_p38 τ (l08_RegexSmall_q22 Q E) E H :=
  mSl_elim (i := 0) (G := fun τ => vc Pr l08_RegexSmall_p38 τ (l08_RegexSmall_q22 Q E) E H) h (fun x0 l0 c0 h => mS_elim (i := 1) (G := fun τ => vc Pr l08_RegexSmall_p38 τ (l08_RegexSmall_q22 Q E) E H) h (fun x1 h => (conv (B := vc Pr l08_RegexSmall_p38 (Tau.upd (Tau.upd τ 0 (.slice x0 l0 c0)) 1 (.string x1)) (l08_RegexSmall_q22 Q E) E H) (by kernel_rfl) h)))

theorem l08_RegexSmall_57ok (Q : Value → Heap → Prop) (E : Chain → Heap → Prop) (τ : Tau) (H : Heap) (h : l08_RegexSmall_55_M Q E τ H) : vc Pr l08_RegexSmall_p1 τ (l08_RegexSmall_q1 Q E) E H :=
  (conv (B := vc Pr l08_RegexSmall_p1 τ (l08_RegexSmall_q1 Q E) E H) (by kernel_rfl) (vc_seq (K := (l08_RegexSmall_52_M Q E)) (l08_RegexSmall_56ok Q E τ H h) (l08_RegexSmall_54ok Q E)))

@[reducible] noncomputable def l08_RegexSmall_q23 (Q : Value → Heap → Prop) (E : Chain → Heap → Prop) : Exit → Tau → Heap → Prop := (xthen (l08_RegexSmall_55_M Q E) (l08_RegexSmall_q1 Q E))

@[reducible] noncomputable def l08_RegexSmall_p39 : Code := sA l08_RegexSmall_p0

def l08_RegexSmall (Q : Value → Heap → Prop) (E : Chain → Heap → Prop) (a0 : Option Addr) (a0l : Nat) (a0c : Nat) (a1 : ByteArray) (H : Heap) : Prop :=
 l08_RegexSmall_55 Q E a0 a0l a0c a1 H

theorem l08_RegexSmall_fn (a0 : Option Addr) (a0l : Nat) (a0c : Nat) (a1 : ByteArray) (Q : Value → Heap → Prop) (E : Chain → Heap → Prop) (H : Heap) (h : l08_RegexSmall Q E a0 a0l a0c a1 H)   : Does Pr 13 #[(.slice a0 a0l a0c), (.string a1)] H Q E :=
  Fn_of_vc (fn := Try.f13) (c := l08_RegexSmall_p0) (args := [(.slice a0 a0l a0c), (.string a1)]) mixed (by kernel_rfl) (by kernel_rfl) (by kernel_rfl) (by kernel_rfl) (by kernel_rfl) ((conv (B := vc Pr l08_RegexSmall_p0 (argT [(.slice a0 a0l a0c), (.string a1)]) (l08_RegexSmall_q1 Q E) E H) (by kernel_rfl) (vc_seq (K := (l08_RegexSmall_55_M Q E)) (conv (B := vc Pr l08_RegexSmall_p39 (argT [(.slice a0 a0l a0c), (.string a1)]) (l08_RegexSmall_q23 Q E) E H) (by kernel_rfl) h) (l08_RegexSmall_57ok Q E))))

/-! jobmux/jobmuxlaw08.sane -/
@[reducible] noncomputable def l08_sane_q1 (Q : Value → Heap → Prop) (E : Chain → Heap → Prop) : Exit → Tau → Heap → Prop := (retQ Pr (Try.f27).results.toList Q)

@[reducible] noncomputable def l08_sane_p0 : Code := bodyOf Try.f27

def l08_sane (Q : Value → Heap → Prop) (E : Chain → Heap → Prop)  (H : Heap) : Prop :=
 Does Pr 28 #[(.string ⟨[97, 124, 98, 42].toArray⟩)] H (fun v1 H2 =>
 ∃ (p3 : Option Addr) (l4 c5 : Nat), ∃ n6 : Int, v1 = (.tuple #[(.slice p3 l4 c5), (.int .i64 n6)]) ∧ Does Pr 28 #[(.string ⟨[42, 97].toArray⟩)] H2 (fun v7 H8 =>
 ∃ (p9 : Option Addr) (l10 c11 : Nat), ∃ n12 : Int, v7 = (.tuple #[(.slice p9 l10 c11), (.int .i64 n12)]) ∧ Does Pr 28 #[(.string ⟨[40, 97].toArray⟩)] H8 (fun v13 H14 =>
 ∃ (p15 : Option Addr) (l16 c17 : Nat), ∃ n18 : Int, v13 = (.tuple #[(.slice p15 l16 c17), (.int .i64 n18)]) ∧ Does Pr 28 #[(.string ⟨[91, 98, 45, 97, 93].toArray⟩)] H14 (fun v19 H20 =>
 ∃ (p21 : Option Addr) (l22 c23 : Nat), ∃ n24 : Int, v19 = (.tuple #[(.slice p21 l22 c23), (.int .i64 n24)]) ∧ sel ((n6 : Int) == 0)
 (sel ((((l4 : Nat) : Int) : Int) == 4)
 ((0 ≤ (2 : Int) ∧ (2 : Int) < ((l4 : Nat) : Int)) ∧ ptr p3 fun q25 =>
 ldI .i64 (Addr.add q25 14) H20 fun n26 =>
 sel ((n26 : Int) == 5)
 ((0 ≤ (2 : Int) ∧ (2 : Int) < ((l4 : Nat) : Int)) ∧ ptr p3 fun q27 =>
 ldI .i64 (Addr.add (Addr.add q27 14) 1) H20 fun n28 =>
 sel ((n28 : Int) == 1)
 ((0 ≤ (3 : Int) ∧ (3 : Int) < ((l4 : Nat) : Int)) ∧ ptr p3 fun q29 =>
 ldI .i64 (Addr.add (Addr.add q29 21) 2) H20 fun n30 =>
 sel ((n30 : Int) == 2)
 (sel ((n12 : Int) == 81)
 (sel ((n18 : Int) == 83)
 (Q (.bool ((n24 : Int) == 80)) H20)
 (Q (.bool false) H20))
 (Q (.bool false) H20))
 (Q (.bool false) H20))
 (Q (.bool false) H20))
 (Q (.bool false) H20))
 (Q (.bool false) H20))
 (Q (.bool false) H20)) E) E) E) E

theorem l08_sane_fn  (Q : Value → Heap → Prop) (E : Chain → Heap → Prop) (H : Heap) (h : l08_sane Q E  H)   : Does Pr 27 #[] H Q E :=
  Fn_of_vc (fn := Try.f27) (c := l08_sane_p0) (args := []) mixed (by kernel_rfl) (by kernel_rfl) (by kernel_rfl) (by kernel_rfl) (by kernel_rfl) ((conv (B := vc Pr l08_sane_p0 (argT []) (l08_sane_q1 Q E) E H) (by kernel_rfl) h))

/-! jobmux/jobmuxlaw08.text -/
@[reducible] noncomputable def l08_text_q1 (Q : Value → Heap → Prop) (E : Chain → Heap → Prop) : Exit → Tau → Heap → Prop := (retQ Pr (Try.f30).results.toList Q)

@[reducible] noncomputable def l08_text_p0 : Code := bodyOf Try.f30

@[reducible] noncomputable def l08_text_p1 : Code := sB l08_text_p0

@[reducible] noncomputable def l08_text_p2 : Code := sB l08_text_p1

@[reducible] noncomputable def l08_text_p3 : Code := sB l08_text_p2

@[reducible] noncomputable def l08_text_p4 : Code := sB l08_text_p3

def l08_text_1 (Q : Value → Heap → Prop) (E : Chain → Heap → Prop) (x4 : Option Addr) (l4 : Nat) (c4 : Nat) (H : Heap) : Prop :=
 ∃ bs16 : List UInt8, bs16.length = l4 ∧ Heap.rdS H x4 (bs16.map byteV) ∧ Q (.string (⟨bs16.toArray⟩ : ByteArray)) H

def l08_text_1_M (Q : Value → Heap → Prop) (E : Chain → Heap → Prop) (τ : Tau) (H : Heap) : Prop := mSl (τ 4) fun x4 l4 c4 => l08_text_1 Q E x4 l4 c4 H

theorem l08_text_2ok (Q : Value → Heap → Prop) (E : Chain → Heap → Prop) (τ : Tau) (H : Heap) (h : l08_text_1_M Q E τ H) : vc Pr l08_text_p4 τ (l08_text_q1 Q E) E H :=
  mSl_elim (i := 4) (G := fun τ => vc Pr l08_text_p4 τ (l08_text_q1 Q E) E H) h (fun x4 l4 c4 h => (conv (B := vc Pr l08_text_p4 (Tau.upd τ 4 (.slice x4 l4 c4)) (l08_text_q1 Q E) E H) (by kernel_rfl) h))

@[reducible] noncomputable def l08_text_q2 (Q : Value → Heap → Prop) (E : Chain → Heap → Prop) : Exit → Tau → Heap → Prop := (xthen (l08_text_1_M Q E) (l08_text_q1 Q E))

@[reducible] noncomputable def l08_text_p5 : Code := sA l08_text_p3

@[reducible] noncomputable def l08_text_q3 (Q : Value → Heap → Prop) (E : Chain → Heap → Prop) : Exit → Tau → Heap → Prop := (xblock 0 (l08_text_q2 Q E))

@[reducible] noncomputable def l08_text_p6 : Code := sI l08_text_p5

@[reducible] noncomputable def l08_text_q4 (nx17 : Option Addr → Nat → Nat → Heap → Prop) (Q : Value → Heap → Prop) (E : Chain → Heap → Prop) : Exit → Tau → Heap → Prop := (xthen (fun τ H => mSl (τ 4) fun x4' l4' c4' => nx17 x4' l4' c4' H) (l08_text_q3 Q E))

@[reducible] noncomputable def l08_text_p7 : Code := sI l08_text_p6

@[reducible] noncomputable def l08_text_p8 : Code := sB l08_text_p7

def l08_text_3 (nx17 : Option Addr → Nat → Nat → Heap → Prop) (Q : Value → Heap → Prop) (E : Chain → Heap → Prop) (x3 : Option Addr) (x4 : Option Addr) (l4 : Nat) (c4 : Nat) (H : Heap) : Prop :=
 Does Pr 49 #[(.pointer x3), (.int .i64 21)] H (fun v21 H22 =>
 ∃ n23 : Int, v21 = (.int .i64 n23) ∧ (0 ≤ (n23 : Int) ∧ (n23 : Int) < ((ByteArray.size ⟨[97, 98, 40, 41, 124, 42, 43, 63, 46, 94, 36, 91, 93, 94, 45, 92, 100, 119, 110, 120, 40].toArray⟩ : Nat) : Int)) ∧ nw (.cells #[(.int .u8 (sAt ⟨[97, 98, 40, 41, 124, 42, 43, 63, 46, 94, 36, 91, 93, 94, 45, 92, 100, 119, 110, 120, 40].toArray⟩ n23))] 5 (0, 0)) H22 fun i24 H25 =>
 app Pr 24 x4 l4 c4 (.slice (some ⟨i24, 0, none⟩) 1 1) H25 fun p26 l27 c28 H29 =>
 nx17 p26 l27 c28 H29) E

def l08_text_3_M (nx17 : Option Addr → Nat → Nat → Heap → Prop) (Q : Value → Heap → Prop) (E : Chain → Heap → Prop) (τ : Tau) (H : Heap) : Prop := mP (τ 3) fun x3 => mSl (τ 4) fun x4 l4 c4 => l08_text_3 nx17 Q E x3 x4 l4 c4 H

theorem l08_text_4ok (nx17 : Option Addr → Nat → Nat → Heap → Prop) (Q : Value → Heap → Prop) (E : Chain → Heap → Prop) (τ : Tau) (H : Heap) (h : l08_text_3_M nx17 Q E τ H) : vc Pr l08_text_p8 τ (l08_text_q4 nx17 Q E) E H :=
  mP_elim (i := 3) (G := fun τ => vc Pr l08_text_p8 τ (l08_text_q4 nx17 Q E) E H) h (fun x3 h => mSl_elim (i := 4) (G := fun τ => vc Pr l08_text_p8 τ (l08_text_q4 nx17 Q E) E H) h (fun x4 l4 c4 h => (conv (B := vc Pr l08_text_p8 (Tau.upd (Tau.upd τ 3 (.pointer x3)) 4 (.slice x4 l4 c4)) (l08_text_q4 nx17 Q E) E H) (by kernel_rfl) h)))

@[reducible] noncomputable def l08_text_q5 (nx17 : Option Addr → Nat → Nat → Heap → Prop) (Q : Value → Heap → Prop) (E : Chain → Heap → Prop) : Exit → Tau → Heap → Prop := (xthen (l08_text_3_M nx17 Q E) (l08_text_q4 nx17 Q E))

@[reducible] noncomputable def l08_text_p9 : Code := sA l08_text_p7

@[reducible] noncomputable def l08_text_p10 : Code := sB l08_text_p9

def l08_text_5 (nx17 : Option Addr → Nat → Nat → Heap → Prop) (Q : Value → Heap → Prop) (E : Chain → Heap → Prop) (x3 : Option Addr) (x4 : Option Addr) (l4 : Nat) (c4 : Nat) (x13 : Bool) (H : Heap) : Prop :=
 sel x13
 (l08_text_3 nx17 Q E x3 x4 l4 c4 H)
 (l08_text_1 Q E x4 l4 c4 H)

def l08_text_5_M (nx17 : Option Addr → Nat → Nat → Heap → Prop) (Q : Value → Heap → Prop) (E : Chain → Heap → Prop) (τ : Tau) (H : Heap) : Prop := mP (τ 3) fun x3 => mSl (τ 4) fun x4 l4 c4 => mB (τ 13) fun x13 => l08_text_5 nx17 Q E x3 x4 l4 c4 x13 H

theorem l08_text_6ok (nx17 : Option Addr → Nat → Nat → Heap → Prop) (Q : Value → Heap → Prop) (E : Chain → Heap → Prop) (τ : Tau) (H : Heap) (h : l08_text_5_M nx17 Q E τ H) : vc Pr l08_text_p10 τ (l08_text_q5 nx17 Q E) E H :=
  mP_elim (i := 3) (G := fun τ => vc Pr l08_text_p10 τ (l08_text_q5 nx17 Q E) E H) h (fun x3 h => mSl_elim (i := 4) (G := fun τ => vc Pr l08_text_p10 τ (l08_text_q5 nx17 Q E) E H) h (fun x4 l4 c4 h => mB_elim (i := 13) (G := fun τ => vc Pr l08_text_p10 τ (l08_text_q5 nx17 Q E) E H) h (fun x13 h => (conv (B := vc Pr l08_text_p10 (Tau.upd (Tau.upd (Tau.upd τ 3 (.pointer x3)) 4 (.slice x4 l4 c4)) 13 (.bool x13)) (l08_text_q5 nx17 Q E) E H) (by kernel_rfl) h))))

@[reducible] noncomputable def l08_text_q6 (nx17 : Option Addr → Nat → Nat → Heap → Prop) (Q : Value → Heap → Prop) (E : Chain → Heap → Prop) : Exit → Tau → Heap → Prop := (xthen (l08_text_5_M nx17 Q E) (l08_text_q5 nx17 Q E))

@[reducible] noncomputable def l08_text_p11 : Code := sA l08_text_p9

def l08_text_7 (nx17 : Option Addr → Nat → Nat → Heap → Prop) (Q : Value → Heap → Prop) (E : Chain → Heap → Prop) (x3 : Option Addr) (x4 : Option Addr) (l4 : Nat) (c4 : Nat) (H : Heap) : Prop :=
 Does Pr 61 #[(.pointer x3)] H (fun v33 H34 =>
 ∃ b35 : Bool, v33 = (.bool b35) ∧ sel b35
 (l08_text_5 nx17 Q E x3 x4 l4 c4 (decide ((((l4 : Nat) : Int) : Int) < 40)) H34)
 (l08_text_5 nx17 Q E x3 x4 l4 c4 false H34)) E

def l08_text_7_M (nx17 : Option Addr → Nat → Nat → Heap → Prop) (Q : Value → Heap → Prop) (E : Chain → Heap → Prop) (τ : Tau) (H : Heap) : Prop := mP (τ 3) fun x3 => mSl (τ 4) fun x4 l4 c4 => l08_text_7 nx17 Q E x3 x4 l4 c4 H

theorem l08_text_8ok (nx17 : Option Addr → Nat → Nat → Heap → Prop) (Q : Value → Heap → Prop) (E : Chain → Heap → Prop) (τ : Tau) (H : Heap) (h : l08_text_7_M nx17 Q E τ H) : vc Pr l08_text_p11 τ (l08_text_q6 nx17 Q E) E H :=
  mP_elim (i := 3) (G := fun τ => vc Pr l08_text_p11 τ (l08_text_q6 nx17 Q E) E H) h (fun x3 h => mSl_elim (i := 4) (G := fun τ => vc Pr l08_text_p11 τ (l08_text_q6 nx17 Q E) E H) h (fun x4 l4 c4 h => (conv (B := vc Pr l08_text_p11 (Tau.upd (Tau.upd τ 3 (.pointer x3)) 4 (.slice x4 l4 c4)) (l08_text_q6 nx17 Q E) E H) (by kernel_rfl) h)))

theorem l08_text_9ok (nx17 : Option Addr → Nat → Nat → Heap → Prop) (Q : Value → Heap → Prop) (E : Chain → Heap → Prop) (τ : Tau) (H : Heap) (h : l08_text_7_M nx17 Q E τ H) : vc Pr l08_text_p9 τ (l08_text_q5 nx17 Q E) E H :=
  (conv (B := vc Pr l08_text_p9 τ (l08_text_q5 nx17 Q E) E H) (by kernel_rfl) (vc_seq (K := (l08_text_5_M nx17 Q E)) (l08_text_8ok nx17 Q E τ H h) (l08_text_6ok nx17 Q E)))

theorem l08_text_10ok (nx17 : Option Addr → Nat → Nat → Heap → Prop) (Q : Value → Heap → Prop) (E : Chain → Heap → Prop) (τ : Tau) (H : Heap) (h : l08_text_7_M nx17 Q E τ H) : vc Pr l08_text_p7 τ (l08_text_q4 nx17 Q E) E H :=
  (conv (B := vc Pr l08_text_p7 τ (l08_text_q4 nx17 Q E) E H) (by kernel_rfl) (vc_seq (K := (l08_text_3_M nx17 Q E)) (l08_text_9ok nx17 Q E τ H h) (l08_text_4ok nx17 Q E)))

def l08_text_11 (Q : Value → Heap → Prop) (E : Chain → Heap → Prop) (x3 : Option Addr) (x4 : Option Addr) (l4 : Nat) (c4 : Nat) (H : Heap) : Prop :=
 ∃ (I : Option Addr → Nat → Nat → Heap → Prop) (μ : Option Addr → Nat → Nat → Heap → Nat), I x4 l4 c4 H ∧ ∀ (x4 : Option Addr) (l4 : Nat) (c4 : Nat) (H : Heap), I x4 l4 c4 H →
 l08_text_7 (fun x4' l4' c4' H1 => I x4' l4' c4' H1 ∧ μ x4' l4' c4' H1 < μ x4 l4 c4 H) Q E x3 x4 l4 c4 H

def l08_text_11_M (Q : Value → Heap → Prop) (E : Chain → Heap → Prop) (τ : Tau) (H : Heap) : Prop := mP (τ 3) fun x3 => mSl (τ 4) fun x4 l4 c4 => l08_text_11 Q E x3 x4 l4 c4 H

theorem l08_text_12ok (Q : Value → Heap → Prop) (E : Chain → Heap → Prop) (τ : Tau) (H : Heap) (h : l08_text_11_M Q E τ H) : vc Pr l08_text_p6 τ (l08_text_q3 Q E) E H :=
  mP_elim (i := 3) (G := fun τ => vc Pr l08_text_p6 τ (l08_text_q3 Q E) E H) h (fun x3 h => mSl_elim (i := 4) (G := fun τ => vc Pr l08_text_p6 τ (l08_text_q3 Q E) E H) h (fun x4 l4 c4 h => match h with | ⟨I, μ, h0, hr⟩ => (conv (B := vc Pr l08_text_p6 (Tau.upd (Tau.upd τ 3 (.pointer x3)) 4 (.slice x4 l4 c4)) (l08_text_q3 Q E) E H) (by kernel_rfl) (vc_loop (c := sI l08_text_p6) (τ := (Tau.upd (Tau.upd τ 3 (.pointer x3)) 4 (.slice x4 l4 c4))) [3] (fun τ H => mSl (τ 4) fun x4' l4' c4' => I x4' l4' c4' H) (fun τ H => μ (gL1 (τ 4)) (gL2 (τ 4)) (gL3 (τ 4)) H) (by kernel_rfl) h0 (fun τ1 H1 hf hI => fix_elim (τ := τ1) (i := 3) (v := (.pointer x3)) (G := fun τ => vc Pr (sI l08_text_p6) τ (xthen (fun τ2 H2 => (mSl (τ2 4) fun x4' l4' c4' => I x4' l4' c4' H2) ∧ μ (gL1 (τ2 4)) (gL2 (τ2 4)) (gL3 (τ2 4)) H2 < μ (gL1 (τ 4)) (gL2 (τ 4)) (gL3 (τ 4)) H1) (l08_text_q3 Q E)) E H1) (hf 3 (by simp)) (mSl_elim (i := 4) (G := fun τ => vc Pr (sI l08_text_p6) τ (xthen (fun τ2 H2 => (mSl (τ2 4) fun x4' l4' c4' => I x4' l4' c4' H2) ∧ μ (gL1 (τ2 4)) (gL2 (τ2 4)) (gL3 (τ2 4)) H2 < μ (gL1 (τ 4)) (gL2 (τ 4)) (gL3 (τ 4)) H1) (l08_text_q3 Q E)) E H1) hI (fun x4r l4r c4r h => (conv (B := vc Pr (sI l08_text_p6) (Tau.upd (Tau.upd τ1 3 (.pointer x3)) 4 (.slice x4r l4r c4r)) (xthen (fun τ2 H2 => (mSl (τ2 4) fun x4' l4' c4' => I x4' l4' c4' H2) ∧ μ (gL1 (τ2 4)) (gL2 (τ2 4)) (gL3 (τ2 4)) H2 < μ (gL1 ((Tau.upd (Tau.upd τ1 3 (.pointer x3)) 4 (.slice x4r l4r c4r)) 4)) (gL2 ((Tau.upd (Tau.upd τ1 3 (.pointer x3)) 4 (.slice x4r l4r c4r)) 4)) (gL3 ((Tau.upd (Tau.upd τ1 3 (.pointer x3)) 4 (.slice x4r l4r c4r)) 4)) H1) (l08_text_q3 Q E)) E H1) (by kernel_rfl) (vc_xthen (l08_text_10ok (fun x4' l4' c4' H2 => I x4' l4' c4' H2 ∧ μ x4' l4' c4' H2 < μ x4r l4r c4r H1) Q E (Tau.upd (Tau.upd τ1 3 (.pointer x3)) 4 (.slice x4r l4r c4r)) H1 (conv (B := l08_text_7_M (fun x4' l4' c4' H2 => I x4' l4' c4' H2 ∧ μ x4' l4' c4' H2 < μ x4r l4r c4r H1) Q E (Tau.upd (Tau.upd τ1 3 (.pointer x3)) 4 (.slice x4r l4r c4r)) H1) (by kernel_rfl) (hr x4r l4r c4r H1 h))) (fun τ2 H2 hk => mSl_elim (i := 4) (G := fun τ => (mSl (τ 4) fun x4' l4' c4' => I x4' l4' c4' H2) ∧ μ (gL1 (τ 4)) (gL2 (τ 4)) (gL3 (τ 4)) H2 < μ x4r l4r c4r H1) hk (fun x4' l4' c4' h => h)))))))))))

theorem l08_text_13ok (Q : Value → Heap → Prop) (E : Chain → Heap → Prop) (τ : Tau) (H : Heap) (h : l08_text_11_M Q E τ H) : vc Pr l08_text_p5 τ (l08_text_q2 Q E) E H :=
  (conv (B := vc Pr l08_text_p5 τ (l08_text_q2 Q E) E H) (by kernel_rfl) (l08_text_12ok Q E τ H h))

theorem l08_text_14ok (Q : Value → Heap → Prop) (E : Chain → Heap → Prop) (τ : Tau) (H : Heap) (h : l08_text_11_M Q E τ H) : vc Pr l08_text_p3 τ (l08_text_q1 Q E) E H :=
  (conv (B := vc Pr l08_text_p3 τ (l08_text_q1 Q E) E H) (by kernel_rfl) (vc_seq (K := (l08_text_1_M Q E)) (l08_text_13ok Q E τ H h) (l08_text_2ok Q E)))

@[reducible] noncomputable def l08_text_q7 (Q : Value → Heap → Prop) (E : Chain → Heap → Prop) : Exit → Tau → Heap → Prop := (xthen (l08_text_11_M Q E) (l08_text_q1 Q E))

@[reducible] noncomputable def l08_text_p12 : Code := sA l08_text_p2

def l08_text_15 (Q : Value → Heap → Prop) (E : Chain → Heap → Prop) (x3 : Option Addr) (H : Heap) : Prop :=
 l08_text_11 Q E x3 none 0 0 H

def l08_text_15_M (Q : Value → Heap → Prop) (E : Chain → Heap → Prop) (τ : Tau) (H : Heap) : Prop := mP (τ 3) fun x3 => l08_text_15 Q E x3 H

theorem l08_text_16ok (Q : Value → Heap → Prop) (E : Chain → Heap → Prop) (τ : Tau) (H : Heap) (h : l08_text_15_M Q E τ H) : vc Pr l08_text_p12 τ (l08_text_q7 Q E) E H :=
  mP_elim (i := 3) (G := fun τ => vc Pr l08_text_p12 τ (l08_text_q7 Q E) E H) h (fun x3 h => (conv (B := vc Pr l08_text_p12 (Tau.upd τ 3 (.pointer x3)) (l08_text_q7 Q E) E H) (by kernel_rfl) h))

theorem l08_text_17ok (Q : Value → Heap → Prop) (E : Chain → Heap → Prop) (τ : Tau) (H : Heap) (h : l08_text_15_M Q E τ H) : vc Pr l08_text_p2 τ (l08_text_q1 Q E) E H :=
  (conv (B := vc Pr l08_text_p2 τ (l08_text_q1 Q E) E H) (by kernel_rfl) (vc_seq (K := (l08_text_11_M Q E)) (l08_text_16ok Q E τ H h) (l08_text_14ok Q E)))

@[reducible] noncomputable def l08_text_q8 (Q : Value → Heap → Prop) (E : Chain → Heap → Prop) : Exit → Tau → Heap → Prop := (xthen (l08_text_15_M Q E) (l08_text_q1 Q E))

@[reducible] noncomputable def l08_text_p13 : Code := sA l08_text_p1

def l08_text_18 (Q : Value → Heap → Prop) (E : Chain → Heap → Prop) (x0 : Option Addr) (l0 : Nat) (c0 : Nat) (H : Heap) : Prop :=
 Does Pr 47 #[(.slice x0 l0 c0)] H (fun v36 H37 =>
 ∃ p38 : Option Addr, v36 = (.pointer p38) ∧ l08_text_15 Q E p38 H37) E

def l08_text_18_M (Q : Value → Heap → Prop) (E : Chain → Heap → Prop) (τ : Tau) (H : Heap) : Prop := mSl (τ 0) fun x0 l0 c0 => l08_text_18 Q E x0 l0 c0 H

theorem l08_text_19ok (Q : Value → Heap → Prop) (E : Chain → Heap → Prop) (τ : Tau) (H : Heap) (h : l08_text_18_M Q E τ H) : vc Pr l08_text_p13 τ (l08_text_q8 Q E) E H :=
  mSl_elim (i := 0) (G := fun τ => vc Pr l08_text_p13 τ (l08_text_q8 Q E) E H) h (fun x0 l0 c0 h => (conv (B := vc Pr l08_text_p13 (Tau.upd τ 0 (.slice x0 l0 c0)) (l08_text_q8 Q E) E H) (by kernel_rfl) h))

theorem l08_text_20ok (Q : Value → Heap → Prop) (E : Chain → Heap → Prop) (τ : Tau) (H : Heap) (h : l08_text_18_M Q E τ H) : vc Pr l08_text_p1 τ (l08_text_q1 Q E) E H :=
  (conv (B := vc Pr l08_text_p1 τ (l08_text_q1 Q E) E H) (by kernel_rfl) (vc_seq (K := (l08_text_15_M Q E)) (l08_text_19ok Q E τ H h) (l08_text_17ok Q E)))

@[reducible] noncomputable def l08_text_q9 (Q : Value → Heap → Prop) (E : Chain → Heap → Prop) : Exit → Tau → Heap → Prop := (xthen (l08_text_18_M Q E) (l08_text_q1 Q E))

@[reducible] noncomputable def l08_text_p14 : Code := sA l08_text_p0

def l08_text (Q : Value → Heap → Prop) (E : Chain → Heap → Prop) (a0 : Option Addr) (a0l : Nat) (a0c : Nat) (H : Heap) : Prop :=
 l08_text_18 Q E a0 a0l a0c H

theorem l08_text_fn (a0 : Option Addr) (a0l : Nat) (a0c : Nat) (Q : Value → Heap → Prop) (E : Chain → Heap → Prop) (H : Heap) (h : l08_text Q E a0 a0l a0c H)   : Does Pr 30 #[(.slice a0 a0l a0c)] H Q E :=
  Fn_of_vc (fn := Try.f30) (c := l08_text_p0) (args := [(.slice a0 a0l a0c)]) mixed (by kernel_rfl) (by kernel_rfl) (by kernel_rfl) (by kernel_rfl) (by kernel_rfl) ((conv (B := vc Pr l08_text_p0 (argT [(.slice a0 a0l a0c)]) (l08_text_q1 Q E) E H) (by kernel_rfl) (vc_seq (K := (l08_text_18_M Q E)) (conv (B := vc Pr l08_text_p14 (argT [(.slice a0 a0l a0c)]) (l08_text_q9 Q E) E H) (by kernel_rfl) h) (l08_text_20ok Q E))))

end Go.Proofs.Ytaffcoiomggpfaa
