import Derived.Test.YtaffcoiomggpfaaVPr
/- Printed by gen.py: the Go functions of package r08 over a heap view, and that the model does so. -/
namespace Go.Proofs.Ytaffcoiomggpfaa
open Go.V
set_option linter.unusedVariables false
set_option maxRecDepth 100000
/-! jobmux/jobmuxref08.Same -/
@[reducible] noncomputable def r08_Same_q1 (Q : QT) (E : ET) : Exit → Tau → Heap → Prop := (retQ Pr (Try.f29).results.toList Q)

@[reducible] noncomputable def r08_Same_p0 : Code := bodyOf Try.f29

@[reducible] noncomputable def r08_Same_p1 : Code := sB r08_Same_p0

@[reducible] noncomputable def r08_Same_p2 : Code := sB r08_Same_p1

@[reducible] noncomputable def r08_Same_p3 : Code := sB r08_Same_p2

def r08_Same_1 (Q : QT) (E : ET)  (H : Heap) : Prop :=
 Q (.bool true) H

def r08_Same_1_M (Q : QT) (E : ET) (τ : Tau) (H : Heap) : Prop := r08_Same_1 Q E  H

theorem r08_Same_2ok (Q : QT) (E : ET) (τ : Tau) (H : Heap) (h : r08_Same_1_M Q E τ H) : vc Pr r08_Same_p3 τ (r08_Same_q1 Q E) E H :=
  (conv (B := vc Pr r08_Same_p3 τ (r08_Same_q1 Q E) E H) (by kernel_rfl) h)

@[reducible] noncomputable def r08_Same_q2 (Q : QT) (E : ET) : Exit → Tau → Heap → Prop := (xthen (r08_Same_1_M Q E) (r08_Same_q1 Q E))

@[reducible] noncomputable def r08_Same_p4 : Code := sA r08_Same_p2

@[reducible] noncomputable def r08_Same_p5 : Code := sB r08_Same_p4

@[reducible] noncomputable def r08_Same_q3 (Q : QT) (E : ET) : Exit → Tau → Heap → Prop := (xblock 0 (r08_Same_q2 Q E))

@[reducible] noncomputable def r08_Same_p6 : Code := sI r08_Same_p5

@[reducible] noncomputable def r08_Same_q4 (nx17 : Int → HP) (Q : QT) (E : ET) : Exit → Tau → Heap → Prop := (xthen (fun τ H => mI .i64 (τ 5) fun x5' => nx17 x5' H) (r08_Same_q3 Q E))

@[reducible] noncomputable def r08_Same_p7 : Code := sI r08_Same_p6

@[reducible] noncomputable def r08_Same_p8 : Code := sB r08_Same_p7

@[reducible] noncomputable def r08_Same_p9 : Code := sB r08_Same_p8

def r08_Same_3 (nx17 : Int → HP) (Q : QT) (E : ET) (x0 : OA) (l0 : Nat) (c0 : Nat) (x1 : OA) (l1 : Nat) (c1 : Nat) (x5 : Int) (H : Heap) : Prop :=
 nx17 (IntKind.wrap .i64 (x5 + 1)) H

def r08_Same_3_M (nx17 : Int → HP) (Q : QT) (E : ET) (τ : Tau) (H : Heap) : Prop := mSl (τ 0) fun x0 l0 c0 => mSl (τ 1) fun x1 l1 c1 => mI .i64 (τ 5) fun x5 => r08_Same_3 nx17 Q E x0 l0 c0 x1 l1 c1 x5 H

theorem r08_Same_4ok (nx17 : Int → HP) (Q : QT) (E : ET) (τ : Tau) (H : Heap) (h : r08_Same_3_M nx17 Q E τ H) : vc Pr r08_Same_p9 τ (r08_Same_q4 nx17 Q E) E H :=
  vSl (i := 0) h (fun x0 l0 c0 h => vSl (i := 1) h (fun x1 l1 c1 h => vI (i := 5) h (fun x5 h => (conv (by kernel_rfl) h))))

@[reducible] noncomputable def r08_Same_q5 (nx17 : Int → HP) (Q : QT) (E : ET) : Exit → Tau → Heap → Prop := (xthen (r08_Same_3_M nx17 Q E) (r08_Same_q4 nx17 Q E))

@[reducible] noncomputable def r08_Same_p10 : Code := sA r08_Same_p8

def r08_Same_5 (nx17 : Int → HP) (Q : QT) (E : ET) (x0 : OA) (l0 : Nat) (c0 : Nat) (x1 : OA) (l1 : Nat) (c1 : Nat) (x5 : Int) (H : Heap) : Prop :=
 (0 ≤ (x5 : Int) ∧ (x5 : Int) < ((l0 : Nat) : Int)) ∧ ptr x0 fun q34 =>
 ∃ n35 n36 n37 n38 n39 n40 n41 : Int, Heap.rd H (Addr.add q34 ((x5 : Int).toNat * 7)) 0 [(.int .i64 n35), (.int .i64 n36), (.int .i64 n37), (.int .u64 n38), (.int .u64 n39), (.int .u64 n40), (.int .u64 n41)] ∧ (0 ≤ (x5 : Int) ∧ (x5 : Int) < ((l1 : Nat) : Int)) ∧ ptr x1 fun q42 =>
 ∃ n43 n44 n45 n46 n47 n48 n49 : Int, Heap.rd H (Addr.add q42 ((x5 : Int).toNat * 7)) 0 [(.int .i64 n43), (.int .i64 n44), (.int .i64 n45), (.int .u64 n46), (.int .u64 n47), (.int .u64 n48), (.int .u64 n49)] ∧ sel (!(eqVs [(.int .i64 n35), (.int .i64 n36), (.int .i64 n37), (.int .u64 n38), (.int .u64 n39), (.int .u64 n40), (.int .u64 n41)] [(.int .i64 n43), (.int .i64 n44), (.int .i64 n45), (.int .u64 n46), (.int .u64 n47), (.int .u64 n48), (.int .u64 n49)]))
 (Q (.bool false) H)
 (r08_Same_3 nx17 Q E x0 l0 c0 x1 l1 c1 x5 H)

def r08_Same_5_M (nx17 : Int → HP) (Q : QT) (E : ET) (τ : Tau) (H : Heap) : Prop := mSl (τ 0) fun x0 l0 c0 => mSl (τ 1) fun x1 l1 c1 => mI .i64 (τ 5) fun x5 => r08_Same_5 nx17 Q E x0 l0 c0 x1 l1 c1 x5 H

theorem r08_Same_6ok (nx17 : Int → HP) (Q : QT) (E : ET) (τ : Tau) (H : Heap) (h : r08_Same_5_M nx17 Q E τ H) : vc Pr r08_Same_p10 τ (r08_Same_q5 nx17 Q E) E H :=
  vSl (i := 0) h (fun x0 l0 c0 h => vSl (i := 1) h (fun x1 l1 c1 h => vI (i := 5) h (fun x5 h => (conv (by kernel_rfl) h))))

theorem r08_Same_7ok (nx17 : Int → HP) (Q : QT) (E : ET) (τ : Tau) (H : Heap) (h : r08_Same_5_M nx17 Q E τ H) : vc Pr r08_Same_p8 τ (r08_Same_q4 nx17 Q E) E H :=
  (conv (B := vc Pr r08_Same_p8 τ (r08_Same_q4 nx17 Q E) E H) (by kernel_rfl) (vc_seq (K := (r08_Same_3_M nx17 Q E)) (r08_Same_6ok nx17 Q E τ H h) (r08_Same_4ok nx17 Q E)))

@[reducible] noncomputable def r08_Same_q6 (nx17 : Int → HP) (Q : QT) (E : ET) : Exit → Tau → Heap → Prop := (xthen (r08_Same_5_M nx17 Q E) (r08_Same_q4 nx17 Q E))

@[reducible] noncomputable def r08_Same_p11 : Code := sA r08_Same_p7

def r08_Same_8 (nx17 : Int → HP) (Q : QT) (E : ET) (x0 : OA) (l0 : Nat) (c0 : Nat) (x1 : OA) (l1 : Nat) (c1 : Nat) (x5 : Int) (H : Heap) : Prop :=
 sel (decide ((x5 : Int) < ((l0 : Nat) : Int)))
 (r08_Same_5 nx17 Q E x0 l0 c0 x1 l1 c1 x5 H)
 (r08_Same_1 Q E  H)

def r08_Same_8_M (nx17 : Int → HP) (Q : QT) (E : ET) (τ : Tau) (H : Heap) : Prop := mSl (τ 0) fun x0 l0 c0 => mSl (τ 1) fun x1 l1 c1 => mI .i64 (τ 5) fun x5 => r08_Same_8 nx17 Q E x0 l0 c0 x1 l1 c1 x5 H

theorem r08_Same_9ok (nx17 : Int → HP) (Q : QT) (E : ET) (τ : Tau) (H : Heap) (h : r08_Same_8_M nx17 Q E τ H) : vc Pr r08_Same_p11 τ (r08_Same_q6 nx17 Q E) E H :=
  vSl (i := 0) h (fun x0 l0 c0 h => vSl (i := 1) h (fun x1 l1 c1 h => vI (i := 5) h (fun x5 h => (conv (by kernel_rfl) h))))

theorem r08_Same_10ok (nx17 : Int → HP) (Q : QT) (E : ET) (τ : Tau) (H : Heap) (h : r08_Same_8_M nx17 Q E τ H) : vc Pr r08_Same_p7 τ (r08_Same_q4 nx17 Q E) E H :=
  (conv (B := vc Pr r08_Same_p7 τ (r08_Same_q4 nx17 Q E) E H) (by kernel_rfl) (vc_seq (K := (r08_Same_5_M nx17 Q E)) (r08_Same_9ok nx17 Q E τ H h) (r08_Same_7ok nx17 Q E)))

def r08_Same_11 (Q : QT) (E : ET) (x0 : OA) (l0 : Nat) (c0 : Nat) (x1 : OA) (l1 : Nat) (c1 : Nat) (x5 : Int) (H : Heap) : Prop :=
 ∃ (I : Int → HP) (μ : Int → Heap → Nat), I x5 H ∧ ∀ (x5 : Int) (H : Heap), I x5 H →
 r08_Same_8 (fun x5' H1 => I x5' H1 ∧ μ x5' H1 < μ x5 H) Q E x0 l0 c0 x1 l1 c1 x5 H

def r08_Same_11_M (Q : QT) (E : ET) (τ : Tau) (H : Heap) : Prop := mSl (τ 0) fun x0 l0 c0 => mSl (τ 1) fun x1 l1 c1 => mI .i64 (τ 5) fun x5 => r08_Same_11 Q E x0 l0 c0 x1 l1 c1 x5 H

theorem r08_Same_12ok (Q : QT) (E : ET) (τ : Tau) (H : Heap) (h : r08_Same_11_M Q E τ H) : vc Pr r08_Same_p6 τ (r08_Same_q3 Q E) E H :=
  vSl (i := 0) h (fun x0 l0 c0 h => vSl (i := 1) h (fun x1 l1 c1 h => vI (i := 5) h (fun x5 h => match h with | ⟨I, μ, h0, hr⟩ => (conv (B := vc Pr r08_Same_p6 (Tau.upd (Tau.upd (Tau.upd τ 0 (.slice x0 l0 c0)) 1 (.slice x1 l1 c1)) 5 (.int .i64 x5)) (r08_Same_q3 Q E) E H) (by kernel_rfl) (vc_loop (c := sI r08_Same_p6) (τ := (Tau.upd (Tau.upd (Tau.upd τ 0 (.slice x0 l0 c0)) 1 (.slice x1 l1 c1)) 5 (.int .i64 x5))) [0, 1] (fun τ H => mI .i64 (τ 5) fun x5' => I x5' H) (fun τ H => μ (gI (τ 5)) H) (by kernel_rfl) h0 (fun τ1 H1 hf hI => fix_elim (τ := τ1) (i := 0) (v := (.slice x0 l0 c0)) (G := fun τ => vc Pr (sI r08_Same_p6) τ (xthen (fun τ2 H2 => (mI .i64 (τ2 5) fun x5' => I x5' H2) ∧ μ (gI (τ2 5)) H2 < μ (gI (τ 5)) H1) (r08_Same_q3 Q E)) E H1) (hf 0 (by simp)) (fix_elim (τ := (Tau.upd τ1 0 (.slice x0 l0 c0))) (i := 1) (v := (.slice x1 l1 c1)) (G := fun τ => vc Pr (sI r08_Same_p6) τ (xthen (fun τ2 H2 => (mI .i64 (τ2 5) fun x5' => I x5' H2) ∧ μ (gI (τ2 5)) H2 < μ (gI (τ 5)) H1) (r08_Same_q3 Q E)) E H1) (hf 1 (by simp)) (mI_elim (i := 5) (G := fun τ => vc Pr (sI r08_Same_p6) τ (xthen (fun τ2 H2 => (mI .i64 (τ2 5) fun x5' => I x5' H2) ∧ μ (gI (τ2 5)) H2 < μ (gI (τ 5)) H1) (r08_Same_q3 Q E)) E H1) hI (fun x5r h => (conv (B := vc Pr (sI r08_Same_p6) (Tau.upd (Tau.upd (Tau.upd τ1 0 (.slice x0 l0 c0)) 1 (.slice x1 l1 c1)) 5 (.int .i64 x5r)) (xthen (fun τ2 H2 => (mI .i64 (τ2 5) fun x5' => I x5' H2) ∧ μ (gI (τ2 5)) H2 < μ (gI ((Tau.upd (Tau.upd (Tau.upd τ1 0 (.slice x0 l0 c0)) 1 (.slice x1 l1 c1)) 5 (.int .i64 x5r)) 5)) H1) (r08_Same_q3 Q E)) E H1) (by kernel_rfl) (vc_xthen (r08_Same_10ok (fun x5' H2 => I x5' H2 ∧ μ x5' H2 < μ x5r H1) Q E (Tau.upd (Tau.upd (Tau.upd τ1 0 (.slice x0 l0 c0)) 1 (.slice x1 l1 c1)) 5 (.int .i64 x5r)) H1 (conv (B := r08_Same_8_M (fun x5' H2 => I x5' H2 ∧ μ x5' H2 < μ x5r H1) Q E (Tau.upd (Tau.upd (Tau.upd τ1 0 (.slice x0 l0 c0)) 1 (.slice x1 l1 c1)) 5 (.int .i64 x5r)) H1) (by kernel_rfl) (hr x5r H1 h))) (fun τ2 H2 hk => mI_elim (i := 5) (G := fun τ => (mI .i64 (τ 5) fun x5' => I x5' H2) ∧ μ (gI (τ 5)) H2 < μ x5r H1) hk (fun x5' h => h)))))))))))))

theorem r08_Same_13ok (Q : QT) (E : ET) (τ : Tau) (H : Heap) (h : r08_Same_11_M Q E τ H) : vc Pr r08_Same_p5 τ (r08_Same_q2 Q E) E H :=
  (conv (B := vc Pr r08_Same_p5 τ (r08_Same_q2 Q E) E H) (by kernel_rfl) (r08_Same_12ok Q E τ H h))

@[reducible] noncomputable def r08_Same_q7 (Q : QT) (E : ET) : Exit → Tau → Heap → Prop := (xthen (r08_Same_11_M Q E) (r08_Same_q2 Q E))

@[reducible] noncomputable def r08_Same_p12 : Code := sA r08_Same_p4

def r08_Same_14 (Q : QT) (E : ET) (x0 : OA) (l0 : Nat) (c0 : Nat) (x1 : OA) (l1 : Nat) (c1 : Nat) (H : Heap) : Prop :=
 r08_Same_11 Q E x0 l0 c0 x1 l1 c1 0 H

def r08_Same_14_M (Q : QT) (E : ET) (τ : Tau) (H : Heap) : Prop := mSl (τ 0) fun x0 l0 c0 => mSl (τ 1) fun x1 l1 c1 => r08_Same_14 Q E x0 l0 c0 x1 l1 c1 H

theorem r08_Same_15ok (Q : QT) (E : ET) (τ : Tau) (H : Heap) (h : r08_Same_14_M Q E τ H) : vc Pr r08_Same_p12 τ (r08_Same_q7 Q E) E H :=
  vSl (i := 0) h (fun x0 l0 c0 h => vSl (i := 1) h (fun x1 l1 c1 h => (conv (by kernel_rfl) h)))

theorem r08_Same_16ok (Q : QT) (E : ET) (τ : Tau) (H : Heap) (h : r08_Same_14_M Q E τ H) : vc Pr r08_Same_p4 τ (r08_Same_q2 Q E) E H :=
  (conv (B := vc Pr r08_Same_p4 τ (r08_Same_q2 Q E) E H) (by kernel_rfl) (vc_seq (K := (r08_Same_11_M Q E)) (r08_Same_15ok Q E τ H h) (r08_Same_13ok Q E)))

theorem r08_Same_17ok (Q : QT) (E : ET) (τ : Tau) (H : Heap) (h : r08_Same_14_M Q E τ H) : vc Pr r08_Same_p2 τ (r08_Same_q1 Q E) E H :=
  (conv (B := vc Pr r08_Same_p2 τ (r08_Same_q1 Q E) E H) (by kernel_rfl) (vc_seq (K := (r08_Same_1_M Q E)) (r08_Same_16ok Q E τ H h) (r08_Same_2ok Q E)))

@[reducible] noncomputable def r08_Same_q8 (Q : QT) (E : ET) : Exit → Tau → Heap → Prop := (xthen (r08_Same_14_M Q E) (r08_Same_q1 Q E))

@[reducible] noncomputable def r08_Same_p13 : Code := sA r08_Same_p1

def r08_Same_18 (Q : QT) (E : ET) (x0 : OA) (l0 : Nat) (c0 : Nat) (x1 : OA) (l1 : Nat) (c1 : Nat) (H : Heap) : Prop :=
 sel ((((l0 : Nat) : Int) : Int) != ((l1 : Nat) : Int))
 (Q (.bool false) H)
 (r08_Same_14 Q E x0 l0 c0 x1 l1 c1 H)

def r08_Same_18_M (Q : QT) (E : ET) (τ : Tau) (H : Heap) : Prop := mSl (τ 0) fun x0 l0 c0 => mSl (τ 1) fun x1 l1 c1 => r08_Same_18 Q E x0 l0 c0 x1 l1 c1 H

theorem r08_Same_19ok (Q : QT) (E : ET) (τ : Tau) (H : Heap) (h : r08_Same_18_M Q E τ H) : vc Pr r08_Same_p13 τ (r08_Same_q8 Q E) E H :=
  vSl (i := 0) h (fun x0 l0 c0 h => vSl (i := 1) h (fun x1 l1 c1 h => (conv (by kernel_rfl) h)))

theorem r08_Same_20ok (Q : QT) (E : ET) (τ : Tau) (H : Heap) (h : r08_Same_18_M Q E τ H) : vc Pr r08_Same_p1 τ (r08_Same_q1 Q E) E H :=
  (conv (B := vc Pr r08_Same_p1 τ (r08_Same_q1 Q E) E H) (by kernel_rfl) (vc_seq (K := (r08_Same_14_M Q E)) (r08_Same_19ok Q E τ H h) (r08_Same_17ok Q E)))

@[reducible] noncomputable def r08_Same_q9 (Q : QT) (E : ET) : Exit → Tau → Heap → Prop := (xthen (r08_Same_18_M Q E) (r08_Same_q1 Q E))

@[reducible] noncomputable def r08_Same_p14 : Code := sA r08_Same_p0

def r08_Same (Q : QT) (E : ET) (a0 : OA) (a0l : Nat) (a0c : Nat) (a1 : OA) (a1l : Nat) (a1c : Nat) (H : Heap) : Prop :=
 r08_Same_18 Q E a0 a0l a0c a1 a1l a1c H

theorem r08_Same_fn (a0 : OA) (a0l : Nat) (a0c : Nat) (a1 : OA) (a1l : Nat) (a1c : Nat) (Q : QT) (E : ET) (H : Heap) (h : r08_Same Q E a0 a0l a0c a1 a1l a1c H)   : Does Pr 29 #[(.slice a0 a0l a0c), (.slice a1 a1l a1c)] H Q E :=
  Fn_of_vc (fn := Try.f29) (c := r08_Same_p0) (args := [(.slice a0 a0l a0c), (.slice a1 a1l a1c)]) mixed (by kernel_rfl) (by kernel_rfl) (by kernel_rfl) (by kernel_rfl) (by kernel_rfl) ((conv (B := vc Pr r08_Same_p0 (argT [(.slice a0 a0l a0c), (.slice a1 a1l a1c)]) (r08_Same_q1 Q E) E H) (by kernel_rfl) (vc_seq (K := (r08_Same_18_M Q E)) (conv (B := vc Pr r08_Same_p14 (argT [(.slice a0 a0l a0c), (.slice a1 a1l a1c)]) (r08_Same_q9 Q E) E H) (by kernel_rfl) h) (r08_Same_20ok Q E))))

/-! jobmux/jobmuxref08.Kids -/
@[reducible] noncomputable def r08_Kids_q1 (Q : QT) (E : ET) : Exit → Tau → Heap → Prop := (retQ Pr (Try.f42).results.toList Q)

@[reducible] noncomputable def r08_Kids_p0 : Code := bodyOf Try.f42

@[reducible] noncomputable def r08_Kids_p1 : Code := sB r08_Kids_p0

@[reducible] noncomputable def r08_Kids_p2 : Code := sB r08_Kids_p1

def r08_Kids_1 (Q : QT) (E : ET)  (H : Heap) : Prop :=
 Q (.int .i64 0) H

def r08_Kids_1_M (Q : QT) (E : ET) (τ : Tau) (H : Heap) : Prop := r08_Kids_1 Q E  H

theorem r08_Kids_2ok (Q : QT) (E : ET) (τ : Tau) (H : Heap) (h : r08_Kids_1_M Q E τ H) : vc Pr r08_Kids_p2 τ (r08_Kids_q1 Q E) E H :=
  (conv (B := vc Pr r08_Kids_p2 τ (r08_Kids_q1 Q E) E H) (by kernel_rfl) h)

@[reducible] noncomputable def r08_Kids_q2 (Q : QT) (E : ET) : Exit → Tau → Heap → Prop := (xthen (r08_Kids_1_M Q E) (r08_Kids_q1 Q E))

@[reducible] noncomputable def r08_Kids_p3 : Code := sA r08_Kids_p1

@[reducible] noncomputable def r08_Kids_p4 : Code := sB r08_Kids_p3

@[reducible] noncomputable def r08_Kids_q3 (Q : QT) (E : ET) : Exit → Tau → Heap → Prop := (xblock 0 (r08_Kids_q2 Q E))

@[reducible] noncomputable def r08_Kids_p5 : Code := sI r08_Kids_p4

@[reducible] noncomputable def r08_Kids_p6 : Code := sB r08_Kids_p5

@[reducible] noncomputable def r08_Kids_p7 : Code := sT r08_Kids_p6

def r08_Kids_3 (Q : QT) (E : ET)  (H : Heap) : Prop :=
 Q (.int .i64 2) H

def r08_Kids_3_M (Q : QT) (E : ET) (τ : Tau) (H : Heap) : Prop := r08_Kids_3 Q E  H

theorem r08_Kids_4ok (Q : QT) (E : ET) (τ : Tau) (H : Heap) (h : r08_Kids_3_M Q E τ H) : vc Pr r08_Kids_p7 τ (r08_Kids_q3 Q E) E H :=
  (conv (B := vc Pr r08_Kids_p7 τ (r08_Kids_q3 Q E) E H) (by kernel_rfl) h)

@[reducible] noncomputable def r08_Kids_p8 : Code := sE r08_Kids_p6

@[reducible] noncomputable def r08_Kids_p9 : Code := sB r08_Kids_p8

def r08_Kids_5 (Q : QT) (E : ET) (x7 : Bool) (H : Heap) : Prop :=
 sel x7
 (Q (.int .i64 1) H)
 (r08_Kids_1 Q E  H)

def r08_Kids_5_M (Q : QT) (E : ET) (τ : Tau) (H : Heap) : Prop := mB (τ 7) fun x7 => r08_Kids_5 Q E x7 H

theorem r08_Kids_6ok (Q : QT) (E : ET) (τ : Tau) (H : Heap) (h : r08_Kids_5_M Q E τ H) : vc Pr r08_Kids_p9 τ (r08_Kids_q3 Q E) E H :=
  vB (i := 7) h (fun x7 h => (conv (by kernel_rfl) h))

@[reducible] noncomputable def r08_Kids_q4 (Q : QT) (E : ET) : Exit → Tau → Heap → Prop := (xthen (r08_Kids_5_M Q E) (r08_Kids_q3 Q E))

@[reducible] noncomputable def r08_Kids_p10 : Code := sA r08_Kids_p8

def r08_Kids_7 (Q : QT) (E : ET) (x3 : Int) (H : Heap) : Prop :=
 sel ((x3 : Int) == 5)
 (r08_Kids_5 Q E ((x3 : Int) == 5) H)
 (sel ((x3 : Int) == 6)
 (r08_Kids_5 Q E ((x3 : Int) == 6) H)
 (r08_Kids_5 Q E ((x3 : Int) == 7) H))

def r08_Kids_7_M (Q : QT) (E : ET) (τ : Tau) (H : Heap) : Prop := mI .i64 (τ 3) fun x3 => r08_Kids_7 Q E x3 H

theorem r08_Kids_8ok (Q : QT) (E : ET) (τ : Tau) (H : Heap) (h : r08_Kids_7_M Q E τ H) : vc Pr r08_Kids_p10 τ (r08_Kids_q4 Q E) E H :=
  vI (i := 3) h (fun x3 h => (conv (by kernel_rfl) h))

theorem r08_Kids_9ok (Q : QT) (E : ET) (τ : Tau) (H : Heap) (h : r08_Kids_7_M Q E τ H) : vc Pr r08_Kids_p8 τ (r08_Kids_q3 Q E) E H :=
  (conv (B := vc Pr r08_Kids_p8 τ (r08_Kids_q3 Q E) E H) (by kernel_rfl) (vc_seq (K := (r08_Kids_5_M Q E)) (r08_Kids_8ok Q E τ H h) (r08_Kids_6ok Q E)))

def r08_Kids_10 (Q : QT) (E : ET) (x3 : Int) (x4 : Bool) (H : Heap) : Prop :=
 sel x4
 (r08_Kids_3 Q E  H)
 (r08_Kids_7 Q E x3 H)

def r08_Kids_10_M (Q : QT) (E : ET) (τ : Tau) (H : Heap) : Prop := mI .i64 (τ 3) fun x3 => mB (τ 4) fun x4 => r08_Kids_10 Q E x3 x4 H

theorem r08_Kids_11ok (Q : QT) (E : ET) (τ : Tau) (H : Heap) (h : r08_Kids_10_M Q E τ H) : vc Pr r08_Kids_p6 τ (r08_Kids_q3 Q E) E H :=
  vI (i := 3) h (fun x3 h => vB (i := 4) h (fun x4 h => (conv (B := vc Pr r08_Kids_p6 (Tau.upd (Tau.upd τ 3 (.int .i64 x3)) 4 (.bool x4)) (r08_Kids_q3 Q E) E H) (by kernel_rfl) (sel_map (r08_Kids_4ok Q E (Tau.upd (Tau.upd τ 3 (.int .i64 x3)) 4 (.bool x4)) H) (r08_Kids_9ok Q E (Tau.upd (Tau.upd τ 3 (.int .i64 x3)) 4 (.bool x4)) H) (conv (B := sel x4 (r08_Kids_3_M Q E (Tau.upd (Tau.upd τ 3 (.int .i64 x3)) 4 (.bool x4)) H) (r08_Kids_7_M Q E (Tau.upd (Tau.upd τ 3 (.int .i64 x3)) 4 (.bool x4)) H)) (by kernel_rfl) h)))))

@[reducible] noncomputable def r08_Kids_q5 (Q : QT) (E : ET) : Exit → Tau → Heap → Prop := (xthen (r08_Kids_10_M Q E) (r08_Kids_q3 Q E))

@[reducible] noncomputable def r08_Kids_p11 : Code := sA r08_Kids_p5

def r08_Kids_12 (Q : QT) (E : ET) (x3 : Int) (H : Heap) : Prop :=
 sel ((x3 : Int) == 3)
 (r08_Kids_10 Q E x3 ((x3 : Int) == 3) H)
 (r08_Kids_10 Q E x3 ((x3 : Int) == 4) H)

def r08_Kids_12_M (Q : QT) (E : ET) (τ : Tau) (H : Heap) : Prop := mI .i64 (τ 3) fun x3 => r08_Kids_12 Q E x3 H

theorem r08_Kids_13ok (Q : QT) (E : ET) (τ : Tau) (H : Heap) (h : r08_Kids_12_M Q E τ H) : vc Pr r08_Kids_p11 τ (r08_Kids_q5 Q E) E H :=
  vI (i := 3) h (fun x3 h => (conv (by kernel_rfl) h))

theorem r08_Kids_14ok (Q : QT) (E : ET) (τ : Tau) (H : Heap) (h : r08_Kids_12_M Q E τ H) : vc Pr r08_Kids_p5 τ (r08_Kids_q3 Q E) E H :=
  (conv (B := vc Pr r08_Kids_p5 τ (r08_Kids_q3 Q E) E H) (by kernel_rfl) (vc_seq (K := (r08_Kids_10_M Q E)) (r08_Kids_13ok Q E τ H h) (r08_Kids_11ok Q E)))

theorem r08_Kids_15ok (Q : QT) (E : ET) (τ : Tau) (H : Heap) (h : r08_Kids_12_M Q E τ H) : vc Pr r08_Kids_p4 τ (r08_Kids_q2 Q E) E H :=
  (conv (B := vc Pr r08_Kids_p4 τ (r08_Kids_q2 Q E) E H) (by kernel_rfl) (r08_Kids_14ok Q E τ H h))

@[reducible] noncomputable def r08_Kids_q6 (Q : QT) (E : ET) : Exit → Tau → Heap → Prop := (xthen (r08_Kids_12_M Q E) (r08_Kids_q2 Q E))

@[reducible] noncomputable def r08_Kids_p12 : Code := sA r08_Kids_p3

def r08_Kids_16 (Q : QT) (E : ET) (x0 : Int) (H : Heap) : Prop :=
 r08_Kids_12 Q E x0 H

def r08_Kids_16_M (Q : QT) (E : ET) (τ : Tau) (H : Heap) : Prop := mI .i64 (τ 0) fun x0 => r08_Kids_16 Q E x0 H

theorem r08_Kids_17ok (Q : QT) (E : ET) (τ : Tau) (H : Heap) (h : r08_Kids_16_M Q E τ H) : vc Pr r08_Kids_p12 τ (r08_Kids_q6 Q E) E H :=
  vI (i := 0) h (fun x0 h => (conv (by kernel_rfl) h))

theorem r08_Kids_18ok (Q : QT) (E : ET) (τ : Tau) (H : Heap) (h : r08_Kids_16_M Q E τ H) : vc Pr r08_Kids_p3 τ (r08_Kids_q2 Q E) E H :=
  (conv (B := vc Pr r08_Kids_p3 τ (r08_Kids_q2 Q E) E H) (by kernel_rfl) (vc_seq (K := (r08_Kids_12_M Q E)) (r08_Kids_17ok Q E τ H h) (r08_Kids_15ok Q E)))

theorem r08_Kids_19ok (Q : QT) (E : ET) (τ : Tau) (H : Heap) (h : r08_Kids_16_M Q E τ H) : vc Pr r08_Kids_p1 τ (r08_Kids_q1 Q E) E H :=
  (conv (B := vc Pr r08_Kids_p1 τ (r08_Kids_q1 Q E) E H) (by kernel_rfl) (vc_seq (K := (r08_Kids_1_M Q E)) (r08_Kids_18ok Q E τ H h) (r08_Kids_2ok Q E)))

@[reducible] noncomputable def r08_Kids_q7 (Q : QT) (E : ET) : Exit → Tau → Heap → Prop := (xthen (r08_Kids_16_M Q E) (r08_Kids_q1 Q E))

@[reducible] noncomputable def r08_Kids_p13 : Code := sA r08_Kids_p0

def r08_Kids (Q : QT) (E : ET) (a0 : Int) (H : Heap) : Prop :=
 r08_Kids_16 Q E a0 H

theorem r08_Kids_fn (a0 : Int) (Q : QT) (E : ET) (H : Heap) (h : r08_Kids Q E a0 H)   : Does Pr 42 #[(.int .i64 a0)] H Q E :=
  Fn_of_vc (fn := Try.f42) (c := r08_Kids_p0) (args := [(.int .i64 a0)]) mixed (by kernel_rfl) (by kernel_rfl) (by kernel_rfl) (by kernel_rfl) (by kernel_rfl) ((conv (B := vc Pr r08_Kids_p0 (argT [(.int .i64 a0)]) (r08_Kids_q1 Q E) E H) (by kernel_rfl) (vc_seq (K := (r08_Kids_16_M Q E)) (conv (B := vc Pr r08_Kids_p13 (argT [(.int .i64 a0)]) (r08_Kids_q7 Q E) E H) (by kernel_rfl) h) (r08_Kids_19ok Q E))))

end Go.Proofs.Ytaffcoiomggpfaa
