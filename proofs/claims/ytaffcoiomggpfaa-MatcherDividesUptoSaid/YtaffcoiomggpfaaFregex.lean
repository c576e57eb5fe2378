import Derived.Test.YtaffcoiomggpfaaVPr
import Derived.Test.YtaffcoiomggpfaaFregex_1
/- Printed by gen.py: the Go functions of package regex over a heap view, and that the model does so. -/
namespace Go.Proofs.Ytaffcoiomggpfaa
open Go.V
set_option linter.unusedVariables false
set_option maxRecDepth 100000
/-! jobmux/regex.not -/
@[reducible] noncomputable def ua_q1 (Q : QT) (E : ET) : Exit → Tau → Heap → Prop := (retQ Pr (Try.f111).results.toList Q)

@[reducible] noncomputable def ua_p0 : Code := bodyOf Try.f111

@[reducible] noncomputable def ua_p1 : Code := sB ua_p0

@[reducible] noncomputable def ua_p2 : Code := sB ua_p1

def ua_1 (Q : QT) (E : ET) (x1 : OA) (x2 : OA) (H : Heap) : Prop :=
 ptr x1 fun q7 =>
 ∃ n8 n9 n10 n11 : Int, Heap.rd H q7 0 [(.int .u64 n8), (.int .u64 n9), (.int .u64 n10), (.int .u64 n11)] ∧ ptr x2 fun q13 =>
 wr q13 [(.int .u64 n8), (.int .u64 n9), (.int .u64 n10), (.int .u64 n11)] H fun H12 =>
 ptr x2 fun q14 =>
 ∃ n15 n16 n17 n18 : Int, Heap.rd H12 q14 0 [(.int .u64 n15), (.int .u64 n16), (.int .u64 n17), (.int .u64 n18)] ∧ Q (.agg #[(.int .u64 n15), (.int .u64 n16), (.int .u64 n17), (.int .u64 n18)]) H12

def ua_1_M (Q : QT) (E : ET) (τ : Tau) (H : Heap) : Prop := mP (τ 1) fun x1 => mP (τ 2) fun x2 => ua_1 Q E x1 x2 H

theorem ua_2ok (Q : QT) (E : ET) (τ : Tau) (H : Heap) (h : ua_1_M Q E τ H) : vc Pr ua_p2 τ (ua_q1 Q E) E H :=
  vP (i := 1) h (fun x1 h => vP (i := 2) h (fun x2 h => (conv (by kernel_rfl) h)))

@[reducible] noncomputable def ua_q2 (Q : QT) (E : ET) : Exit → Tau → Heap → Prop := (xthen (ua_1_M Q E) (ua_q1 Q E))

@[reducible] noncomputable def ua_p3 : Code := sA ua_p1

@[reducible] noncomputable def ua_p4 : Code := sB ua_p3

@[reducible] noncomputable def ua_q3 (Q : QT) (E : ET) : Exit → Tau → Heap → Prop := (xblock 0 (ua_q2 Q E))

@[reducible] noncomputable def ua_p5 : Code := sI ua_p4

@[reducible] noncomputable def ua_q4 (nx19 : Int → HP) (Q : QT) (E : ET) : Exit → Tau → Heap → Prop := (xthen (fun τ H => mI .i64 (τ 4) fun x4' => nx19 x4' H) (ua_q3 Q E))

@[reducible] noncomputable def ua_p6 : Code := sI ua_p5

@[reducible] noncomputable def ua_p7 : Code := sB ua_p6

@[reducible] noncomputable def ua_p8 : Code := sB ua_p7

def ua_3 (nx19 : Int → HP) (Q : QT) (E : ET) (x1 : OA) (x2 : OA) (x4 : Int) (H : Heap) : Prop :=
 ptr x1 fun q20 =>
 (0 ≤ (x4 : Int) ∧ (x4 : Int) < ((4 : Nat) : Int)) ∧ ldI .u64 (Addr.add q20 ((x4 : Int).toNat * 1)) H fun n21 =>
 ptr x1 fun q22 =>
 (0 ≤ (x4 : Int) ∧ (x4 : Int) < ((4 : Nat) : Int)) ∧ wr (Addr.add q22 ((x4 : Int).toNat * 1)) [(.int .u64 (IntKind.wrap .u64 (BitVec.ofInt (IntKind.bits .u64) (if IntKind.signed .u64 then -1 else IntKind.max .u64) ^^^ BitVec.ofInt (IntKind.bits .u64) n21).toNat))] H fun H23 =>
 nx19 (IntKind.wrap .i64 (x4 + 1)) H23

def ua_3_M (nx19 : Int → HP) (Q : QT) (E : ET) (τ : Tau) (H : Heap) : Prop := mP (τ 1) fun x1 => mP (τ 2) fun x2 => mI .i64 (τ 4) fun x4 => ua_3 nx19 Q E x1 x2 x4 H

theorem ua_4ok (nx19 : Int → HP) (Q : QT) (E : ET) (τ : Tau) (H : Heap) (h : ua_3_M nx19 Q E τ H) : vc Pr ua_p8 τ (ua_q4 nx19 Q E) E H :=
  vP (i := 1) h (fun x1 h => vP (i := 2) h (fun x2 h => vI (i := 4) h (fun x4 h => (conv (by kernel_rfl) h))))

@[reducible] noncomputable def ua_q5 (nx19 : Int → HP) (Q : QT) (E : ET) : Exit → Tau → Heap → Prop := (xthen (ua_3_M nx19 Q E) (ua_q4 nx19 Q E))

@[reducible] noncomputable def ua_p9 : Code := sA ua_p7

def ua_5 (nx19 : Int → HP) (Q : QT) (E : ET) (x1 : OA) (x2 : OA) (x4 : Int) (x5 : Bool) (H : Heap) : Prop :=
 sel x5
 (ua_3 nx19 Q E x1 x2 x4 H)
 (ua_1 Q E x1 x2 H)

def ua_5_M (nx19 : Int → HP) (Q : QT) (E : ET) (τ : Tau) (H : Heap) : Prop := mP (τ 1) fun x1 => mP (τ 2) fun x2 => mI .i64 (τ 4) fun x4 => mB (τ 5) fun x5 => ua_5 nx19 Q E x1 x2 x4 x5 H

theorem ua_6ok (nx19 : Int → HP) (Q : QT) (E : ET) (τ : Tau) (H : Heap) (h : ua_5_M nx19 Q E τ H) : vc Pr ua_p9 τ (ua_q5 nx19 Q E) E H :=
  vP (i := 1) h (fun x1 h => vP (i := 2) h (fun x2 h => vI (i := 4) h (fun x4 h => vB (i := 5) h (fun x5 h => (conv (by kernel_rfl) h)))))

theorem ua_7ok (nx19 : Int → HP) (Q : QT) (E : ET) (τ : Tau) (H : Heap) (h : ua_5_M nx19 Q E τ H) : vc Pr ua_p7 τ (ua_q4 nx19 Q E) E H :=
  (conv (B := vc Pr ua_p7 τ (ua_q4 nx19 Q E) E H) (by kernel_rfl) (vc_seq (K := (ua_3_M nx19 Q E)) (ua_6ok nx19 Q E τ H h) (ua_4ok nx19 Q E)))

@[reducible] noncomputable def ua_q6 (nx19 : Int → HP) (Q : QT) (E : ET) : Exit → Tau → Heap → Prop := (xthen (ua_5_M nx19 Q E) (ua_q4 nx19 Q E))

@[reducible] noncomputable def ua_p10 : Code := sA ua_p6

def ua_8 (nx19 : Int → HP) (Q : QT) (E : ET) (x1 : OA) (x2 : OA) (x4 : Int) (H : Heap) : Prop :=
 ua_5 nx19 Q E x1 x2 x4 (decide ((x4 : Int) < 4)) H

def ua_8_M (nx19 : Int → HP) (Q : QT) (E : ET) (τ : Tau) (H : Heap) : Prop := mP (τ 1) fun x1 => mP (τ 2) fun x2 => mI .i64 (τ 4) fun x4 => ua_8 nx19 Q E x1 x2 x4 H

theorem ua_9ok (nx19 : Int → HP) (Q : QT) (E : ET) (τ : Tau) (H : Heap) (h : ua_8_M nx19 Q E τ H) : vc Pr ua_p10 τ (ua_q6 nx19 Q E) E H :=
  vP (i := 1) h (fun x1 h => vP (i := 2) h (fun x2 h => vI (i := 4) h (fun x4 h => (conv (by kernel_rfl) h))))

theorem ua_10ok (nx19 : Int → HP) (Q : QT) (E : ET) (τ : Tau) (H : Heap) (h : ua_8_M nx19 Q E τ H) : vc Pr ua_p6 τ (ua_q4 nx19 Q E) E H :=
  (conv (B := vc Pr ua_p6 τ (ua_q4 nx19 Q E) E H) (by kernel_rfl) (vc_seq (K := (ua_5_M nx19 Q E)) (ua_9ok nx19 Q E τ H h) (ua_7ok nx19 Q E)))

def ua_11 (Q : QT) (E : ET) (x1 : OA) (x2 : OA) (x4 : Int) (H : Heap) : Prop :=
 ∃ (I : Int → HP) (μ : Int → Heap → Nat), I x4 H ∧ ∀ (x4 : Int) (H : Heap), I x4 H →
 ua_8 (fun x4' H1 => I x4' H1 ∧ μ x4' H1 < μ x4 H) Q E x1 x2 x4 H

def ua_11_M (Q : QT) (E : ET) (τ : Tau) (H : Heap) : Prop := mP (τ 1) fun x1 => mP (τ 2) fun x2 => mI .i64 (τ 4) fun x4 => ua_11 Q E x1 x2 x4 H

theorem ua_12ok (Q : QT) (E : ET) (τ : Tau) (H : Heap) (h : ua_11_M Q E τ H) : vc Pr ua_p5 τ (ua_q3 Q E) E H :=
  vP (i := 1) h (fun x1 h => vP (i := 2) h (fun x2 h => vI (i := 4) h (fun x4 h => match h with | ⟨I, μ, h0, hr⟩ => (conv (B := vc Pr ua_p5 (Tau.upd (Tau.upd (Tau.upd τ 1 (.pointer x1)) 2 (.pointer x2)) 4 (.int .i64 x4)) (ua_q3 Q E) E H) (by kernel_rfl) (vc_loop (c := sI ua_p5) (τ := (Tau.upd (Tau.upd (Tau.upd τ 1 (.pointer x1)) 2 (.pointer x2)) 4 (.int .i64 x4))) [1, 2] (fun τ H => mI .i64 (τ 4) fun x4' => I x4' H) (fun τ H => μ (gI (τ 4)) H) (by kernel_rfl) h0 (fun τ1 H1 hf hI => fix_elim (τ := τ1) (i := 1) (v := (.pointer x1)) (G := fun τ => vc Pr (sI ua_p5) τ (xthen (fun τ2 H2 => (mI .i64 (τ2 4) fun x4' => I x4' H2) ∧ μ (gI (τ2 4)) H2 < μ (gI (τ 4)) H1) (ua_q3 Q E)) E H1) (hf 1 (by simp)) (fix_elim (τ := (Tau.upd τ1 1 (.pointer x1))) (i := 2) (v := (.pointer x2)) (G := fun τ => vc Pr (sI ua_p5) τ (xthen (fun τ2 H2 => (mI .i64 (τ2 4) fun x4' => I x4' H2) ∧ μ (gI (τ2 4)) H2 < μ (gI (τ 4)) H1) (ua_q3 Q E)) E H1) (hf 2 (by simp)) (mI_elim (i := 4) (G := fun τ => vc Pr (sI ua_p5) τ (xthen (fun τ2 H2 => (mI .i64 (τ2 4) fun x4' => I x4' H2) ∧ μ (gI (τ2 4)) H2 < μ (gI (τ 4)) H1) (ua_q3 Q E)) E H1) hI (fun x4r h => (conv (B := vc Pr (sI ua_p5) (Tau.upd (Tau.upd (Tau.upd τ1 1 (.pointer x1)) 2 (.pointer x2)) 4 (.int .i64 x4r)) (xthen (fun τ2 H2 => (mI .i64 (τ2 4) fun x4' => I x4' H2) ∧ μ (gI (τ2 4)) H2 < μ (gI ((Tau.upd (Tau.upd (Tau.upd τ1 1 (.pointer x1)) 2 (.pointer x2)) 4 (.int .i64 x4r)) 4)) H1) (ua_q3 Q E)) E H1) (by kernel_rfl) (vc_xthen (ua_10ok (fun x4' H2 => I x4' H2 ∧ μ x4' H2 < μ x4r H1) Q E (Tau.upd (Tau.upd (Tau.upd τ1 1 (.pointer x1)) 2 (.pointer x2)) 4 (.int .i64 x4r)) H1 (conv (B := ua_8_M (fun x4' H2 => I x4' H2 ∧ μ x4' H2 < μ x4r H1) Q E (Tau.upd (Tau.upd (Tau.upd τ1 1 (.pointer x1)) 2 (.pointer x2)) 4 (.int .i64 x4r)) H1) (by kernel_rfl) (hr x4r H1 h))) (fun τ2 H2 hk => mI_elim (i := 4) (G := fun τ => (mI .i64 (τ 4) fun x4' => I x4' H2) ∧ μ (gI (τ 4)) H2 < μ x4r H1) hk (fun x4' h => h)))))))))))))

theorem ua_13ok (Q : QT) (E : ET) (τ : Tau) (H : Heap) (h : ua_11_M Q E τ H) : vc Pr ua_p4 τ (ua_q2 Q E) E H :=
  (conv (B := vc Pr ua_p4 τ (ua_q2 Q E) E H) (by kernel_rfl) (ua_12ok Q E τ H h))

@[reducible] noncomputable def ua_q7 (Q : QT) (E : ET) : Exit → Tau → Heap → Prop := (xthen (ua_11_M Q E) (ua_q2 Q E))

@[reducible] noncomputable def ua_p11 : Code := sA ua_p3

def ua_14 (Q : QT) (E : ET) (x1 : OA) (x2 : OA) (H : Heap) : Prop :=
 ua_11 Q E x1 x2 0 H

def ua_14_M (Q : QT) (E : ET) (τ : Tau) (H : Heap) : Prop := mP (τ 1) fun x1 => mP (τ 2) fun x2 => ua_14 Q E x1 x2 H

theorem ua_15ok (Q : QT) (E : ET) (τ : Tau) (H : Heap) (h : ua_14_M Q E τ H) : vc Pr ua_p11 τ (ua_q7 Q E) E H :=
  vP (i := 1) h (fun x1 h => vP (i := 2) h (fun x2 h => (conv (by kernel_rfl) h)))

theorem ua_16ok (Q : QT) (E : ET) (τ : Tau) (H : Heap) (h : ua_14_M Q E τ H) : vc Pr ua_p3 τ (ua_q2 Q E) E H :=
  (conv (B := vc Pr ua_p3 τ (ua_q2 Q E) E H) (by kernel_rfl) (vc_seq (K := (ua_11_M Q E)) (ua_15ok Q E τ H h) (ua_13ok Q E)))

theorem ua_17ok (Q : QT) (E : ET) (τ : Tau) (H : Heap) (h : ua_14_M Q E τ H) : vc Pr ua_p1 τ (ua_q1 Q E) E H :=
  (conv (B := vc Pr ua_p1 τ (ua_q1 Q E) E H) (by kernel_rfl) (vc_seq (K := (ua_1_M Q E)) (ua_16ok Q E τ H h) (ua_2ok Q E)))

@[reducible] noncomputable def ua_q8 (Q : QT) (E : ET) : Exit → Tau → Heap → Prop := (xthen (ua_14_M Q E) (ua_q1 Q E))

@[reducible] noncomputable def ua_p12 : Code := sA ua_p0

def ua (Q : QT) (E : ET) (a0_0 : Int) (a0_1 : Int) (a0_2 : Int) (a0_3 : Int) (H : Heap) : Prop :=
 nw (.cells #[(.int .u64 a0_0), (.int .u64 a0_1), (.int .u64 a0_2), (.int .u64 a0_3)] 46 (0, 0)) H fun i24 H25 =>
 nw (.cells #[(.int .u64 0), (.int .u64 0), (.int .u64 0), (.int .u64 0)] 46 (0, 0)) H25 fun i26 H27 =>
 ua_14 Q E (some ⟨i24, 0, none⟩) (some ⟨i26, 0, none⟩) H27

theorem ua_fn (a0_0 : Int) (a0_1 : Int) (a0_2 : Int) (a0_3 : Int) (Q : QT) (E : ET) (H : Heap) (h : ua Q E a0_0 a0_1 a0_2 a0_3 H)   : Does Pr 111 #[(.agg #[(.int .u64 a0_0), (.int .u64 a0_1), (.int .u64 a0_2), (.int .u64 a0_3)])] H Q E :=
  Fn_of_vc (fn := Try.f111) (c := ua_p0) (args := [(.agg #[(.int .u64 a0_0), (.int .u64 a0_1), (.int .u64 a0_2), (.int .u64 a0_3)])]) mixed (by kernel_rfl) (by kernel_rfl) (by kernel_rfl) (by kernel_rfl) (by kernel_rfl) ((conv (B := vc Pr ua_p0 (argT [(.agg #[(.int .u64 a0_0), (.int .u64 a0_1), (.int .u64 a0_2), (.int .u64 a0_3)])]) (ua_q1 Q E) E H) (by kernel_rfl) (vc_seq (K := (ua_14_M Q E)) (conv (B := vc Pr ua_p12 (argT [(.agg #[(.int .u64 a0_0), (.int .u64 a0_1), (.int .u64 a0_2), (.int .u64 a0_3)])]) (ua_q8 Q E) E H) (by kernel_rfl) h) (ua_17ok Q E))))

/-! jobmux/regex.bytesOf -/
@[reducible] noncomputable def ub_q1 (Q : QT) (E : ET) : Exit → Tau → Heap → Prop := (retQ Pr (Try.f112).results.toList Q)

@[reducible] noncomputable def ub_p0 : Code := bodyOf Try.f112

@[reducible] noncomputable def ub_p1 : Code := sB ub_p0

@[reducible] noncomputable def ub_p2 : Code := sB ub_p1

@[reducible] noncomputable def ub_p3 : Code := sB ub_p2

def ub_1 (Q : QT) (E : ET) (x2 : OA) (x3 : OA) (H : Heap) : Prop :=
 ptr x3 fun q16 =>
 ∃ n17 n18 n19 n20 : Int, Heap.rd H q16 0 [(.int .u64 n17), (.int .u64 n18), (.int .u64 n19), (.int .u64 n20)] ∧ ptr x2 fun q22 =>
 wr q22 [(.int .u64 n17), (.int .u64 n18), (.int .u64 n19), (.int .u64 n20)] H fun H21 =>
 ptr x2 fun q23 =>
 ∃ n24 n25 n26 n27 : Int, Heap.rd H21 q23 0 [(.int .u64 n24), (.int .u64 n25), (.int .u64 n26), (.int .u64 n27)] ∧ Q (.agg #[(.int .u64 n24), (.int .u64 n25), (.int .u64 n26), (.int .u64 n27)]) H21

def ub_1_M (Q : QT) (E : ET) (τ : Tau) (H : Heap) : Prop := mP (τ 2) fun x2 => mP (τ 3) fun x3 => ub_1 Q E x2 x3 H

theorem ub_2ok (Q : QT) (E : ET) (τ : Tau) (H : Heap) (h : ub_1_M Q E τ H) : vc Pr ub_p3 τ (ub_q1 Q E) E H :=
  vP (i := 2) h (fun x2 h => vP (i := 3) h (fun x3 h => (conv (by kernel_rfl) h)))

@[reducible] noncomputable def ub_q2 (Q : QT) (E : ET) : Exit → Tau → Heap → Prop := (xthen (ub_1_M Q E) (ub_q1 Q E))

@[reducible] noncomputable def ub_p4 : Code := sA ub_p2

@[reducible] noncomputable def ub_p5 : Code := sB ub_p4

@[reducible] noncomputable def ub_q3 (Q : QT) (E : ET) : Exit → Tau → Heap → Prop := (xblock 0 (ub_q2 Q E))

@[reducible] noncomputable def ub_p6 : Code := sI ub_p5

@[reducible] noncomputable def ub_q4 (nx28 : Int → HP) (Q : QT) (E : ET) : Exit → Tau → Heap → Prop := (xthen (fun τ H => mI .i64 (τ 7) fun x7' => nx28 x7' H) (ub_q3 Q E))

@[reducible] noncomputable def ub_p7 : Code := sI ub_p6

@[reducible] noncomputable def ub_p8 : Code := sB ub_p7

@[reducible] noncomputable def ub_p9 : Code := sB ub_p8

def ub_3 (nx28 : Int → HP) (Q : QT) (E : ET) (x0 : ByteArray) (x2 : OA) (x3 : OA) (x6 : Int) (x7 : Int) (H : Heap) : Prop :=
 ptr x3 fun q29 =>
 ∃ n30 n31 n32 n33 : Int, Heap.rd H q29 0 [(.int .u64 n30), (.int .u64 n31), (.int .u64 n32), (.int .u64 n33)] ∧ (0 ≤ (x7 : Int) ∧ (x7 : Int) < ((ByteArray.size x0 : Nat) : Int)) ∧ (0 ≤ (x7 : Int) ∧ (x7 : Int) < ((ByteArray.size x0 : Nat) : Int)) ∧ Does Pr 115 #[(.agg #[(.int .u64 n30), (.int .u64 n31), (.int .u64 n32), (.int .u64 n33)]), (.int .u8 (sAt x0 x7)), (.int .u8 (sAt x0 x7))] H (fun v34 H35 =>
 ∃ n36 n37 n38 n39 : Int, v34 = (.agg #[(.int .u64 n36), (.int .u64 n37), (.int .u64 n38), (.int .u64 n39)]) ∧ ptr x3 fun q41 =>
 wr q41 [(.int .u64 n36), (.int .u64 n37), (.int .u64 n38), (.int .u64 n39)] H35 fun H40 =>
 nx28 (IntKind.wrap .i64 (x7 + 1)) H40) (fun _ _ => False)

def ub_3_M (nx28 : Int → HP) (Q : QT) (E : ET) (τ : Tau) (H : Heap) : Prop := mS (τ 0) fun x0 => mP (τ 2) fun x2 => mP (τ 3) fun x3 => mI .i64 (τ 6) fun x6 => mI .i64 (τ 7) fun x7 => ub_3 nx28 Q E x0 x2 x3 x6 x7 H

theorem ub_4ok (nx28 : Int → HP) (Q : QT) (E : ET) (τ : Tau) (H : Heap) (h : ub_3_M nx28 Q E τ H) : vc Pr ub_p9 τ (ub_q4 nx28 Q E) E H :=
  vS (i := 0) h (fun x0 h => vP (i := 2) h (fun x2 h => vP (i := 3) h (fun x3 h => vI (i := 6) h (fun x6 h => vI (i := 7) h (fun x7 h => (conv (by kernel_rfl) h))))))

@[reducible] noncomputable def ub_q5 (nx28 : Int → HP) (Q : QT) (E : ET) : Exit → Tau → Heap → Prop := (xthen (ub_3_M nx28 Q E) (ub_q4 nx28 Q E))

@[reducible] noncomputable def ub_p10 : Code := sA ub_p8

def ub_5 (nx28 : Int → HP) (Q : QT) (E : ET) (x0 : ByteArray) (x2 : OA) (x3 : OA) (x6 : Int) (x7 : Int) (x8 : Bool) (H : Heap) : Prop :=
 sel x8
 (ub_3 nx28 Q E x0 x2 x3 x6 x7 H)
 (ub_1 Q E x2 x3 H)

def ub_5_M (nx28 : Int → HP) (Q : QT) (E : ET) (τ : Tau) (H : Heap) : Prop := mS (τ 0) fun x0 => mP (τ 2) fun x2 => mP (τ 3) fun x3 => mI .i64 (τ 6) fun x6 => mI .i64 (τ 7) fun x7 => mB (τ 8) fun x8 => ub_5 nx28 Q E x0 x2 x3 x6 x7 x8 H

theorem ub_6ok (nx28 : Int → HP) (Q : QT) (E : ET) (τ : Tau) (H : Heap) (h : ub_5_M nx28 Q E τ H) : vc Pr ub_p10 τ (ub_q5 nx28 Q E) E H :=
  vS (i := 0) h (fun x0 h => vP (i := 2) h (fun x2 h => vP (i := 3) h (fun x3 h => vI (i := 6) h (fun x6 h => vI (i := 7) h (fun x7 h => vB (i := 8) h (fun x8 h => (conv (by kernel_rfl) h)))))))

theorem ub_7ok (nx28 : Int → HP) (Q : QT) (E : ET) (τ : Tau) (H : Heap) (h : ub_5_M nx28 Q E τ H) : vc Pr ub_p8 τ (ub_q4 nx28 Q E) E H :=
  (conv (B := vc Pr ub_p8 τ (ub_q4 nx28 Q E) E H) (by kernel_rfl) (vc_seq (K := (ub_3_M nx28 Q E)) (ub_6ok nx28 Q E τ H h) (ub_4ok nx28 Q E)))

@[reducible] noncomputable def ub_q6 (nx28 : Int → HP) (Q : QT) (E : ET) : Exit → Tau → Heap → Prop := (xthen (ub_5_M nx28 Q E) (ub_q4 nx28 Q E))

@[reducible] noncomputable def ub_p11 : Code := sA ub_p7

def ub_8 (nx28 : Int → HP) (Q : QT) (E : ET) (x0 : ByteArray) (x2 : OA) (x3 : OA) (x6 : Int) (x7 : Int) (H : Heap) : Prop :=
 ub_5 nx28 Q E x0 x2 x3 x6 x7 (decide ((x7 : Int) < x6)) H

def ub_8_M (nx28 : Int → HP) (Q : QT) (E : ET) (τ : Tau) (H : Heap) : Prop := mS (τ 0) fun x0 => mP (τ 2) fun x2 => mP (τ 3) fun x3 => mI .i64 (τ 6) fun x6 => mI .i64 (τ 7) fun x7 => ub_8 nx28 Q E x0 x2 x3 x6 x7 H

theorem ub_9ok (nx28 : Int → HP) (Q : QT) (E : ET) (τ : Tau) (H : Heap) (h : ub_8_M nx28 Q E τ H) : vc Pr ub_p11 τ (ub_q6 nx28 Q E) E H :=
  vS (i := 0) h (fun x0 h => vP (i := 2) h (fun x2 h => vP (i := 3) h (fun x3 h => vI (i := 6) h (fun x6 h => vI (i := 7) h (fun x7 h => (conv (by kernel_rfl) h))))))

theorem ub_10ok (nx28 : Int → HP) (Q : QT) (E : ET) (τ : Tau) (H : Heap) (h : ub_8_M nx28 Q E τ H) : vc Pr ub_p7 τ (ub_q4 nx28 Q E) E H :=
  (conv (B := vc Pr ub_p7 τ (ub_q4 nx28 Q E) E H) (by kernel_rfl) (vc_seq (K := (ub_5_M nx28 Q E)) (ub_9ok nx28 Q E τ H h) (ub_7ok nx28 Q E)))

def ub_11 (Q : QT) (E : ET) (x0 : ByteArray) (x2 : OA) (x3 : OA) (x6 : Int) (x7 : Int) (H : Heap) : Prop :=
 ∃ (I : Int → HP) (μ : Int → Heap → Nat), I x7 H ∧ ∀ (x7 : Int) (H : Heap), I x7 H →
 ub_8 (fun x7' H1 => I x7' H1 ∧ μ x7' H1 < μ x7 H) Q E x0 x2 x3 x6 x7 H

def ub_11_M (Q : QT) (E : ET) (τ : Tau) (H : Heap) : Prop := mS (τ 0) fun x0 => mP (τ 2) fun x2 => mP (τ 3) fun x3 => mI .i64 (τ 6) fun x6 => mI .i64 (τ 7) fun x7 => ub_11 Q E x0 x2 x3 x6 x7 H

theorem ub_12ok (Q : QT) (E : ET) (τ : Tau) (H : Heap) (h : ub_11_M Q E τ H) : vc Pr ub_p6 τ (ub_q3 Q E) E H :=
  vS (i := 0) h (fun x0 h => vP (i := 2) h (fun x2 h => vP (i := 3) h (fun x3 h => vI (i := 6) h (fun x6 h => vI (i := 7) h (fun x7 h => match h with | ⟨I, μ, h0, hr⟩ => (conv (B := vc Pr ub_p6 (Tau.upd (Tau.upd (Tau.upd (Tau.upd (Tau.upd τ 0 (.string x0)) 2 (.pointer x2)) 3 (.pointer x3)) 6 (.int .i64 x6)) 7 (.int .i64 x7)) (ub_q3 Q E) E H) (by kernel_rfl) (vc_loop (c := sI ub_p6) (τ := (Tau.upd (Tau.upd (Tau.upd (Tau.upd (Tau.upd τ 0 (.string x0)) 2 (.pointer x2)) 3 (.pointer x3)) 6 (.int .i64 x6)) 7 (.int .i64 x7))) [0, 2, 3, 6] (fun τ H => mI .i64 (τ 7) fun x7' => I x7' H) (fun τ H => μ (gI (τ 7)) H) (by kernel_rfl) h0 (fun τ1 H1 hf hI => fix_elim (τ := τ1) (i := 0) (v := (.string x0)) (G := fun τ => vc Pr (sI ub_p6) τ (xthen (fun τ2 H2 => (mI .i64 (τ2 7) fun x7' => I x7' H2) ∧ μ (gI (τ2 7)) H2 < μ (gI (τ 7)) H1) (ub_q3 Q E)) E H1) (hf 0 (by simp)) (fix_elim (τ := (Tau.upd τ1 0 (.string x0))) (i := 2) (v := (.pointer x2)) (G := fun τ => vc Pr (sI ub_p6) τ (xthen (fun τ2 H2 => (mI .i64 (τ2 7) fun x7' => I x7' H2) ∧ μ (gI (τ2 7)) H2 < μ (gI (τ 7)) H1) (ub_q3 Q E)) E H1) (hf 2 (by simp)) (fix_elim (τ := (Tau.upd (Tau.upd τ1 0 (.string x0)) 2 (.pointer x2))) (i := 3) (v := (.pointer x3)) (G := fun τ => vc Pr (sI ub_p6) τ (xthen (fun τ2 H2 => (mI .i64 (τ2 7) fun x7' => I x7' H2) ∧ μ (gI (τ2 7)) H2 < μ (gI (τ 7)) H1) (ub_q3 Q E)) E H1) (hf 3 (by simp)) (fix_elim (τ := (Tau.upd (Tau.upd (Tau.upd τ1 0 (.string x0)) 2 (.pointer x2)) 3 (.pointer x3))) (i := 6) (v := (.int .i64 x6)) (G := fun τ => vc Pr (sI ub_p6) τ (xthen (fun τ2 H2 => (mI .i64 (τ2 7) fun x7' => I x7' H2) ∧ μ (gI (τ2 7)) H2 < μ (gI (τ 7)) H1) (ub_q3 Q E)) E H1) (hf 6 (by simp)) (mI_elim (i := 7) (G := fun τ => vc Pr (sI ub_p6) τ (xthen (fun τ2 H2 => (mI .i64 (τ2 7) fun x7' => I x7' H2) ∧ μ (gI (τ2 7)) H2 < μ (gI (τ 7)) H1) (ub_q3 Q E)) E H1) hI (fun x7r h => (conv (B := vc Pr (sI ub_p6) (Tau.upd (Tau.upd (Tau.upd (Tau.upd (Tau.upd τ1 0 (.string x0)) 2 (.pointer x2)) 3 (.pointer x3)) 6 (.int .i64 x6)) 7 (.int .i64 x7r)) (xthen (fun τ2 H2 => (mI .i64 (τ2 7) fun x7' => I x7' H2) ∧ μ (gI (τ2 7)) H2 < μ (gI ((Tau.upd (Tau.upd (Tau.upd (Tau.upd (Tau.upd τ1 0 (.string x0)) 2 (.pointer x2)) 3 (.pointer x3)) 6 (.int .i64 x6)) 7 (.int .i64 x7r)) 7)) H1) (ub_q3 Q E)) E H1) (by kernel_rfl) (vc_xthen (ub_10ok (fun x7' H2 => I x7' H2 ∧ μ x7' H2 < μ x7r H1) Q E (Tau.upd (Tau.upd (Tau.upd (Tau.upd (Tau.upd τ1 0 (.string x0)) 2 (.pointer x2)) 3 (.pointer x3)) 6 (.int .i64 x6)) 7 (.int .i64 x7r)) H1 (conv (B := ub_8_M (fun x7' H2 => I x7' H2 ∧ μ x7' H2 < μ x7r H1) Q E (Tau.upd (Tau.upd (Tau.upd (Tau.upd (Tau.upd τ1 0 (.string x0)) 2 (.pointer x2)) 3 (.pointer x3)) 6 (.int .i64 x6)) 7 (.int .i64 x7r)) H1) (by kernel_rfl) (hr x7r H1 h))) (fun τ2 H2 hk => mI_elim (i := 7) (G := fun τ => (mI .i64 (τ 7) fun x7' => I x7' H2) ∧ μ (gI (τ 7)) H2 < μ x7r H1) hk (fun x7' h => h)))))))))))))))))

theorem ub_13ok (Q : QT) (E : ET) (τ : Tau) (H : Heap) (h : ub_11_M Q E τ H) : vc Pr ub_p5 τ (ub_q2 Q E) E H :=
  (conv (B := vc Pr ub_p5 τ (ub_q2 Q E) E H) (by kernel_rfl) (ub_12ok Q E τ H h))

@[reducible] noncomputable def ub_q7 (Q : QT) (E : ET) : Exit → Tau → Heap → Prop := (xthen (ub_11_M Q E) (ub_q2 Q E))

@[reducible] noncomputable def ub_p12 : Code := sA ub_p4

def ub_14 (Q : QT) (E : ET) (x0 : ByteArray) (x2 : OA) (x3 : OA) (H : Heap) : Prop :=
 ub_11 Q E x0 x2 x3 ((ByteArray.size x0 : Nat) : Int) 0 H

def ub_14_M (Q : QT) (E : ET) (τ : Tau) (H : Heap) : Prop := mS (τ 0) fun x0 => mP (τ 2) fun x2 => mP (τ 3) fun x3 => ub_14 Q E x0 x2 x3 H

theorem ub_15ok (Q : QT) (E : ET) (τ : Tau) (H : Heap) (h : ub_14_M Q E τ H) : vc Pr ub_p12 τ (ub_q7 Q E) E H :=
  vS (i := 0) h (fun x0 h => vP (i := 2) h (fun x2 h => vP (i := 3) h (fun x3 h => (conv (by kernel_rfl) h))))

theorem ub_16ok (Q : QT) (E : ET) (τ : Tau) (H : Heap) (h : ub_14_M Q E τ H) : vc Pr ub_p4 τ (ub_q2 Q E) E H :=
  (conv (B := vc Pr ub_p4 τ (ub_q2 Q E) E H) (by kernel_rfl) (vc_seq (K := (ub_11_M Q E)) (ub_15ok Q E τ H h) (ub_13ok Q E)))

theorem ub_17ok (Q : QT) (E : ET) (τ : Tau) (H : Heap) (h : ub_14_M Q E τ H) : vc Pr ub_p2 τ (ub_q1 Q E) E H :=
  (conv (B := vc Pr ub_p2 τ (ub_q1 Q E) E H) (by kernel_rfl) (vc_seq (K := (ub_1_M Q E)) (ub_16ok Q E τ H h) (ub_2ok Q E)))

@[reducible] noncomputable def ub_q8 (Q : QT) (E : ET) : Exit → Tau → Heap → Prop := (xthen (ub_14_M Q E) (ub_q1 Q E))

@[reducible] noncomputable def ub_p13 : Code := sA ub_p1

def ub_18 (Q : QT) (E : ET) (x0 : ByteArray) (x2 : OA) (H : Heap) : Prop :=
 nw (.cells #[(.int .u64 0), (.int .u64 0), (.int .u64 0), (.int .u64 0)] 46 (0, 0)) H fun i42 H43 =>
 ub_14 Q E x0 x2 (some ⟨i42, 0, none⟩) H43

def ub_18_M (Q : QT) (E : ET) (τ : Tau) (H : Heap) : Prop := mS (τ 0) fun x0 => mP (τ 2) fun x2 => ub_18 Q E x0 x2 H

theorem ub_19ok (Q : QT) (E : ET) (τ : Tau) (H : Heap) (h : ub_18_M Q E τ H) : vc Pr ub_p13 τ (ub_q8 Q E) E H :=
  vS (i := 0) h (fun x0 h => vP (i := 2) h (fun x2 h => (conv (by kernel_rfl) h)))

theorem ub_20ok (Q : QT) (E : ET) (τ : Tau) (H : Heap) (h : ub_18_M Q E τ H) : vc Pr ub_p1 τ (ub_q1 Q E) E H :=
  (conv (B := vc Pr ub_p1 τ (ub_q1 Q E) E H) (by kernel_rfl) (vc_seq (K := (ub_14_M Q E)) (ub_19ok Q E τ H h) (ub_17ok Q E)))

@[reducible] noncomputable def ub_q9 (Q : QT) (E : ET) : Exit → Tau → Heap → Prop := (xthen (ub_18_M Q E) (ub_q1 Q E))

@[reducible] noncomputable def ub_p14 : Code := sA ub_p0

def ub (Q : QT) (E : ET) (a0 : ByteArray) (H : Heap) : Prop :=
 nw (.cells #[(.int .u64 0), (.int .u64 0), (.int .u64 0), (.int .u64 0)] 46 (0, 0)) H fun i44 H45 =>
 ub_18 Q E a0 (some ⟨i44, 0, none⟩) H45

theorem ub_fn (a0 : ByteArray) (Q : QT) (E : ET) (H : Heap) (h : ub Q E a0 H)   : Does Pr 112 #[(.string a0)] H Q E :=
  Fn_of_vc (fn := Try.f112) (c := ub_p0) (args := [(.string a0)]) mixed (by kernel_rfl) (by kernel_rfl) (by kernel_rfl) (by kernel_rfl) (by kernel_rfl) ((conv (B := vc Pr ub_p0 (argT [(.string a0)]) (ub_q1 Q E) E H) (by kernel_rfl) (vc_seq (K := (ub_18_M Q E)) (conv (B := vc Pr ub_p14 (argT [(.string a0)]) (ub_q9 Q E) E H) (by kernel_rfl) h) (ub_20ok Q E))))

/-! (*jobmux/regex.parser).class -/
@[reducible] noncomputable def uc_q1 (Q : QT) (E : ET) : Exit → Tau → Heap → Prop := (retQ Pr (Try.f113).results.toList Q)

@[reducible] noncomputable def uc_p0 : Code := bodyOf Try.f113

@[reducible] noncomputable def uc_p1 : Code := sB uc_p0

@[reducible] noncomputable def uc_p2 : Code := sB uc_p1

@[reducible] noncomputable def uc_p3 : Code := sB uc_p2

@[reducible] noncomputable def uc_p4 : Code := sB uc_p3

@[reducible] noncomputable def uc_p5 : Code := sB uc_p4

@[reducible] noncomputable def uc_p6 : Code := sB uc_p5

@[reducible] noncomputable def uc_p7 : Code := sB uc_p6

def uc_1 (Q : QT) (E : ET) (x2 : OA) (x3 : OA) (H : Heap) : Prop :=
 ptr x3 fun q85 =>
 ∃ n86 n87 n88 n89 : Int, Heap.rd H q85 0 [(.int .u64 n86), (.int .u64 n87), (.int .u64 n88), (.int .u64 n89)] ∧ ptr x2 fun q91 =>
 wr q91 [(.int .u64 n86), (.int .u64 n87), (.int .u64 n88), (.int .u64 n89)] H fun H90 =>
 ptr x2 fun q92 =>
 ∃ n93 n94 n95 n96 : Int, Heap.rd H90 q92 0 [(.int .u64 n93), (.int .u64 n94), (.int .u64 n95), (.int .u64 n96)] ∧ Q (.agg #[(.int .u64 n93), (.int .u64 n94), (.int .u64 n95), (.int .u64 n96)]) H90

def uc_1_M (Q : QT) (E : ET) (τ : Tau) (H : Heap) : Prop := mP (τ 2) fun x2 => mP (τ 3) fun x3 => uc_1 Q E x2 x3 H

theorem uc_2ok (Q : QT) (E : ET) (τ : Tau) (H : Heap) (h : uc_1_M Q E τ H) : vc Pr uc_p7 τ (uc_q1 Q E) E H :=
  vP (i := 2) h (fun x2 h => vP (i := 3) h (fun x3 h => (conv (by kernel_rfl) h)))

@[reducible] noncomputable def uc_q2 (Q : QT) (E : ET) : Exit → Tau → Heap → Prop := (xthen (uc_1_M Q E) (uc_q1 Q E))

@[reducible] noncomputable def uc_p8 : Code := sA uc_p6

def uc_3 (Q : QT) (E : ET) (x2 : OA) (x3 : OA) (x6 : Bool) (H : Heap) : Prop :=
 sel x6
 (ptr x3 fun q97 =>
 ∃ n98 n99 n100 n101 : Int, Heap.rd H q97 0 [(.int .u64 n98), (.int .u64 n99), (.int .u64 n100), (.int .u64 n101)] ∧ Does Pr 111 #[(.agg #[(.int .u64 n98), (.int .u64 n99), (.int .u64 n100), (.int .u64 n101)])] H (fun v102 H103 =>
 ∃ n104 n105 n106 n107 : Int, v102 = (.agg #[(.int .u64 n104), (.int .u64 n105), (.int .u64 n106), (.int .u64 n107)]) ∧ ptr x2 fun q109 =>
 wr q109 [(.int .u64 n104), (.int .u64 n105), (.int .u64 n106), (.int .u64 n107)] H103 fun H108 =>
 ptr x2 fun q110 =>
 ∃ n111 n112 n113 n114 : Int, Heap.rd H108 q110 0 [(.int .u64 n111), (.int .u64 n112), (.int .u64 n113), (.int .u64 n114)] ∧ Q (.agg #[(.int .u64 n111), (.int .u64 n112), (.int .u64 n113), (.int .u64 n114)]) H108) E)
 (uc_1 Q E x2 x3 H)

def uc_3_M (Q : QT) (E : ET) (τ : Tau) (H : Heap) : Prop := mP (τ 2) fun x2 => mP (τ 3) fun x3 => mB (τ 6) fun x6 => uc_3 Q E x2 x3 x6 H

theorem uc_4ok (Q : QT) (E : ET) (τ : Tau) (H : Heap) (h : uc_3_M Q E τ H) : vc Pr uc_p8 τ (uc_q2 Q E) E H :=
  vP (i := 2) h (fun x2 h => vP (i := 3) h (fun x3 h => vB (i := 6) h (fun x6 h => (conv (by kernel_rfl) h))))

theorem uc_5ok (Q : QT) (E : ET) (τ : Tau) (H : Heap) (h : uc_3_M Q E τ H) : vc Pr uc_p6 τ (uc_q1 Q E) E H :=
  (conv (B := vc Pr uc_p6 τ (uc_q1 Q E) E H) (by kernel_rfl) (vc_seq (K := (uc_1_M Q E)) (uc_4ok Q E τ H h) (uc_2ok Q E)))

@[reducible] noncomputable def uc_q3 (Q : QT) (E : ET) : Exit → Tau → Heap → Prop := (xthen (uc_3_M Q E) (uc_q1 Q E))

@[reducible] noncomputable def uc_p9 : Code := sA uc_p5

@[reducible] noncomputable def uc_p10 : Code := sB uc_p9

@[reducible] noncomputable def uc_q4 (Q : QT) (E : ET) : Exit → Tau → Heap → Prop := (xblock 0 (uc_q3 Q E))

@[reducible] noncomputable def uc_p11 : Code := sI uc_p10

@[reducible] noncomputable def uc_q5 (nx115 : Bool → HP) (Q : QT) (E : ET) : Exit → Tau → Heap → Prop := (xthen (fun τ H => mB (τ 7) fun x7' => nx115 x7' H) (uc_q4 Q E))

@[reducible] noncomputable def uc_p12 : Code := sI uc_p11

@[reducible] noncomputable def uc_p13 : Code := sB uc_p12

def uc_6 (nx115 : Bool → HP) (Q : QT) (E : ET) (x0 : OA) (x2 : OA) (x3 : OA) (x6 : Bool) (H : Heap) : Prop :=
 nx115 true H

def uc_6_M (nx115 : Bool → HP) (Q : QT) (E : ET) (τ : Tau) (H : Heap) : Prop := mP (τ 0) fun x0 => mP (τ 2) fun x2 => mP (τ 3) fun x3 => mB (τ 6) fun x6 => uc_6 nx115 Q E x0 x2 x3 x6 H

theorem uc_7ok (nx115 : Bool → HP) (Q : QT) (E : ET) (τ : Tau) (H : Heap) (h : uc_6_M nx115 Q E τ H) : vc Pr uc_p13 τ (uc_q5 nx115 Q E) E H :=
  vP (i := 0) h (fun x0 h => vP (i := 2) h (fun x2 h => vP (i := 3) h (fun x3 h => vB (i := 6) h (fun x6 h => (conv (by kernel_rfl) h)))))

@[reducible] noncomputable def uc_q6 (nx115 : Bool → HP) (Q : QT) (E : ET) : Exit → Tau → Heap → Prop := (xthen (uc_6_M nx115 Q E) (uc_q5 nx115 Q E))

@[reducible] noncomputable def uc_p14 : Code := sA uc_p12

@[reducible] noncomputable def uc_q7 (nx115 : Bool → HP) (Q : QT) (E : ET) : Exit → Tau → Heap → Prop := (xblock 1 (uc_q6 nx115 Q E))

@[reducible] noncomputable def uc_p15 : Code := sI uc_p14

@[reducible] noncomputable def uc_p16 : Code := sB uc_p15

@[reducible] noncomputable def uc_p17 : Code := sB uc_p16

@[reducible] noncomputable def uc_p18 : Code := sB uc_p17

@[reducible] noncomputable def uc_p19 : Code := sB uc_p18

@[reducible] noncomputable def uc_p20 : Code := sB uc_p19

@[reducible] noncomputable def uc_q8 (nx115 : Bool → HP) (Q : QT) (E : ET) : Exit → Tau → Heap → Prop := (xblock 2 (uc_q7 nx115 Q E))

@[reducible] noncomputable def uc_p21 : Code := sI uc_p20

@[reducible] noncomputable def uc_q9 (nx115 : Bool → HP) (nx239 : Int → HP) (Q : QT) (E : ET) : Exit → Tau → Heap → Prop := (xthen (fun τ H => mI .i64 (τ 104) fun x104' => nx239 x104' H) (uc_q8 nx115 Q E))

@[reducible] noncomputable def uc_p22 : Code := sI uc_p21

@[reducible] noncomputable def uc_p23 : Code := sB uc_p22

@[reducible] noncomputable def uc_p24 : Code := sB uc_p23

def uc_8 (nx115 : Bool → HP) (nx239 : Int → HP) (Q : QT) (E : ET) (x0 : OA) (x2 : OA) (x3 : OA) (x6 : Bool) (x11 : OA) (x104 : Int) (H : Heap) : Prop :=
 ptr x3 fun q240 =>
 (0 ≤ (x104 : Int) ∧ (x104 : Int) < ((4 : Nat) : Int)) ∧ ldI .u64 (Addr.add q240 ((x104 : Int).toNat * 1)) H fun n241 =>
 ptr x11 fun q242 =>
 (0 ≤ (x104 : Int) ∧ (x104 : Int) < ((4 : Nat) : Int)) ∧ ldI .u64 (Addr.add q242 ((x104 : Int).toNat * 1)) H fun n243 =>
 ptr x3 fun q244 =>
 (0 ≤ (x104 : Int) ∧ (x104 : Int) < ((4 : Nat) : Int)) ∧ wr (Addr.add q244 ((x104 : Int).toNat * 1)) [(.int .u64 (IntKind.wrap .u64 (BitVec.ofInt (IntKind.bits .u64) n241 ||| BitVec.ofInt (IntKind.bits .u64) n243).toNat))] H fun H245 =>
 nx239 (IntKind.wrap .i64 (x104 + 1)) H245

def uc_8_M (nx115 : Bool → HP) (nx239 : Int → HP) (Q : QT) (E : ET) (τ : Tau) (H : Heap) : Prop := mP (τ 0) fun x0 => mP (τ 2) fun x2 => mP (τ 3) fun x3 => mB (τ 6) fun x6 => mP (τ 11) fun x11 => mI .i64 (τ 104) fun x104 => uc_8 nx115 nx239 Q E x0 x2 x3 x6 x11 x104 H

theorem uc_9ok (nx115 : Bool → HP) (nx239 : Int → HP) (Q : QT) (E : ET) (τ : Tau) (H : Heap) (h : uc_8_M nx115 nx239 Q E τ H) : vc Pr uc_p24 τ (uc_q9 nx115 nx239 Q E) E H :=
  vP (i := 0) h (fun x0 h => vP (i := 2) h (fun x2 h => vP (i := 3) h (fun x3 h => vB (i := 6) h (fun x6 h => vP (i := 11) h (fun x11 h => vI (i := 104) h (fun x104 h => (conv (by kernel_rfl) h)))))))

@[reducible] noncomputable def uc_q10 (nx115 : Bool → HP) (nx239 : Int → HP) (Q : QT) (E : ET) : Exit → Tau → Heap → Prop := (xthen (uc_8_M nx115 nx239 Q E) (uc_q9 nx115 nx239 Q E))

@[reducible] noncomputable def uc_p25 : Code := sA uc_p23

def uc_10 (nx115 : Bool → HP) (nx239 : Int → HP) (Q : QT) (E : ET) (x0 : OA) (x2 : OA) (x3 : OA) (x6 : Bool) (x11 : OA) (x104 : Int) (x105 : Bool) (H : Heap) : Prop :=
 sel x105
 (uc_8 nx115 nx239 Q E x0 x2 x3 x6 x11 x104 H)
 (uc_6 nx115 Q E x0 x2 x3 x6 H)

def uc_10_M (nx115 : Bool → HP) (nx239 : Int → HP) (Q : QT) (E : ET) (τ : Tau) (H : Heap) : Prop := mP (τ 0) fun x0 => mP (τ 2) fun x2 => mP (τ 3) fun x3 => mB (τ 6) fun x6 => mP (τ 11) fun x11 => mI .i64 (τ 104) fun x104 => mB (τ 105) fun x105 => uc_10 nx115 nx239 Q E x0 x2 x3 x6 x11 x104 x105 H

theorem uc_11ok (nx115 : Bool → HP) (nx239 : Int → HP) (Q : QT) (E : ET) (τ : Tau) (H : Heap) (h : uc_10_M nx115 nx239 Q E τ H) : vc Pr uc_p25 τ (uc_q10 nx115 nx239 Q E) E H :=
  vP (i := 0) h (fun x0 h => vP (i := 2) h (fun x2 h => vP (i := 3) h (fun x3 h => vB (i := 6) h (fun x6 h => vP (i := 11) h (fun x11 h => vI (i := 104) h (fun x104 h => vB (i := 105) h (fun x105 h => (conv (by kernel_rfl) h))))))))

theorem uc_12ok (nx115 : Bool → HP) (nx239 : Int → HP) (Q : QT) (E : ET) (τ : Tau) (H : Heap) (h : uc_10_M nx115 nx239 Q E τ H) : vc Pr uc_p23 τ (uc_q9 nx115 nx239 Q E) E H :=
  (conv (B := vc Pr uc_p23 τ (uc_q9 nx115 nx239 Q E) E H) (by kernel_rfl) (vc_seq (K := (uc_8_M nx115 nx239 Q E)) (uc_11ok nx115 nx239 Q E τ H h) (uc_9ok nx115 nx239 Q E)))

@[reducible] noncomputable def uc_q11 (nx115 : Bool → HP) (nx239 : Int → HP) (Q : QT) (E : ET) : Exit → Tau → Heap → Prop := (xthen (uc_10_M nx115 nx239 Q E) (uc_q9 nx115 nx239 Q E))

@[reducible] noncomputable def uc_p26 : Code := sA uc_p22

def uc_13 (nx115 : Bool → HP) (nx239 : Int → HP) (Q : QT) (E : ET) (x0 : OA) (x2 : OA) (x3 : OA) (x6 : Bool) (x11 : OA) (x104 : Int) (H : Heap) : Prop :=
 uc_10 nx115 nx239 Q E x0 x2 x3 x6 x11 x104 (decide ((x104 : Int) < 4)) H

def uc_13_M (nx115 : Bool → HP) (nx239 : Int → HP) (Q : QT) (E : ET) (τ : Tau) (H : Heap) : Prop := mP (τ 0) fun x0 => mP (τ 2) fun x2 => mP (τ 3) fun x3 => mB (τ 6) fun x6 => mP (τ 11) fun x11 => mI .i64 (τ 104) fun x104 => uc_13 nx115 nx239 Q E x0 x2 x3 x6 x11 x104 H

theorem uc_14ok (nx115 : Bool → HP) (nx239 : Int → HP) (Q : QT) (E : ET) (τ : Tau) (H : Heap) (h : uc_13_M nx115 nx239 Q E τ H) : vc Pr uc_p26 τ (uc_q11 nx115 nx239 Q E) E H :=
  vP (i := 0) h (fun x0 h => vP (i := 2) h (fun x2 h => vP (i := 3) h (fun x3 h => vB (i := 6) h (fun x6 h => vP (i := 11) h (fun x11 h => vI (i := 104) h (fun x104 h => (conv (by kernel_rfl) h)))))))

theorem uc_15ok (nx115 : Bool → HP) (nx239 : Int → HP) (Q : QT) (E : ET) (τ : Tau) (H : Heap) (h : uc_13_M nx115 nx239 Q E τ H) : vc Pr uc_p22 τ (uc_q9 nx115 nx239 Q E) E H :=
  (conv (B := vc Pr uc_p22 τ (uc_q9 nx115 nx239 Q E) E H) (by kernel_rfl) (vc_seq (K := (uc_10_M nx115 nx239 Q E)) (uc_14ok nx115 nx239 Q E τ H h) (uc_12ok nx115 nx239 Q E)))

def uc_16 (nx115 : Bool → HP) (Q : QT) (E : ET) (x0 : OA) (x2 : OA) (x3 : OA) (x6 : Bool) (x11 : OA) (x104 : Int) (H : Heap) : Prop :=
 ∃ (I : Int → HP) (μ : Int → Heap → Nat), I x104 H ∧ ∀ (x104 : Int) (H : Heap), I x104 H →
 uc_13 nx115 (fun x104' H1 => I x104' H1 ∧ μ x104' H1 < μ x104 H) Q E x0 x2 x3 x6 x11 x104 H

def uc_16_M (nx115 : Bool → HP) (Q : QT) (E : ET) (τ : Tau) (H : Heap) : Prop := mP (τ 0) fun x0 => mP (τ 2) fun x2 => mP (τ 3) fun x3 => mB (τ 6) fun x6 => mP (τ 11) fun x11 => mI .i64 (τ 104) fun x104 => uc_16 nx115 Q E x0 x2 x3 x6 x11 x104 H

theorem uc_17ok (nx115 : Bool → HP) (Q : QT) (E : ET) (τ : Tau) (H : Heap) (h : uc_16_M nx115 Q E τ H) : vc Pr uc_p21 τ (uc_q8 nx115 Q E) E H :=
  vP (i := 0) h (fun x0 h => vP (i := 2) h (fun x2 h => vP (i := 3) h (fun x3 h => vB (i := 6) h (fun x6 h => vP (i := 11) h (fun x11 h => vI (i := 104) h (fun x104 h => match h with | ⟨I, μ, h0, hr⟩ => (conv (B := vc Pr uc_p21 (Tau.upd (Tau.upd (Tau.upd (Tau.upd (Tau.upd (Tau.upd τ 0 (.pointer x0)) 2 (.pointer x2)) 3 (.pointer x3)) 6 (.bool x6)) 11 (.pointer x11)) 104 (.int .i64 x104)) (uc_q8 nx115 Q E) E H) (by kernel_rfl) (vc_loop (c := sI uc_p21) (τ := (Tau.upd (Tau.upd (Tau.upd (Tau.upd (Tau.upd (Tau.upd τ 0 (.pointer x0)) 2 (.pointer x2)) 3 (.pointer x3)) 6 (.bool x6)) 11 (.pointer x11)) 104 (.int .i64 x104))) [0, 2, 3, 6, 11] (fun τ H => mI .i64 (τ 104) fun x104' => I x104' H) (fun τ H => μ (gI (τ 104)) H) (by kernel_rfl) h0 (fun τ1 H1 hf hI => fix_elim (τ := τ1) (i := 0) (v := (.pointer x0)) (G := fun τ => vc Pr (sI uc_p21) τ (xthen (fun τ2 H2 => (mI .i64 (τ2 104) fun x104' => I x104' H2) ∧ μ (gI (τ2 104)) H2 < μ (gI (τ 104)) H1) (uc_q8 nx115 Q E)) E H1) (hf 0 (by simp)) (fix_elim (τ := (Tau.upd τ1 0 (.pointer x0))) (i := 2) (v := (.pointer x2)) (G := fun τ => vc Pr (sI uc_p21) τ (xthen (fun τ2 H2 => (mI .i64 (τ2 104) fun x104' => I x104' H2) ∧ μ (gI (τ2 104)) H2 < μ (gI (τ 104)) H1) (uc_q8 nx115 Q E)) E H1) (hf 2 (by simp)) (fix_elim (τ := (Tau.upd (Tau.upd τ1 0 (.pointer x0)) 2 (.pointer x2))) (i := 3) (v := (.pointer x3)) (G := fun τ => vc Pr (sI uc_p21) τ (xthen (fun τ2 H2 => (mI .i64 (τ2 104) fun x104' => I x104' H2) ∧ μ (gI (τ2 104)) H2 < μ (gI (τ 104)) H1) (uc_q8 nx115 Q E)) E H1) (hf 3 (by simp)) (fix_elim (τ := (Tau.upd (Tau.upd (Tau.upd τ1 0 (.pointer x0)) 2 (.pointer x2)) 3 (.pointer x3))) (i := 6) (v := (.bool x6)) (G := fun τ => vc Pr (sI uc_p21) τ (xthen (fun τ2 H2 => (mI .i64 (τ2 104) fun x104' => I x104' H2) ∧ μ (gI (τ2 104)) H2 < μ (gI (τ 104)) H1) (uc_q8 nx115 Q E)) E H1) (hf 6 (by simp)) (fix_elim (τ := (Tau.upd (Tau.upd (Tau.upd (Tau.upd τ1 0 (.pointer x0)) 2 (.pointer x2)) 3 (.pointer x3)) 6 (.bool x6))) (i := 11) (v := (.pointer x11)) (G := fun τ => vc Pr (sI uc_p21) τ (xthen (fun τ2 H2 => (mI .i64 (τ2 104) fun x104' => I x104' H2) ∧ μ (gI (τ2 104)) H2 < μ (gI (τ 104)) H1) (uc_q8 nx115 Q E)) E H1) (hf 11 (by simp)) (mI_elim (i := 104) (G := fun τ => vc Pr (sI uc_p21) τ (xthen (fun τ2 H2 => (mI .i64 (τ2 104) fun x104' => I x104' H2) ∧ μ (gI (τ2 104)) H2 < μ (gI (τ 104)) H1) (uc_q8 nx115 Q E)) E H1) hI (fun x104r h => (conv (B := vc Pr (sI uc_p21) (Tau.upd (Tau.upd (Tau.upd (Tau.upd (Tau.upd (Tau.upd τ1 0 (.pointer x0)) 2 (.pointer x2)) 3 (.pointer x3)) 6 (.bool x6)) 11 (.pointer x11)) 104 (.int .i64 x104r)) (xthen (fun τ2 H2 => (mI .i64 (τ2 104) fun x104' => I x104' H2) ∧ μ (gI (τ2 104)) H2 < μ (gI ((Tau.upd (Tau.upd (Tau.upd (Tau.upd (Tau.upd (Tau.upd τ1 0 (.pointer x0)) 2 (.pointer x2)) 3 (.pointer x3)) 6 (.bool x6)) 11 (.pointer x11)) 104 (.int .i64 x104r)) 104)) H1) (uc_q8 nx115 Q E)) E H1) (by kernel_rfl) (vc_xthen (uc_15ok nx115 (fun x104' H2 => I x104' H2 ∧ μ x104' H2 < μ x104r H1) Q E (Tau.upd (Tau.upd (Tau.upd (Tau.upd (Tau.upd (Tau.upd τ1 0 (.pointer x0)) 2 (.pointer x2)) 3 (.pointer x3)) 6 (.bool x6)) 11 (.pointer x11)) 104 (.int .i64 x104r)) H1 (conv (B := uc_13_M nx115 (fun x104' H2 => I x104' H2 ∧ μ x104' H2 < μ x104r H1) Q E (Tau.upd (Tau.upd (Tau.upd (Tau.upd (Tau.upd (Tau.upd τ1 0 (.pointer x0)) 2 (.pointer x2)) 3 (.pointer x3)) 6 (.bool x6)) 11 (.pointer x11)) 104 (.int .i64 x104r)) H1) (by kernel_rfl) (hr x104r H1 h))) (fun τ2 H2 hk => mI_elim (i := 104) (G := fun τ => (mI .i64 (τ 104) fun x104' => I x104' H2) ∧ μ (gI (τ 104)) H2 < μ x104r H1) hk (fun x104' h => h)))))))))))))))))))

theorem uc_18ok (nx115 : Bool → HP) (Q : QT) (E : ET) (τ : Tau) (H : Heap) (h : uc_16_M nx115 Q E τ H) : vc Pr uc_p20 τ (uc_q7 nx115 Q E) E H :=
  (conv (B := vc Pr uc_p20 τ (uc_q7 nx115 Q E) E H) (by kernel_rfl) (uc_17ok nx115 Q E τ H h))

@[reducible] noncomputable def uc_q12 (nx115 : Bool → HP) (Q : QT) (E : ET) : Exit → Tau → Heap → Prop := (xthen (uc_16_M nx115 Q E) (uc_q7 nx115 Q E))

@[reducible] noncomputable def uc_p27 : Code := sA uc_p19

def uc_19 (nx115 : Bool → HP) (Q : QT) (E : ET) (x0 : OA) (x2 : OA) (x3 : OA) (x6 : Bool) (x11 : OA) (H : Heap) : Prop :=
 uc_16 nx115 Q E x0 x2 x3 x6 x11 0 H

def uc_19_M (nx115 : Bool → HP) (Q : QT) (E : ET) (τ : Tau) (H : Heap) : Prop := mP (τ 0) fun x0 => mP (τ 2) fun x2 => mP (τ 3) fun x3 => mB (τ 6) fun x6 => mP (τ 11) fun x11 => uc_19 nx115 Q E x0 x2 x3 x6 x11 H

theorem uc_20ok (nx115 : Bool → HP) (Q : QT) (E : ET) (τ : Tau) (H : Heap) (h : uc_19_M nx115 Q E τ H) : vc Pr uc_p27 τ (uc_q12 nx115 Q E) E H :=
  vP (i := 0) h (fun x0 h => vP (i := 2) h (fun x2 h => vP (i := 3) h (fun x3 h => vB (i := 6) h (fun x6 h => vP (i := 11) h (fun x11 h => (conv (by kernel_rfl) h))))))

theorem uc_21ok (nx115 : Bool → HP) (Q : QT) (E : ET) (τ : Tau) (H : Heap) (h : uc_19_M nx115 Q E τ H) : vc Pr uc_p19 τ (uc_q7 nx115 Q E) E H :=
  (conv (B := vc Pr uc_p19 τ (uc_q7 nx115 Q E) E H) (by kernel_rfl) (vc_seq (K := (uc_16_M nx115 Q E)) (uc_20ok nx115 Q E τ H h) (uc_18ok nx115 Q E)))

@[reducible] noncomputable def uc_q13 (nx115 : Bool → HP) (Q : QT) (E : ET) : Exit → Tau → Heap → Prop := (xthen (uc_19_M nx115 Q E) (uc_q7 nx115 Q E))

@[reducible] noncomputable def uc_p28 : Code := sA uc_p18

def uc_22 (nx115 : Bool → HP) (Q : QT) (E : ET) (x0 : OA) (x2 : OA) (x3 : OA) (x6 : Bool) (x11 : OA) (H : Heap) : Prop :=
 ptr x0 fun q246 =>
 ldI .i64 (Addr.add q246 4) H fun n247 =>
 sel ((n247 : Int) != 0)
 (ptr x2 fun q249 =>
 wr q249 [(.int .u64 0), (.int .u64 0), (.int .u64 0), (.int .u64 0)] H fun H248 =>
 ptr x2 fun q250 =>
 ∃ n251 n252 n253 n254 : Int, Heap.rd H248 q250 0 [(.int .u64 n251), (.int .u64 n252), (.int .u64 n253), (.int .u64 n254)] ∧ Q (.agg #[(.int .u64 n251), (.int .u64 n252), (.int .u64 n253), (.int .u64 n254)]) H248)
 (uc_19 nx115 Q E x0 x2 x3 x6 x11 H)

def uc_22_M (nx115 : Bool → HP) (Q : QT) (E : ET) (τ : Tau) (H : Heap) : Prop := mP (τ 0) fun x0 => mP (τ 2) fun x2 => mP (τ 3) fun x3 => mB (τ 6) fun x6 => mP (τ 11) fun x11 => uc_22 nx115 Q E x0 x2 x3 x6 x11 H

theorem uc_23ok (nx115 : Bool → HP) (Q : QT) (E : ET) (τ : Tau) (H : Heap) (h : uc_22_M nx115 Q E τ H) : vc Pr uc_p28 τ (uc_q13 nx115 Q E) E H :=
  vP (i := 0) h (fun x0 h => vP (i := 2) h (fun x2 h => vP (i := 3) h (fun x3 h => vB (i := 6) h (fun x6 h => vP (i := 11) h (fun x11 h => (conv (by kernel_rfl) h))))))

theorem uc_24ok (nx115 : Bool → HP) (Q : QT) (E : ET) (τ : Tau) (H : Heap) (h : uc_22_M nx115 Q E τ H) : vc Pr uc_p18 τ (uc_q7 nx115 Q E) E H :=
  (conv (B := vc Pr uc_p18 τ (uc_q7 nx115 Q E) E H) (by kernel_rfl) (vc_seq (K := (uc_19_M nx115 Q E)) (uc_23ok nx115 Q E τ H h) (uc_21ok nx115 Q E)))

@[reducible] noncomputable def uc_q14 (nx115 : Bool → HP) (Q : QT) (E : ET) : Exit → Tau → Heap → Prop := (xthen (uc_22_M nx115 Q E) (uc_q7 nx115 Q E))

@[reducible] noncomputable def uc_p29 : Code := sA uc_p17

@[reducible] noncomputable def uc_p30 : Code := sB uc_p29

@[reducible] noncomputable def uc_p31 : Code := sB uc_p30

@[reducible] noncomputable def uc_p32 : Code := sT uc_p31

@[reducible] noncomputable def uc_p33 : Code := sB uc_p32

@[reducible] noncomputable def uc_p34 : Code := sB uc_p33

@[reducible] noncomputable def uc_p35 : Code := sB uc_p34

def uc_25 (nx115 : Bool → HP) (Q : QT) (E : ET) (x0 : OA) (x2 : OA) (x3 : OA) (x6 : Bool) (x10 : Int) (x11 : OA) (x15 : Int) (H : Heap) : Prop :=
 ptr x11 fun q280 =>
 ∃ n281 n282 n283 n284 : Int, Heap.rd H q280 0 [(.int .u64 n281), (.int .u64 n282), (.int .u64 n283), (.int .u64 n284)] ∧ Does Pr 115 #[(.agg #[(.int .u64 n281), (.int .u64 n282), (.int .u64 n283), (.int .u64 n284)]), (.int .u8 x10), (.int .u8 x15)] H (fun v285 H286 =>
 ∃ n287 n288 n289 n290 : Int, v285 = (.agg #[(.int .u64 n287), (.int .u64 n288), (.int .u64 n289), (.int .u64 n290)]) ∧ ptr x11 fun q292 =>
 wr q292 [(.int .u64 n287), (.int .u64 n288), (.int .u64 n289), (.int .u64 n290)] H286 fun H291 =>
 uc_22 nx115 Q E x0 x2 x3 x6 x11 H291) E

def uc_25_M (nx115 : Bool → HP) (Q : QT) (E : ET) (τ : Tau) (H : Heap) : Prop := mP (τ 0) fun x0 => mP (τ 2) fun x2 => mP (τ 3) fun x3 => mB (τ 6) fun x6 => mI .u8 (τ 10) fun x10 => mP (τ 11) fun x11 => mI .u8 (τ 15) fun x15 => uc_25 nx115 Q E x0 x2 x3 x6 x10 x11 x15 H

theorem uc_26ok (nx115 : Bool → HP) (Q : QT) (E : ET) (τ : Tau) (H : Heap) (h : uc_25_M nx115 Q E τ H) : vc Pr uc_p35 τ (uc_q14 nx115 Q E) E H :=
  vP (i := 0) h (fun x0 h => vP (i := 2) h (fun x2 h => vP (i := 3) h (fun x3 h => vB (i := 6) h (fun x6 h => vI (i := 10) h (fun x10 h => vP (i := 11) h (fun x11 h => vI (i := 15) h (fun x15 h => (conv (by kernel_rfl) h))))))))

@[reducible] noncomputable def uc_q15 (nx115 : Bool → HP) (Q : QT) (E : ET) : Exit → Tau → Heap → Prop := (xthen (uc_25_M nx115 Q E) (uc_q14 nx115 Q E))

@[reducible] noncomputable def uc_p36 : Code := sA uc_p34

@[reducible] noncomputable def uc_p37 : Code := sB uc_p36

def uc_27 (nx115 : Bool → HP) (Q : QT) (E : ET) (x0 : OA) (x2 : OA) (x3 : OA) (x6 : Bool) (x10 : Int) (x11 : OA) (x15 : Int) (x91 : Bool) (H : Heap) : Prop :=
 sel x91
 (Does Pr 103 #[(.pointer x0), (.int .i64 80)] H (fun v293 H294 =>
 ∃ n295 : Int, v293 = (.int .i64 n295) ∧ uc_25 nx115 Q E x0 x2 x3 x6 x10 x11 x15 H294) E)
 (uc_25 nx115 Q E x0 x2 x3 x6 x10 x11 x15 H)

def uc_27_M (nx115 : Bool → HP) (Q : QT) (E : ET) (τ : Tau) (H : Heap) : Prop := mP (τ 0) fun x0 => mP (τ 2) fun x2 => mP (τ 3) fun x3 => mB (τ 6) fun x6 => mI .u8 (τ 10) fun x10 => mP (τ 11) fun x11 => mI .u8 (τ 15) fun x15 => mB (τ 91) fun x91 => uc_27 nx115 Q E x0 x2 x3 x6 x10 x11 x15 x91 H

theorem uc_28ok (nx115 : Bool → HP) (Q : QT) (E : ET) (τ : Tau) (H : Heap) (h : uc_27_M nx115 Q E τ H) : vc Pr uc_p37 τ (uc_q15 nx115 Q E) E H :=
  vP (i := 0) h (fun x0 h => vP (i := 2) h (fun x2 h => vP (i := 3) h (fun x3 h => vB (i := 6) h (fun x6 h => vI (i := 10) h (fun x10 h => vP (i := 11) h (fun x11 h => vI (i := 15) h (fun x15 h => vB (i := 91) h (fun x91 h => (conv (by kernel_rfl) h)))))))))

@[reducible] noncomputable def uc_q16 (nx115 : Bool → HP) (Q : QT) (E : ET) : Exit → Tau → Heap → Prop := (xthen (uc_27_M nx115 Q E) (uc_q15 nx115 Q E))

@[reducible] noncomputable def uc_p38 : Code := sA uc_p36

def uc_29 (nx115 : Bool → HP) (Q : QT) (E : ET) (x0 : OA) (x2 : OA) (x3 : OA) (x6 : Bool) (x10 : Int) (x11 : OA) (x15 : Int) (x17 : Bool) (H : Heap) : Prop :=
 sel x17
 (uc_27 nx115 Q E x0 x2 x3 x6 x10 x11 x15 true H)
 (uc_27 nx115 Q E x0 x2 x3 x6 x10 x11 x15 (decide ((x15 : Int) < x10)) H)

def uc_29_M (nx115 : Bool → HP) (Q : QT) (E : ET) (τ : Tau) (H : Heap) : Prop := mP (τ 0) fun x0 => mP (τ 2) fun x2 => mP (τ 3) fun x3 => mB (τ 6) fun x6 => mI .u8 (τ 10) fun x10 => mP (τ 11) fun x11 => mI .u8 (τ 15) fun x15 => mB (τ 17) fun x17 => uc_29 nx115 Q E x0 x2 x3 x6 x10 x11 x15 x17 H

theorem uc_30ok (nx115 : Bool → HP) (Q : QT) (E : ET) (τ : Tau) (H : Heap) (h : uc_29_M nx115 Q E τ H) : vc Pr uc_p38 τ (uc_q16 nx115 Q E) E H :=
  vP (i := 0) h (fun x0 h => vP (i := 2) h (fun x2 h => vP (i := 3) h (fun x3 h => vB (i := 6) h (fun x6 h => vI (i := 10) h (fun x10 h => vP (i := 11) h (fun x11 h => vI (i := 15) h (fun x15 h => vB (i := 17) h (fun x17 h => (conv (by kernel_rfl) h)))))))))

theorem uc_31ok (nx115 : Bool → HP) (Q : QT) (E : ET) (τ : Tau) (H : Heap) (h : uc_29_M nx115 Q E τ H) : vc Pr uc_p36 τ (uc_q15 nx115 Q E) E H :=
  (conv (B := vc Pr uc_p36 τ (uc_q15 nx115 Q E) E H) (by kernel_rfl) (vc_seq (K := (uc_27_M nx115 Q E)) (uc_30ok nx115 Q E τ H h) (uc_28ok nx115 Q E)))

theorem uc_32ok (nx115 : Bool → HP) (Q : QT) (E : ET) (τ : Tau) (H : Heap) (h : uc_29_M nx115 Q E τ H) : vc Pr uc_p34 τ (uc_q14 nx115 Q E) E H :=
  (conv (B := vc Pr uc_p34 τ (uc_q14 nx115 Q E) E H) (by kernel_rfl) (vc_seq (K := (uc_25_M nx115 Q E)) (uc_31ok nx115 Q E τ H h) (uc_26ok nx115 Q E)))

@[reducible] noncomputable def uc_q17 (nx115 : Bool → HP) (Q : QT) (E : ET) : Exit → Tau → Heap → Prop := (xthen (uc_29_M nx115 Q E) (uc_q14 nx115 Q E))

@[reducible] noncomputable def uc_p39 : Code := sA uc_p33

def uc_33 (nx115 : Bool → HP) (Q : QT) (E : ET) (x0 : OA) (x2 : OA) (x3 : OA) (x6 : Bool) (x10 : Int) (x11 : OA) (H : Heap) : Prop :=
 Does Pr 119 #[(.pointer x0)] H (fun v296 H297 =>
 ∃ n298 n299 n300 n301 n302 : Int, ∃ b303 : Bool, v296 = (.tuple #[(.int .u8 n298), (.agg #[(.int .u64 n299), (.int .u64 n300), (.int .u64 n301), (.int .u64 n302)]), (.bool b303)]) ∧ nw (.cells #[(.int .u64 0), (.int .u64 0), (.int .u64 0), (.int .u64 0)] 46 (0, 0)) H297 fun i304 H305 =>
 wr ⟨i304, 0, none⟩ [(.int .u64 n299), (.int .u64 n300), (.int .u64 n301), (.int .u64 n302)] H305 fun H306 =>
 uc_29 nx115 Q E x0 x2 x3 x6 x10 x11 n298 b303 H306) E

def uc_33_M (nx115 : Bool → HP) (Q : QT) (E : ET) (τ : Tau) (H : Heap) : Prop := mP (τ 0) fun x0 => mP (τ 2) fun x2 => mP (τ 3) fun x3 => mB (τ 6) fun x6 => mI .u8 (τ 10) fun x10 => mP (τ 11) fun x11 => uc_33 nx115 Q E x0 x2 x3 x6 x10 x11 H

theorem uc_34ok (nx115 : Bool → HP) (Q : QT) (E : ET) (τ : Tau) (H : Heap) (h : uc_33_M nx115 Q E τ H) : vc Pr uc_p39 τ (uc_q17 nx115 Q E) E H :=
  vP (i := 0) h (fun x0 h => vP (i := 2) h (fun x2 h => vP (i := 3) h (fun x3 h => vB (i := 6) h (fun x6 h => vI (i := 10) h (fun x10 h => vP (i := 11) h (fun x11 h => (conv (by kernel_rfl) h)))))))

theorem uc_35ok (nx115 : Bool → HP) (Q : QT) (E : ET) (τ : Tau) (H : Heap) (h : uc_33_M nx115 Q E τ H) : vc Pr uc_p33 τ (uc_q14 nx115 Q E) E H :=
  (conv (B := vc Pr uc_p33 τ (uc_q14 nx115 Q E) E H) (by kernel_rfl) (vc_seq (K := (uc_29_M nx115 Q E)) (uc_34ok nx115 Q E τ H h) (uc_32ok nx115 Q E)))

@[reducible] noncomputable def uc_q18 (nx115 : Bool → HP) (Q : QT) (E : ET) : Exit → Tau → Heap → Prop := (xthen (uc_33_M nx115 Q E) (uc_q14 nx115 Q E))

@[reducible] noncomputable def uc_p40 : Code := sA uc_p32

def uc_36 (nx115 : Bool → HP) (Q : QT) (E : ET) (x0 : OA) (x2 : OA) (x3 : OA) (x6 : Bool) (x10 : Int) (x11 : OA) (x12 : Bool) (H : Heap) : Prop :=
 ptr x0 fun q307 =>
 ldI .i64 (Addr.add q307 1) H fun n308 =>
 ptr x0 fun q309 =>
 wr (Addr.add q309 1) [(.int .i64 (IntKind.wrap .i64 (n308 + 1)))] H fun H310 =>
 sel x12
 (Does Pr 103 #[(.pointer x0), (.int .i64 80)] H310 (fun v311 H312 =>
 ∃ n313 : Int, v311 = (.int .i64 n313) ∧ uc_33 nx115 Q E x0 x2 x3 x6 x10 x11 H312) E)
 (uc_33 nx115 Q E x0 x2 x3 x6 x10 x11 H310)

def uc_36_M (nx115 : Bool → HP) (Q : QT) (E : ET) (τ : Tau) (H : Heap) : Prop := mP (τ 0) fun x0 => mP (τ 2) fun x2 => mP (τ 3) fun x3 => mB (τ 6) fun x6 => mI .u8 (τ 10) fun x10 => mP (τ 11) fun x11 => mB (τ 12) fun x12 => uc_36 nx115 Q E x0 x2 x3 x6 x10 x11 x12 H

theorem uc_37ok (nx115 : Bool → HP) (Q : QT) (E : ET) (τ : Tau) (H : Heap) (h : uc_36_M nx115 Q E τ H) : vc Pr uc_p40 τ (uc_q18 nx115 Q E) E H :=
  vP (i := 0) h (fun x0 h => vP (i := 2) h (fun x2 h => vP (i := 3) h (fun x3 h => vB (i := 6) h (fun x6 h => vI (i := 10) h (fun x10 h => vP (i := 11) h (fun x11 h => vB (i := 12) h (fun x12 h => (conv (by kernel_rfl) h))))))))

theorem uc_38ok (nx115 : Bool → HP) (Q : QT) (E : ET) (τ : Tau) (H : Heap) (h : uc_36_M nx115 Q E τ H) : vc Pr uc_p32 τ (uc_q14 nx115 Q E) E H :=
  (conv (B := vc Pr uc_p32 τ (uc_q14 nx115 Q E) E H) (by kernel_rfl) (vc_seq (K := (uc_33_M nx115 Q E)) (uc_37ok nx115 Q E τ H h) (uc_35ok nx115 Q E)))

@[reducible] noncomputable def uc_p41 : Code := sE uc_p31

def uc_39 (nx115 : Bool → HP) (Q : QT) (E : ET) (x0 : OA) (x2 : OA) (x3 : OA) (x6 : Bool) (x11 : OA) (H : Heap) : Prop :=
 uc_22 nx115 Q E x0 x2 x3 x6 x11 H

def uc_39_M (nx115 : Bool → HP) (Q : QT) (E : ET) (τ : Tau) (H : Heap) : Prop := mP (τ 0) fun x0 => mP (τ 2) fun x2 => mP (τ 3) fun x3 => mB (τ 6) fun x6 => mP (τ 11) fun x11 => uc_39 nx115 Q E x0 x2 x3 x6 x11 H

theorem uc_40ok (nx115 : Bool → HP) (Q : QT) (E : ET) (τ : Tau) (H : Heap) (h : uc_39_M nx115 Q E τ H) : vc Pr uc_p41 τ (uc_q14 nx115 Q E) E H :=
  vP (i := 0) h (fun x0 h => vP (i := 2) h (fun x2 h => vP (i := 3) h (fun x3 h => vB (i := 6) h (fun x6 h => vP (i := 11) h (fun x11 h => (conv (by kernel_rfl) h))))))

def uc_41 (nx115 : Bool → HP) (Q : QT) (E : ET) (x0 : OA) (x2 : OA) (x3 : OA) (x6 : Bool) (x10 : Int) (x11 : OA) (x12 : Bool) (x69 : Bool) (H : Heap) : Prop :=
 sel x69
 (uc_36 nx115 Q E x0 x2 x3 x6 x10 x11 x12 H)
 (uc_39 nx115 Q E x0 x2 x3 x6 x11 H)

def uc_41_M (nx115 : Bool → HP) (Q : QT) (E : ET) (τ : Tau) (H : Heap) : Prop := mP (τ 0) fun x0 => mP (τ 2) fun x2 => mP (τ 3) fun x3 => mB (τ 6) fun x6 => mI .u8 (τ 10) fun x10 => mP (τ 11) fun x11 => mB (τ 12) fun x12 => mB (τ 69) fun x69 => uc_41 nx115 Q E x0 x2 x3 x6 x10 x11 x12 x69 H

theorem uc_42ok (nx115 : Bool → HP) (Q : QT) (E : ET) (τ : Tau) (H : Heap) (h : uc_41_M nx115 Q E τ H) : vc Pr uc_p31 τ (uc_q14 nx115 Q E) E H :=
  vP (i := 0) h (fun x0 h => vP (i := 2) h (fun x2 h => vP (i := 3) h (fun x3 h => vB (i := 6) h (fun x6 h => vI (i := 10) h (fun x10 h => vP (i := 11) h (fun x11 h => vB (i := 12) h (fun x12 h => vB (i := 69) h (fun x69 h => (conv (B := vc Pr uc_p31 (Tau.upd (Tau.upd (Tau.upd (Tau.upd (Tau.upd (Tau.upd (Tau.upd (Tau.upd τ 0 (.pointer x0)) 2 (.pointer x2)) 3 (.pointer x3)) 6 (.bool x6)) 10 (.int .u8 x10)) 11 (.pointer x11)) 12 (.bool x12)) 69 (.bool x69)) (uc_q14 nx115 Q E) E H) (by kernel_rfl) (sel_map (uc_38ok nx115 Q E (Tau.upd (Tau.upd (Tau.upd (Tau.upd (Tau.upd (Tau.upd (Tau.upd (Tau.upd τ 0 (.pointer x0)) 2 (.pointer x2)) 3 (.pointer x3)) 6 (.bool x6)) 10 (.int .u8 x10)) 11 (.pointer x11)) 12 (.bool x12)) 69 (.bool x69)) H) (uc_40ok nx115 Q E (Tau.upd (Tau.upd (Tau.upd (Tau.upd (Tau.upd (Tau.upd (Tau.upd (Tau.upd τ 0 (.pointer x0)) 2 (.pointer x2)) 3 (.pointer x3)) 6 (.bool x6)) 10 (.int .u8 x10)) 11 (.pointer x11)) 12 (.bool x12)) 69 (.bool x69)) H) (conv (B := sel x69 (uc_36_M nx115 Q E (Tau.upd (Tau.upd (Tau.upd (Tau.upd (Tau.upd (Tau.upd (Tau.upd (Tau.upd τ 0 (.pointer x0)) 2 (.pointer x2)) 3 (.pointer x3)) 6 (.bool x6)) 10 (.int .u8 x10)) 11 (.pointer x11)) 12 (.bool x12)) 69 (.bool x69)) H) (uc_39_M nx115 Q E (Tau.upd (Tau.upd (Tau.upd (Tau.upd (Tau.upd (Tau.upd (Tau.upd (Tau.upd τ 0 (.pointer x0)) 2 (.pointer x2)) 3 (.pointer x3)) 6 (.bool x6)) 10 (.int .u8 x10)) 11 (.pointer x11)) 12 (.bool x12)) 69 (.bool x69)) H)) (by kernel_rfl) h)))))))))))

@[reducible] noncomputable def uc_q19 (nx115 : Bool → HP) (Q : QT) (E : ET) : Exit → Tau → Heap → Prop := (xthen (uc_41_M nx115 Q E) (uc_q14 nx115 Q E))

@[reducible] noncomputable def uc_p42 : Code := sA uc_p30

def uc_43 (nx115 : Bool → HP) (Q : QT) (E : ET) (x0 : OA) (x2 : OA) (x3 : OA) (x6 : Bool) (x10 : Int) (x11 : OA) (x12 : Bool) (x13 : Int) (x14 : Bool) (H : Heap) : Prop :=
 sel x14
 (uc_41 nx115 Q E x0 x2 x3 x6 x10 x11 x12 ((x13 : Int) == 45) H)
 (uc_41 nx115 Q E x0 x2 x3 x6 x10 x11 x12 false H)

def uc_43_M (nx115 : Bool → HP) (Q : QT) (E : ET) (τ : Tau) (H : Heap) : Prop := mP (τ 0) fun x0 => mP (τ 2) fun x2 => mP (τ 3) fun x3 => mB (τ 6) fun x6 => mI .u8 (τ 10) fun x10 => mP (τ 11) fun x11 => mB (τ 12) fun x12 => mI .u8 (τ 13) fun x13 => mB (τ 14) fun x14 => uc_43 nx115 Q E x0 x2 x3 x6 x10 x11 x12 x13 x14 H

theorem uc_44ok (nx115 : Bool → HP) (Q : QT) (E : ET) (τ : Tau) (H : Heap) (h : uc_43_M nx115 Q E τ H) : vc Pr uc_p42 τ (uc_q19 nx115 Q E) E H :=
  vP (i := 0) h (fun x0 h => vP (i := 2) h (fun x2 h => vP (i := 3) h (fun x3 h => vB (i := 6) h (fun x6 h => vI (i := 10) h (fun x10 h => vP (i := 11) h (fun x11 h => vB (i := 12) h (fun x12 h => vI (i := 13) h (fun x13 h => vB (i := 14) h (fun x14 h => (conv (by kernel_rfl) h))))))))))

theorem uc_45ok (nx115 : Bool → HP) (Q : QT) (E : ET) (τ : Tau) (H : Heap) (h : uc_43_M nx115 Q E τ H) : vc Pr uc_p30 τ (uc_q14 nx115 Q E) E H :=
  (conv (B := vc Pr uc_p30 τ (uc_q14 nx115 Q E) E H) (by kernel_rfl) (vc_seq (K := (uc_41_M nx115 Q E)) (uc_44ok nx115 Q E τ H h) (uc_42ok nx115 Q E)))

@[reducible] noncomputable def uc_q20 (nx115 : Bool → HP) (Q : QT) (E : ET) : Exit → Tau → Heap → Prop := (xthen (uc_43_M nx115 Q E) (uc_q14 nx115 Q E))

@[reducible] noncomputable def uc_p43 : Code := sA uc_p29

def uc_46 (nx115 : Bool → HP) (Q : QT) (E : ET) (x0 : OA) (x2 : OA) (x3 : OA) (x6 : Bool) (x10 : Int) (x11 : OA) (x12 : Bool) (H : Heap) : Prop :=
 Does Pr 94 #[(.pointer x0)] H (fun v314 H315 =>
 ∃ n316 : Int, ∃ b317 : Bool, v314 = (.tuple #[(.int .u8 n316), (.bool b317)]) ∧ uc_43 nx115 Q E x0 x2 x3 x6 x10 x11 x12 n316 b317 H315) E

def uc_46_M (nx115 : Bool → HP) (Q : QT) (E : ET) (τ : Tau) (H : Heap) : Prop := mP (τ 0) fun x0 => mP (τ 2) fun x2 => mP (τ 3) fun x3 => mB (τ 6) fun x6 => mI .u8 (τ 10) fun x10 => mP (τ 11) fun x11 => mB (τ 12) fun x12 => uc_46 nx115 Q E x0 x2 x3 x6 x10 x11 x12 H

theorem uc_47ok (nx115 : Bool → HP) (Q : QT) (E : ET) (τ : Tau) (H : Heap) (h : uc_46_M nx115 Q E τ H) : vc Pr uc_p43 τ (uc_q20 nx115 Q E) E H :=
  vP (i := 0) h (fun x0 h => vP (i := 2) h (fun x2 h => vP (i := 3) h (fun x3 h => vB (i := 6) h (fun x6 h => vI (i := 10) h (fun x10 h => vP (i := 11) h (fun x11 h => vB (i := 12) h (fun x12 h => (conv (by kernel_rfl) h))))))))

theorem uc_48ok (nx115 : Bool → HP) (Q : QT) (E : ET) (τ : Tau) (H : Heap) (h : uc_46_M nx115 Q E τ H) : vc Pr uc_p29 τ (uc_q14 nx115 Q E) E H :=
  (conv (B := vc Pr uc_p29 τ (uc_q14 nx115 Q E) E H) (by kernel_rfl) (vc_seq (K := (uc_43_M nx115 Q E)) (uc_47ok nx115 Q E τ H h) (uc_45ok nx115 Q E)))

theorem uc_49ok (nx115 : Bool → HP) (Q : QT) (E : ET) (τ : Tau) (H : Heap) (h : uc_46_M nx115 Q E τ H) : vc Pr uc_p17 τ (uc_q7 nx115 Q E) E H :=
  (conv (B := vc Pr uc_p17 τ (uc_q7 nx115 Q E) E H) (by kernel_rfl) (vc_seq (K := (uc_22_M nx115 Q E)) (uc_48ok nx115 Q E τ H h) (uc_24ok nx115 Q E)))

@[reducible] noncomputable def uc_q21 (nx115 : Bool → HP) (Q : QT) (E : ET) : Exit → Tau → Heap → Prop := (xthen (uc_46_M nx115 Q E) (uc_q7 nx115 Q E))

@[reducible] noncomputable def uc_p44 : Code := sA uc_p16

def uc_50 (nx115 : Bool → HP) (Q : QT) (E : ET) (x0 : OA) (x2 : OA) (x3 : OA) (x6 : Bool) (H : Heap) : Prop :=
 Does Pr 119 #[(.pointer x0)] H (fun v318 H319 =>
 ∃ n320 n321 n322 n323 n324 : Int, ∃ b325 : Bool, v318 = (.tuple #[(.int .u8 n320), (.agg #[(.int .u64 n321), (.int .u64 n322), (.int .u64 n323), (.int .u64 n324)]), (.bool b325)]) ∧ nw (.cells #[(.int .u64 0), (.int .u64 0), (.int .u64 0), (.int .u64 0)] 46 (0, 0)) H319 fun i326 H327 =>
 wr ⟨i326, 0, none⟩ [(.int .u64 n321), (.int .u64 n322), (.int .u64 n323), (.int .u64 n324)] H327 fun H328 =>
 uc_46 nx115 Q E x0 x2 x3 x6 n320 (some ⟨i326, 0, none⟩) b325 H328) E

def uc_50_M (nx115 : Bool → HP) (Q : QT) (E : ET) (τ : Tau) (H : Heap) : Prop := mP (τ 0) fun x0 => mP (τ 2) fun x2 => mP (τ 3) fun x3 => mB (τ 6) fun x6 => uc_50 nx115 Q E x0 x2 x3 x6 H

theorem uc_51ok (nx115 : Bool → HP) (Q : QT) (E : ET) (τ : Tau) (H : Heap) (h : uc_50_M nx115 Q E τ H) : vc Pr uc_p44 τ (uc_q21 nx115 Q E) E H :=
  vP (i := 0) h (fun x0 h => vP (i := 2) h (fun x2 h => vP (i := 3) h (fun x3 h => vB (i := 6) h (fun x6 h => (conv (by kernel_rfl) h)))))

theorem uc_52ok (nx115 : Bool → HP) (Q : QT) (E : ET) (τ : Tau) (H : Heap) (h : uc_50_M nx115 Q E τ H) : vc Pr uc_p16 τ (uc_q7 nx115 Q E) E H :=
  (conv (B := vc Pr uc_p16 τ (uc_q7 nx115 Q E) E H) (by kernel_rfl) (vc_seq (K := (uc_46_M nx115 Q E)) (uc_51ok nx115 Q E τ H h) (uc_49ok nx115 Q E)))

@[reducible] noncomputable def uc_q22 (nx115 : Bool → HP) (Q : QT) (E : ET) : Exit → Tau → Heap → Prop := (xthen (uc_50_M nx115 Q E) (uc_q7 nx115 Q E))

@[reducible] noncomputable def uc_p45 : Code := sA uc_p15

@[reducible] noncomputable def uc_p46 : Code := sB uc_p45

@[reducible] noncomputable def uc_p47 : Code := sB uc_p46

def uc_53 (nx115 : Bool → HP) (Q : QT) (E : ET) (x0 : OA) (x2 : OA) (x3 : OA) (x6 : Bool) (x46 : Bool) (H : Heap) : Prop :=
 sel x46
 (ptr x0 fun q333 =>
 ldI .i64 (Addr.add q333 1) H fun n334 =>
 ptr x0 fun q335 =>
 wr (Addr.add q335 1) [(.int .i64 (IntKind.wrap .i64 (n334 + 1)))] H fun H336 =>
 uc_3 Q E x2 x3 x6 H336)
 (uc_50 nx115 Q E x0 x2 x3 x6 H)

def uc_53_M (nx115 : Bool → HP) (Q : QT) (E : ET) (τ : Tau) (H : Heap) : Prop := mP (τ 0) fun x0 => mP (τ 2) fun x2 => mP (τ 3) fun x3 => mB (τ 6) fun x6 => mB (τ 46) fun x46 => uc_53 nx115 Q E x0 x2 x3 x6 x46 H

theorem uc_54ok (nx115 : Bool → HP) (Q : QT) (E : ET) (τ : Tau) (H : Heap) (h : uc_53_M nx115 Q E τ H) : vc Pr uc_p47 τ (uc_q22 nx115 Q E) E H :=
  vP (i := 0) h (fun x0 h => vP (i := 2) h (fun x2 h => vP (i := 3) h (fun x3 h => vB (i := 6) h (fun x6 h => vB (i := 46) h (fun x46 h => (conv (by kernel_rfl) h))))))

@[reducible] noncomputable def uc_q23 (nx115 : Bool → HP) (Q : QT) (E : ET) : Exit → Tau → Heap → Prop := (xthen (uc_53_M nx115 Q E) (uc_q22 nx115 Q E))

@[reducible] noncomputable def uc_p48 : Code := sA uc_p46

def uc_55 (nx115 : Bool → HP) (Q : QT) (E : ET) (x0 : OA) (x2 : OA) (x3 : OA) (x6 : Bool) (x7 : Bool) (x8 : Int) (x9 : Bool) (H : Heap) : Prop :=
 sel x9
 (sel ((x8 : Int) == 93)
 (uc_53 nx115 Q E x0 x2 x3 x6 x7 H)
 (uc_53 nx115 Q E x0 x2 x3 x6 false H))
 (uc_53 nx115 Q E x0 x2 x3 x6 false H)

def uc_55_M (nx115 : Bool → HP) (Q : QT) (E : ET) (τ : Tau) (H : Heap) : Prop := mP (τ 0) fun x0 => mP (τ 2) fun x2 => mP (τ 3) fun x3 => mB (τ 6) fun x6 => mB (τ 7) fun x7 => mI .u8 (τ 8) fun x8 => mB (τ 9) fun x9 => uc_55 nx115 Q E x0 x2 x3 x6 x7 x8 x9 H

theorem uc_56ok (nx115 : Bool → HP) (Q : QT) (E : ET) (τ : Tau) (H : Heap) (h : uc_55_M nx115 Q E τ H) : vc Pr uc_p48 τ (uc_q23 nx115 Q E) E H :=
  vP (i := 0) h (fun x0 h => vP (i := 2) h (fun x2 h => vP (i := 3) h (fun x3 h => vB (i := 6) h (fun x6 h => vB (i := 7) h (fun x7 h => vI (i := 8) h (fun x8 h => vB (i := 9) h (fun x9 h => (conv (by kernel_rfl) h))))))))

theorem uc_57ok (nx115 : Bool → HP) (Q : QT) (E : ET) (τ : Tau) (H : Heap) (h : uc_55_M nx115 Q E τ H) : vc Pr uc_p46 τ (uc_q22 nx115 Q E) E H :=
  (conv (B := vc Pr uc_p46 τ (uc_q22 nx115 Q E) E H) (by kernel_rfl) (vc_seq (K := (uc_53_M nx115 Q E)) (uc_56ok nx115 Q E τ H h) (uc_54ok nx115 Q E)))

@[reducible] noncomputable def uc_q24 (nx115 : Bool → HP) (Q : QT) (E : ET) : Exit → Tau → Heap → Prop := (xthen (uc_55_M nx115 Q E) (uc_q22 nx115 Q E))

@[reducible] noncomputable def uc_p49 : Code := sA uc_p45

def uc_58 (nx115 : Bool → HP) (Q : QT) (E : ET) (x0 : OA) (x2 : OA) (x3 : OA) (x6 : Bool) (x7 : Bool) (H : Heap) : Prop :=
 Does Pr 94 #[(.pointer x0)] H (fun v337 H338 =>
 ∃ n339 : Int, ∃ b340 : Bool, v337 = (.tuple #[(.int .u8 n339), (.bool b340)]) ∧ uc_55 nx115 Q E x0 x2 x3 x6 x7 n339 b340 H338) E

def uc_58_M (nx115 : Bool → HP) (Q : QT) (E : ET) (τ : Tau) (H : Heap) : Prop := mP (τ 0) fun x0 => mP (τ 2) fun x2 => mP (τ 3) fun x3 => mB (τ 6) fun x6 => mB (τ 7) fun x7 => uc_58 nx115 Q E x0 x2 x3 x6 x7 H

theorem uc_59ok (nx115 : Bool → HP) (Q : QT) (E : ET) (τ : Tau) (H : Heap) (h : uc_58_M nx115 Q E τ H) : vc Pr uc_p49 τ (uc_q24 nx115 Q E) E H :=
  vP (i := 0) h (fun x0 h => vP (i := 2) h (fun x2 h => vP (i := 3) h (fun x3 h => vB (i := 6) h (fun x6 h => vB (i := 7) h (fun x7 h => (conv (by kernel_rfl) h))))))

theorem uc_60ok (nx115 : Bool → HP) (Q : QT) (E : ET) (τ : Tau) (H : Heap) (h : uc_58_M nx115 Q E τ H) : vc Pr uc_p45 τ (uc_q22 nx115 Q E) E H :=
  (conv (B := vc Pr uc_p45 τ (uc_q22 nx115 Q E) E H) (by kernel_rfl) (vc_seq (K := (uc_55_M nx115 Q E)) (uc_59ok nx115 Q E τ H h) (uc_57ok nx115 Q E)))

theorem uc_61ok (nx115 : Bool → HP) (Q : QT) (E : ET) (τ : Tau) (H : Heap) (h : uc_58_M nx115 Q E τ H) : vc Pr uc_p15 τ (uc_q7 nx115 Q E) E H :=
  (conv (B := vc Pr uc_p15 τ (uc_q7 nx115 Q E) E H) (by kernel_rfl) (vc_seq (K := (uc_50_M nx115 Q E)) (uc_60ok nx115 Q E τ H h) (uc_52ok nx115 Q E)))

theorem uc_62ok (nx115 : Bool → HP) (Q : QT) (E : ET) (τ : Tau) (H : Heap) (h : uc_58_M nx115 Q E τ H) : vc Pr uc_p14 τ (uc_q6 nx115 Q E) E H :=
  (conv (B := vc Pr uc_p14 τ (uc_q6 nx115 Q E) E H) (by kernel_rfl) (uc_61ok nx115 Q E τ H h))

theorem uc_63ok (nx115 : Bool → HP) (Q : QT) (E : ET) (τ : Tau) (H : Heap) (h : uc_58_M nx115 Q E τ H) : vc Pr uc_p12 τ (uc_q5 nx115 Q E) E H :=
  (conv (B := vc Pr uc_p12 τ (uc_q5 nx115 Q E) E H) (by kernel_rfl) (vc_seq (K := (uc_6_M nx115 Q E)) (uc_62ok nx115 Q E τ H h) (uc_7ok nx115 Q E)))

def uc_64 (Q : QT) (E : ET) (x0 : OA) (x2 : OA) (x3 : OA) (x6 : Bool) (x7 : Bool) (H : Heap) : Prop :=
 ∃ (I : Bool → HP) (μ : Bool → Heap → Nat), I x7 H ∧ ∀ (x7 : Bool) (H : Heap), I x7 H →
 uc_58 (fun x7' H1 => I x7' H1 ∧ μ x7' H1 < μ x7 H) Q E x0 x2 x3 x6 x7 H

def uc_64_M (Q : QT) (E : ET) (τ : Tau) (H : Heap) : Prop := mP (τ 0) fun x0 => mP (τ 2) fun x2 => mP (τ 3) fun x3 => mB (τ 6) fun x6 => mB (τ 7) fun x7 => uc_64 Q E x0 x2 x3 x6 x7 H

theorem uc_65ok (Q : QT) (E : ET) (τ : Tau) (H : Heap) (h : uc_64_M Q E τ H) : vc Pr uc_p11 τ (uc_q4 Q E) E H :=
  vP (i := 0) h (fun x0 h => vP (i := 2) h (fun x2 h => vP (i := 3) h (fun x3 h => vB (i := 6) h (fun x6 h => vB (i := 7) h (fun x7 h => match h with | ⟨I, μ, h0, hr⟩ => (conv (B := vc Pr uc_p11 (Tau.upd (Tau.upd (Tau.upd (Tau.upd (Tau.upd τ 0 (.pointer x0)) 2 (.pointer x2)) 3 (.pointer x3)) 6 (.bool x6)) 7 (.bool x7)) (uc_q4 Q E) E H) (by kernel_rfl) (vc_loop (c := sI uc_p11) (τ := (Tau.upd (Tau.upd (Tau.upd (Tau.upd (Tau.upd τ 0 (.pointer x0)) 2 (.pointer x2)) 3 (.pointer x3)) 6 (.bool x6)) 7 (.bool x7))) [0, 2, 3, 6] (fun τ H => mB (τ 7) fun x7' => I x7' H) (fun τ H => μ (gB (τ 7)) H) (by kernel_rfl) h0 (fun τ1 H1 hf hI => fix_elim (τ := τ1) (i := 0) (v := (.pointer x0)) (G := fun τ => vc Pr (sI uc_p11) τ (xthen (fun τ2 H2 => (mB (τ2 7) fun x7' => I x7' H2) ∧ μ (gB (τ2 7)) H2 < μ (gB (τ 7)) H1) (uc_q4 Q E)) E H1) (hf 0 (by simp)) (fix_elim (τ := (Tau.upd τ1 0 (.pointer x0))) (i := 2) (v := (.pointer x2)) (G := fun τ => vc Pr (sI uc_p11) τ (xthen (fun τ2 H2 => (mB (τ2 7) fun x7' => I x7' H2) ∧ μ (gB (τ2 7)) H2 < μ (gB (τ 7)) H1) (uc_q4 Q E)) E H1) (hf 2 (by simp)) (fix_elim (τ := (Tau.upd (Tau.upd τ1 0 (.pointer x0)) 2 (.pointer x2))) (i := 3) (v := (.pointer x3)) (G := fun τ => vc Pr (sI uc_p11) τ (xthen (fun τ2 H2 => (mB (τ2 7) fun x7' => I x7' H2) ∧ μ (gB (τ2 7)) H2 < μ (gB (τ 7)) H1) (uc_q4 Q E)) E H1) (hf 3 (by simp)) (fix_elim (τ := (Tau.upd (Tau.upd (Tau.upd τ1 0 (.pointer x0)) 2 (.pointer x2)) 3 (.pointer x3))) (i := 6) (v := (.bool x6)) (G := fun τ => vc Pr (sI uc_p11) τ (xthen (fun τ2 H2 => (mB (τ2 7) fun x7' => I x7' H2) ∧ μ (gB (τ2 7)) H2 < μ (gB (τ 7)) H1) (uc_q4 Q E)) E H1) (hf 6 (by simp)) (mB_elim (i := 7) (G := fun τ => vc Pr (sI uc_p11) τ (xthen (fun τ2 H2 => (mB (τ2 7) fun x7' => I x7' H2) ∧ μ (gB (τ2 7)) H2 < μ (gB (τ 7)) H1) (uc_q4 Q E)) E H1) hI (fun x7r h => (conv (B := vc Pr (sI uc_p11) (Tau.upd (Tau.upd (Tau.upd (Tau.upd (Tau.upd τ1 0 (.pointer x0)) 2 (.pointer x2)) 3 (.pointer x3)) 6 (.bool x6)) 7 (.bool x7r)) (xthen (fun τ2 H2 => (mB (τ2 7) fun x7' => I x7' H2) ∧ μ (gB (τ2 7)) H2 < μ (gB ((Tau.upd (Tau.upd (Tau.upd (Tau.upd (Tau.upd τ1 0 (.pointer x0)) 2 (.pointer x2)) 3 (.pointer x3)) 6 (.bool x6)) 7 (.bool x7r)) 7)) H1) (uc_q4 Q E)) E H1) (by kernel_rfl) (vc_xthen (uc_63ok (fun x7' H2 => I x7' H2 ∧ μ x7' H2 < μ x7r H1) Q E (Tau.upd (Tau.upd (Tau.upd (Tau.upd (Tau.upd τ1 0 (.pointer x0)) 2 (.pointer x2)) 3 (.pointer x3)) 6 (.bool x6)) 7 (.bool x7r)) H1 (conv (B := uc_58_M (fun x7' H2 => I x7' H2 ∧ μ x7' H2 < μ x7r H1) Q E (Tau.upd (Tau.upd (Tau.upd (Tau.upd (Tau.upd τ1 0 (.pointer x0)) 2 (.pointer x2)) 3 (.pointer x3)) 6 (.bool x6)) 7 (.bool x7r)) H1) (by kernel_rfl) (hr x7r H1 h))) (fun τ2 H2 hk => mB_elim (i := 7) (G := fun τ => (mB (τ 7) fun x7' => I x7' H2) ∧ μ (gB (τ 7)) H2 < μ x7r H1) hk (fun x7' h => h)))))))))))))))))

theorem uc_66ok (Q : QT) (E : ET) (τ : Tau) (H : Heap) (h : uc_64_M Q E τ H) : vc Pr uc_p10 τ (uc_q3 Q E) E H :=
  (conv (B := vc Pr uc_p10 τ (uc_q3 Q E) E H) (by kernel_rfl) (uc_65ok Q E τ H h))

@[reducible] noncomputable def uc_q25 (Q : QT) (E : ET) : Exit → Tau → Heap → Prop := (xthen (uc_64_M Q E) (uc_q3 Q E))

@[reducible] noncomputable def uc_p50 : Code := sA uc_p9

def uc_67 (Q : QT) (E : ET) (x0 : OA) (x2 : OA) (x3 : OA) (x6 : Bool) (H : Heap) : Prop :=
 uc_64 Q E x0 x2 x3 x6 false H

def uc_67_M (Q : QT) (E : ET) (τ : Tau) (H : Heap) : Prop := mP (τ 0) fun x0 => mP (τ 2) fun x2 => mP (τ 3) fun x3 => mB (τ 6) fun x6 => uc_67 Q E x0 x2 x3 x6 H

theorem uc_68ok (Q : QT) (E : ET) (τ : Tau) (H : Heap) (h : uc_67_M Q E τ H) : vc Pr uc_p50 τ (uc_q25 Q E) E H :=
  vP (i := 0) h (fun x0 h => vP (i := 2) h (fun x2 h => vP (i := 3) h (fun x3 h => vB (i := 6) h (fun x6 h => (conv (by kernel_rfl) h)))))

theorem uc_69ok (Q : QT) (E : ET) (τ : Tau) (H : Heap) (h : uc_67_M Q E τ H) : vc Pr uc_p9 τ (uc_q3 Q E) E H :=
  (conv (B := vc Pr uc_p9 τ (uc_q3 Q E) E H) (by kernel_rfl) (vc_seq (K := (uc_64_M Q E)) (uc_68ok Q E τ H h) (uc_66ok Q E)))

theorem uc_70ok (Q : QT) (E : ET) (τ : Tau) (H : Heap) (h : uc_67_M Q E τ H) : vc Pr uc_p5 τ (uc_q1 Q E) E H :=
  (conv (B := vc Pr uc_p5 τ (uc_q1 Q E) E H) (by kernel_rfl) (vc_seq (K := (uc_3_M Q E)) (uc_69ok Q E τ H h) (uc_5ok Q E)))

@[reducible] noncomputable def uc_q26 (Q : QT) (E : ET) : Exit → Tau → Heap → Prop := (xthen (uc_67_M Q E) (uc_q1 Q E))

@[reducible] noncomputable def uc_p51 : Code := sA uc_p4

def uc_71 (Q : QT) (E : ET) (x0 : OA) (x2 : OA) (x3 : OA) (x6 : Bool) (H : Heap) : Prop :=
 sel x6
 (ptr x0 fun q341 =>
 ldI .i64 (Addr.add q341 1) H fun n342 =>
 ptr x0 fun q343 =>
 wr (Addr.add q343 1) [(.int .i64 (IntKind.wrap .i64 (n342 + 1)))] H fun H344 =>
 uc_67 Q E x0 x2 x3 x6 H344)
 (uc_67 Q E x0 x2 x3 x6 H)

def uc_71_M (Q : QT) (E : ET) (τ : Tau) (H : Heap) : Prop := mP (τ 0) fun x0 => mP (τ 2) fun x2 => mP (τ 3) fun x3 => mB (τ 6) fun x6 => uc_71 Q E x0 x2 x3 x6 H

theorem uc_72ok (Q : QT) (E : ET) (τ : Tau) (H : Heap) (h : uc_71_M Q E τ H) : vc Pr uc_p51 τ (uc_q26 Q E) E H :=
  vP (i := 0) h (fun x0 h => vP (i := 2) h (fun x2 h => vP (i := 3) h (fun x3 h => vB (i := 6) h (fun x6 h => (conv (by kernel_rfl) h)))))

theorem uc_73ok (Q : QT) (E : ET) (τ : Tau) (H : Heap) (h : uc_71_M Q E τ H) : vc Pr uc_p4 τ (uc_q1 Q E) E H :=
  (conv (B := vc Pr uc_p4 τ (uc_q1 Q E) E H) (by kernel_rfl) (vc_seq (K := (uc_67_M Q E)) (uc_72ok Q E τ H h) (uc_70ok Q E)))

@[reducible] noncomputable def uc_q27 (Q : QT) (E : ET) : Exit → Tau → Heap → Prop := (xthen (uc_71_M Q E) (uc_q1 Q E))

@[reducible] noncomputable def uc_p52 : Code := sA uc_p3

def uc_74 (Q : QT) (E : ET) (x0 : OA) (x2 : OA) (x3 : OA) (x4 : Int) (H : Heap) : Prop :=
 uc_71 Q E x0 x2 x3 ((x4 : Int) == 94) H

def uc_74_M (Q : QT) (E : ET) (τ : Tau) (H : Heap) : Prop := mP (τ 0) fun x0 => mP (τ 2) fun x2 => mP (τ 3) fun x3 => mI .u8 (τ 4) fun x4 => uc_74 Q E x0 x2 x3 x4 H

theorem uc_75ok (Q : QT) (E : ET) (τ : Tau) (H : Heap) (h : uc_74_M Q E τ H) : vc Pr uc_p52 τ (uc_q27 Q E) E H :=
  vP (i := 0) h (fun x0 h => vP (i := 2) h (fun x2 h => vP (i := 3) h (fun x3 h => vI (i := 4) h (fun x4 h => (conv (by kernel_rfl) h)))))

theorem uc_76ok (Q : QT) (E : ET) (τ : Tau) (H : Heap) (h : uc_74_M Q E τ H) : vc Pr uc_p3 τ (uc_q1 Q E) E H :=
  (conv (B := vc Pr uc_p3 τ (uc_q1 Q E) E H) (by kernel_rfl) (vc_seq (K := (uc_71_M Q E)) (uc_75ok Q E τ H h) (uc_73ok Q E)))

@[reducible] noncomputable def uc_q28 (Q : QT) (E : ET) : Exit → Tau → Heap → Prop := (xthen (uc_74_M Q E) (uc_q1 Q E))

@[reducible] noncomputable def uc_p53 : Code := sA uc_p2

def uc_77 (Q : QT) (E : ET) (x0 : OA) (x2 : OA) (x3 : OA) (H : Heap) : Prop :=
 Does Pr 94 #[(.pointer x0)] H (fun v345 H346 =>
 ∃ n347 : Int, ∃ b348 : Bool, v345 = (.tuple #[(.int .u8 n347), (.bool b348)]) ∧ uc_74 Q E x0 x2 x3 n347 H346) E

def uc_77_M (Q : QT) (E : ET) (τ : Tau) (H : Heap) : Prop := mP (τ 0) fun x0 => mP (τ 2) fun x2 => mP (τ 3) fun x3 => uc_77 Q E x0 x2 x3 H

theorem uc_78ok (Q : QT) (E : ET) (τ : Tau) (H : Heap) (h : uc_77_M Q E τ H) : vc Pr uc_p53 τ (uc_q28 Q E) E H :=
  vP (i := 0) h (fun x0 h => vP (i := 2) h (fun x2 h => vP (i := 3) h (fun x3 h => (conv (by kernel_rfl) h))))

theorem uc_79ok (Q : QT) (E : ET) (τ : Tau) (H : Heap) (h : uc_77_M Q E τ H) : vc Pr uc_p2 τ (uc_q1 Q E) E H :=
  (conv (B := vc Pr uc_p2 τ (uc_q1 Q E) E H) (by kernel_rfl) (vc_seq (K := (uc_74_M Q E)) (uc_78ok Q E τ H h) (uc_76ok Q E)))

@[reducible] noncomputable def uc_q29 (Q : QT) (E : ET) : Exit → Tau → Heap → Prop := (xthen (uc_77_M Q E) (uc_q1 Q E))

@[reducible] noncomputable def uc_p54 : Code := sA uc_p1

def uc_80 (Q : QT) (E : ET) (x0 : OA) (x2 : OA) (H : Heap) : Prop :=
 nw (.cells #[(.int .u64 0), (.int .u64 0), (.int .u64 0), (.int .u64 0)] 46 (0, 0)) H fun i349 H350 =>
 uc_77 Q E x0 x2 (some ⟨i349, 0, none⟩) H350

def uc_80_M (Q : QT) (E : ET) (τ : Tau) (H : Heap) : Prop := mP (τ 0) fun x0 => mP (τ 2) fun x2 => uc_80 Q E x0 x2 H

theorem uc_81ok (Q : QT) (E : ET) (τ : Tau) (H : Heap) (h : uc_80_M Q E τ H) : vc Pr uc_p54 τ (uc_q29 Q E) E H :=
  vP (i := 0) h (fun x0 h => vP (i := 2) h (fun x2 h => (conv (by kernel_rfl) h)))

theorem uc_82ok (Q : QT) (E : ET) (τ : Tau) (H : Heap) (h : uc_80_M Q E τ H) : vc Pr uc_p1 τ (uc_q1 Q E) E H :=
  (conv (B := vc Pr uc_p1 τ (uc_q1 Q E) E H) (by kernel_rfl) (vc_seq (K := (uc_77_M Q E)) (uc_81ok Q E τ H h) (uc_79ok Q E)))

@[reducible] noncomputable def uc_q30 (Q : QT) (E : ET) : Exit → Tau → Heap → Prop := (xthen (uc_80_M Q E) (uc_q1 Q E))

@[reducible] noncomputable def uc_p55 : Code := sA uc_p0

def uc (Q : QT) (E : ET) (a0 : OA) (H : Heap) : Prop :=
 nw (.cells #[(.int .u64 0), (.int .u64 0), (.int .u64 0), (.int .u64 0)] 46 (0, 0)) H fun i351 H352 =>
 uc_80 Q E a0 (some ⟨i351, 0, none⟩) H352

theorem uc_fn (a0 : OA) (Q : QT) (E : ET) (H : Heap) (h : uc Q E a0 H)   : Does Pr 113 #[(.pointer a0)] H Q E :=
  Fn_of_vc (fn := Try.f113) (c := uc_p0) (args := [(.pointer a0)]) mixed (by kernel_rfl) (by kernel_rfl) (by kernel_rfl) (by kernel_rfl) (by kernel_rfl) ((conv (B := vc Pr uc_p0 (argT [(.pointer a0)]) (uc_q1 Q E) E H) (by kernel_rfl) (vc_seq (K := (uc_80_M Q E)) (conv (B := vc Pr uc_p55 (argT [(.pointer a0)]) (uc_q30 Q E) E H) (by kernel_rfl) h) (uc_82ok Q E))))

/-! (*jobmux/regex.parser).escape -/
@[reducible] noncomputable def ud_q1 (Q : QT) (E : ET) : Exit → Tau → Heap → Prop := (retQ Pr (Try.f114).results.toList Q)

@[reducible] noncomputable def ud_p0 : Code := bodyOf Try.f114

@[reducible] noncomputable def ud_p1 : Code := sB ud_p0

@[reducible] noncomputable def ud_p2 : Code := sB ud_p1

@[reducible] noncomputable def ud_p3 : Code := sB ud_p2

@[reducible] noncomputable def ud_p4 : Code := sB ud_p3

@[reducible] noncomputable def ud_p5 : Code := sB ud_p4

@[reducible] noncomputable def ud_p6 : Code := sB ud_p5

@[reducible] noncomputable def ud_p7 : Code := sB ud_p6

def ud_1 (Q : QT) (E : ET) (x2 : Int) (x3 : OA) (H : Heap) : Prop :=
 Does Pr 115 #[(.agg #[(.int .u64 0), (.int .u64 0), (.int .u64 0), (.int .u64 0)]), (.int .u8 x2), (.int .u8 x2)] H (fun v39 H40 =>
 ∃ n41 n42 n43 n44 : Int, v39 = (.agg #[(.int .u64 n41), (.int .u64 n42), (.int .u64 n43), (.int .u64 n44)]) ∧ ptr x3 fun q46 =>
 wr q46 [(.int .u64 n41), (.int .u64 n42), (.int .u64 n43), (.int .u64 n44)] H40 fun H45 =>
 ptr x3 fun q47 =>
 ∃ n48 n49 n50 n51 : Int, Heap.rd H45 q47 0 [(.int .u64 n48), (.int .u64 n49), (.int .u64 n50), (.int .u64 n51)] ∧ Q (.tuple #[(.int .u8 x2), (.agg #[(.int .u64 n48), (.int .u64 n49), (.int .u64 n50), (.int .u64 n51)]), (.bool false)]) H45) E

def ud_1_M (Q : QT) (E : ET) (τ : Tau) (H : Heap) : Prop := mI .u8 (τ 2) fun x2 => mP (τ 3) fun x3 => ud_1 Q E x2 x3 H

theorem ud_2ok (Q : QT) (E : ET) (τ : Tau) (H : Heap) (h : ud_1_M Q E τ H) : vc Pr ud_p7 τ (ud_q1 Q E) E H :=
  vI (i := 2) h (fun x2 h => vP (i := 3) h (fun x3 h => (conv (by kernel_rfl) h)))

@[reducible] noncomputable def ud_q2 (Q : QT) (E : ET) : Exit → Tau → Heap → Prop := (xthen (ud_1_M Q E) (ud_q1 Q E))

@[reducible] noncomputable def ud_p8 : Code := sA ud_p6

def ud_3 (Q : QT) (E : ET) (x0 : OA) (x3 : OA) (x5 : Int) (H : Heap) : Prop :=
 Does Pr 121 #[(.int .u8 x5)] H (fun v52 H53 =>
 ∃ n54 : Int, ∃ b55 : Bool, v52 = (.tuple #[(.int .u8 n54), (.bool b55)]) ∧ sel (!b55)
 (Does Pr 103 #[(.pointer x0), (.int .i64 82)] H53 (fun v56 H57 =>
 ∃ n58 : Int, v56 = (.int .i64 n58) ∧ ud_1 Q E n54 x3 H57) E)
 (ud_1 Q E n54 x3 H53)) E

def ud_3_M (Q : QT) (E : ET) (τ : Tau) (H : Heap) : Prop := mP (τ 0) fun x0 => mP (τ 3) fun x3 => mI .u8 (τ 5) fun x5 => ud_3 Q E x0 x3 x5 H

theorem ud_4ok (Q : QT) (E : ET) (τ : Tau) (H : Heap) (h : ud_3_M Q E τ H) : vc Pr ud_p8 τ (ud_q2 Q E) E H :=
  vP (i := 0) h (fun x0 h => vP (i := 3) h (fun x3 h => vI (i := 5) h (fun x5 h => (conv (by kernel_rfl) h))))

theorem ud_5ok (Q : QT) (E : ET) (τ : Tau) (H : Heap) (h : ud_3_M Q E τ H) : vc Pr ud_p6 τ (ud_q1 Q E) E H :=
  (conv (B := vc Pr ud_p6 τ (ud_q1 Q E) E H) (by kernel_rfl) (vc_seq (K := (ud_1_M Q E)) (ud_4ok Q E τ H h) (ud_2ok Q E)))

@[reducible] noncomputable def ud_q3 (Q : QT) (E : ET) : Exit → Tau → Heap → Prop := (xthen (ud_3_M Q E) (ud_q1 Q E))

@[reducible] noncomputable def ud_p9 : Code := sA ud_p5

def ud_6 (Q : QT) (E : ET) (x0 : OA) (x3 : OA) (x5 : Int) (H : Heap) : Prop :=
 Does Pr 120 #[(.int .u8 x5)] H (fun v59 H60 =>
 ∃ n61 n62 n63 n64 : Int, ∃ b65 : Bool, v59 = (.tuple #[(.agg #[(.int .u64 n61), (.int .u64 n62), (.int .u64 n63), (.int .u64 n64)]), (.bool b65)]) ∧ ptr x3 fun q67 =>
 wr q67 [(.int .u64 n61), (.int .u64 n62), (.int .u64 n63), (.int .u64 n64)] H60 fun H66 =>
 sel b65
 (ptr x3 fun q68 =>
 ∃ n69 n70 n71 n72 : Int, Heap.rd H66 q68 0 [(.int .u64 n69), (.int .u64 n70), (.int .u64 n71), (.int .u64 n72)] ∧ ptr x3 fun q74 =>
 wr q74 [(.int .u64 n69), (.int .u64 n70), (.int .u64 n71), (.int .u64 n72)] H66 fun H73 =>
 ptr x3 fun q75 =>
 ∃ n76 n77 n78 n79 : Int, Heap.rd H73 q75 0 [(.int .u64 n76), (.int .u64 n77), (.int .u64 n78), (.int .u64 n79)] ∧ Q (.tuple #[(.int .u8 0), (.agg #[(.int .u64 n76), (.int .u64 n77), (.int .u64 n78), (.int .u64 n79)]), (.bool true)]) H73)
 (ud_3 Q E x0 x3 x5 H66)) E

def ud_6_M (Q : QT) (E : ET) (τ : Tau) (H : Heap) : Prop := mP (τ 0) fun x0 => mP (τ 3) fun x3 => mI .u8 (τ 5) fun x5 => ud_6 Q E x0 x3 x5 H

theorem ud_7ok (Q : QT) (E : ET) (τ : Tau) (H : Heap) (h : ud_6_M Q E τ H) : vc Pr ud_p9 τ (ud_q3 Q E) E H :=
  vP (i := 0) h (fun x0 h => vP (i := 3) h (fun x3 h => vI (i := 5) h (fun x5 h => (conv (by kernel_rfl) h))))

theorem ud_8ok (Q : QT) (E : ET) (τ : Tau) (H : Heap) (h : ud_6_M Q E τ H) : vc Pr ud_p5 τ (ud_q1 Q E) E H :=
  (conv (B := vc Pr ud_p5 τ (ud_q1 Q E) E H) (by kernel_rfl) (vc_seq (K := (ud_3_M Q E)) (ud_7ok Q E τ H h) (ud_5ok Q E)))

@[reducible] noncomputable def ud_q4 (Q : QT) (E : ET) : Exit → Tau → Heap → Prop := (xthen (ud_6_M Q E) (ud_q1 Q E))

@[reducible] noncomputable def ud_p10 : Code := sA ud_p4

def ud_9 (Q : QT) (E : ET) (x0 : OA) (x3 : OA) (x5 : Int) (H : Heap) : Prop :=
 ptr x0 fun q80 =>
 ldI .i64 (Addr.add q80 1) H fun n81 =>
 ptr x0 fun q82 =>
 wr (Addr.add q82 1) [(.int .i64 (IntKind.wrap .i64 (n81 + 1)))] H fun H83 =>
 ud_6 Q E x0 x3 x5 H83

def ud_9_M (Q : QT) (E : ET) (τ : Tau) (H : Heap) : Prop := mP (τ 0) fun x0 => mP (τ 3) fun x3 => mI .u8 (τ 5) fun x5 => ud_9 Q E x0 x3 x5 H

theorem ud_10ok (Q : QT) (E : ET) (τ : Tau) (H : Heap) (h : ud_9_M Q E τ H) : vc Pr ud_p10 τ (ud_q4 Q E) E H :=
  vP (i := 0) h (fun x0 h => vP (i := 3) h (fun x3 h => vI (i := 5) h (fun x5 h => (conv (by kernel_rfl) h))))

theorem ud_11ok (Q : QT) (E : ET) (τ : Tau) (H : Heap) (h : ud_9_M Q E τ H) : vc Pr ud_p4 τ (ud_q1 Q E) E H :=
  (conv (B := vc Pr ud_p4 τ (ud_q1 Q E) E H) (by kernel_rfl) (vc_seq (K := (ud_6_M Q E)) (ud_10ok Q E τ H h) (ud_8ok Q E)))

@[reducible] noncomputable def ud_q5 (Q : QT) (E : ET) : Exit → Tau → Heap → Prop := (xthen (ud_9_M Q E) (ud_q1 Q E))

@[reducible] noncomputable def ud_p11 : Code := sA ud_p3

def ud_12 (Q : QT) (E : ET) (x0 : OA) (x3 : OA) (x5 : Int) (x6 : Bool) (H : Heap) : Prop :=
 sel (!x6)
 (Does Pr 103 #[(.pointer x0), (.int .i64 82)] H (fun v84 H85 =>
 ∃ n86 : Int, v84 = (.int .i64 n86) ∧ ptr x3 fun q88 =>
 wr q88 [(.int .u64 0), (.int .u64 0), (.int .u64 0), (.int .u64 0)] H85 fun H87 =>
 ptr x3 fun q89 =>
 ∃ n90 n91 n92 n93 : Int, Heap.rd H87 q89 0 [(.int .u64 n90), (.int .u64 n91), (.int .u64 n92), (.int .u64 n93)] ∧ Q (.tuple #[(.int .u8 0), (.agg #[(.int .u64 n90), (.int .u64 n91), (.int .u64 n92), (.int .u64 n93)]), (.bool false)]) H87) E)
 (ud_9 Q E x0 x3 x5 H)

def ud_12_M (Q : QT) (E : ET) (τ : Tau) (H : Heap) : Prop := mP (τ 0) fun x0 => mP (τ 3) fun x3 => mI .u8 (τ 5) fun x5 => mB (τ 6) fun x6 => ud_12 Q E x0 x3 x5 x6 H

theorem ud_13ok (Q : QT) (E : ET) (τ : Tau) (H : Heap) (h : ud_12_M Q E τ H) : vc Pr ud_p11 τ (ud_q5 Q E) E H :=
  vP (i := 0) h (fun x0 h => vP (i := 3) h (fun x3 h => vI (i := 5) h (fun x5 h => vB (i := 6) h (fun x6 h => (conv (by kernel_rfl) h)))))

theorem ud_14ok (Q : QT) (E : ET) (τ : Tau) (H : Heap) (h : ud_12_M Q E τ H) : vc Pr ud_p3 τ (ud_q1 Q E) E H :=
  (conv (B := vc Pr ud_p3 τ (ud_q1 Q E) E H) (by kernel_rfl) (vc_seq (K := (ud_9_M Q E)) (ud_13ok Q E τ H h) (ud_11ok Q E)))

@[reducible] noncomputable def ud_q6 (Q : QT) (E : ET) : Exit → Tau → Heap → Prop := (xthen (ud_12_M Q E) (ud_q1 Q E))

@[reducible] noncomputable def ud_p12 : Code := sA ud_p2

def ud_15 (Q : QT) (E : ET) (x0 : OA) (x3 : OA) (H : Heap) : Prop :=
 Does Pr 94 #[(.pointer x0)] H (fun v94 H95 =>
 ∃ n96 : Int, ∃ b97 : Bool, v94 = (.tuple #[(.int .u8 n96), (.bool b97)]) ∧ ud_12 Q E x0 x3 n96 b97 H95) E

def ud_15_M (Q : QT) (E : ET) (τ : Tau) (H : Heap) : Prop := mP (τ 0) fun x0 => mP (τ 3) fun x3 => ud_15 Q E x0 x3 H

theorem ud_16ok (Q : QT) (E : ET) (τ : Tau) (H : Heap) (h : ud_15_M Q E τ H) : vc Pr ud_p12 τ (ud_q6 Q E) E H :=
  vP (i := 0) h (fun x0 h => vP (i := 3) h (fun x3 h => (conv (by kernel_rfl) h)))

theorem ud_17ok (Q : QT) (E : ET) (τ : Tau) (H : Heap) (h : ud_15_M Q E τ H) : vc Pr ud_p2 τ (ud_q1 Q E) E H :=
  (conv (B := vc Pr ud_p2 τ (ud_q1 Q E) E H) (by kernel_rfl) (vc_seq (K := (ud_12_M Q E)) (ud_16ok Q E τ H h) (ud_14ok Q E)))

@[reducible] noncomputable def ud_q7 (Q : QT) (E : ET) : Exit → Tau → Heap → Prop := (xthen (ud_15_M Q E) (ud_q1 Q E))

@[reducible] noncomputable def ud_p13 : Code := sA ud_p1

def ud_18 (Q : QT) (E : ET) (x0 : OA) (x3 : OA) (H : Heap) : Prop :=
 ptr x0 fun q98 =>
 ldI .i64 (Addr.add q98 1) H fun n99 =>
 ptr x0 fun q100 =>
 wr (Addr.add q100 1) [(.int .i64 (IntKind.wrap .i64 (n99 + 1)))] H fun H101 =>
 ud_15 Q E x0 x3 H101

def ud_18_M (Q : QT) (E : ET) (τ : Tau) (H : Heap) : Prop := mP (τ 0) fun x0 => mP (τ 3) fun x3 => ud_18 Q E x0 x3 H

theorem ud_19ok (Q : QT) (E : ET) (τ : Tau) (H : Heap) (h : ud_18_M Q E τ H) : vc Pr ud_p13 τ (ud_q7 Q E) E H :=
  vP (i := 0) h (fun x0 h => vP (i := 3) h (fun x3 h => (conv (by kernel_rfl) h)))

theorem ud_20ok (Q : QT) (E : ET) (τ : Tau) (H : Heap) (h : ud_18_M Q E τ H) : vc Pr ud_p1 τ (ud_q1 Q E) E H :=
  (conv (B := vc Pr ud_p1 τ (ud_q1 Q E) E H) (by kernel_rfl) (vc_seq (K := (ud_15_M Q E)) (ud_19ok Q E τ H h) (ud_17ok Q E)))

@[reducible] noncomputable def ud_q8 (Q : QT) (E : ET) : Exit → Tau → Heap → Prop := (xthen (ud_18_M Q E) (ud_q1 Q E))

@[reducible] noncomputable def ud_p14 : Code := sA ud_p0

def ud (Q : QT) (E : ET) (a0 : OA) (H : Heap) : Prop :=
 nw (.cells #[(.int .u64 0), (.int .u64 0), (.int .u64 0), (.int .u64 0)] 46 (0, 0)) H fun i102 H103 =>
 ud_18 Q E a0 (some ⟨i102, 0, none⟩) H103

theorem ud_fn (a0 : OA) (Q : QT) (E : ET) (H : Heap) (h : ud Q E a0 H)   : Does Pr 114 #[(.pointer a0)] H Q E :=
  Fn_of_vc (fn := Try.f114) (c := ud_p0) (args := [(.pointer a0)]) mixed (by kernel_rfl) (by kernel_rfl) (by kernel_rfl) (by kernel_rfl) (by kernel_rfl) ((conv (B := vc Pr ud_p0 (argT [(.pointer a0)]) (ud_q1 Q E) E H) (by kernel_rfl) (vc_seq (K := (ud_18_M Q E)) (conv (B := vc Pr ud_p14 (argT [(.pointer a0)]) (ud_q8 Q E) E H) (by kernel_rfl) h) (ud_20ok Q E))))

/-! jobmux/regex.with -/
@[reducible] noncomputable def ue_q1 (Q : QT) (E : ET) : Exit → Tau → Heap → Prop := (retQ Pr (Try.f115).results.toList Q)

@[reducible] noncomputable def ue_p0 : Code := bodyOf Try.f115

@[reducible] noncomputable def ue_p1 : Code := sB ue_p0

@[reducible] noncomputable def ue_p2 : Code := sB ue_p1

def ue_1 (Q : QT) (E : ET) (x3 : OA) (x6 : OA) (H : Heap) : Prop :=
 ptr x3 fun q7 =>
 ∃ n8 n9 n10 n11 : Int, Heap.rd H q7 0 [(.int .u64 n8), (.int .u64 n9), (.int .u64 n10), (.int .u64 n11)] ∧ ptr x6 fun q13 =>
 wr q13 [(.int .u64 n8), (.int .u64 n9), (.int .u64 n10), (.int .u64 n11)] H fun H12 =>
 ptr x6 fun q14 =>
 ∃ n15 n16 n17 n18 : Int, Heap.rd H12 q14 0 [(.int .u64 n15), (.int .u64 n16), (.int .u64 n17), (.int .u64 n18)] ∧ Q (.agg #[(.int .u64 n15), (.int .u64 n16), (.int .u64 n17), (.int .u64 n18)]) H12

def ue_1_M (Q : QT) (E : ET) (τ : Tau) (H : Heap) : Prop := mP (τ 3) fun x3 => mP (τ 6) fun x6 => ue_1 Q E x3 x6 H

theorem ue_2ok (Q : QT) (E : ET) (τ : Tau) (H : Heap) (h : ue_1_M Q E τ H) : vc Pr ue_p2 τ (ue_q1 Q E) E H :=
  vP (i := 3) h (fun x3 h => vP (i := 6) h (fun x6 h => (conv (by kernel_rfl) h)))

@[reducible] noncomputable def ue_q2 (Q : QT) (E : ET) : Exit → Tau → Heap → Prop := (xthen (ue_1_M Q E) (ue_q1 Q E))

@[reducible] noncomputable def ue_p3 : Code := sA ue_p1

@[reducible] noncomputable def ue_p4 : Code := sB ue_p3

@[reducible] noncomputable def ue_q3 (Q : QT) (E : ET) : Exit → Tau → Heap → Prop := (xblock 0 (ue_q2 Q E))

@[reducible] noncomputable def ue_p5 : Code := sI ue_p4

@[reducible] noncomputable def ue_q4 (nx19 : Int → HP) (Q : QT) (E : ET) : Exit → Tau → Heap → Prop := (xthen (fun τ H => mI .i64 (τ 7) fun x7' => nx19 x7' H) (ue_q3 Q E))

@[reducible] noncomputable def ue_p6 : Code := sI ue_p5

@[reducible] noncomputable def ue_p7 : Code := sB ue_p6

def ue_3 (nx19 : Int → HP) (Q : QT) (E : ET) (x2 : Int) (x3 : OA) (x6 : OA) (x7 : Int) (H : Heap) : Prop :=
 (64 : Int) ≠ 0 ∧ ptr x3 fun q20 =>
 (0 ≤ ((IntKind.wrap .i64 (Int.tdiv x7 64)) : Int) ∧ ((IntKind.wrap .i64 (Int.tdiv x7 64)) : Int) < ((4 : Nat) : Int)) ∧ ldI .u64 (Addr.add q20 (((IntKind.wrap .i64 (Int.tdiv x7 64)) : Int).toNat * 1)) H fun n21 =>
 (64 : Int) ≠ 0 ∧ 0 ≤ ((Int.tmod x7 64) : Int) ∧ ptr x3 fun q22 =>
 (0 ≤ ((IntKind.wrap .i64 (Int.tdiv x7 64)) : Int) ∧ ((IntKind.wrap .i64 (Int.tdiv x7 64)) : Int) < ((4 : Nat) : Int)) ∧ wr (Addr.add q22 (((IntKind.wrap .i64 (Int.tdiv x7 64)) : Int).toNat * 1)) [(.int .u64 (IntKind.wrap .u64 (BitVec.ofInt (IntKind.bits .u64) n21 ||| BitVec.ofInt (IntKind.bits .u64) (IntKind.wrap .u64 (1 * 2 ^ min ((Int.tmod x7 64) : Int).toNat (IntKind.bits .u64)))).toNat))] H fun H23 =>
 nx19 (IntKind.wrap .i64 (x7 + 1)) H23

def ue_3_M (nx19 : Int → HP) (Q : QT) (E : ET) (τ : Tau) (H : Heap) : Prop := mI .u8 (τ 2) fun x2 => mP (τ 3) fun x3 => mP (τ 6) fun x6 => mI .i64 (τ 7) fun x7 => ue_3 nx19 Q E x2 x3 x6 x7 H

theorem ue_4ok (nx19 : Int → HP) (Q : QT) (E : ET) (τ : Tau) (H : Heap) (h : ue_3_M nx19 Q E τ H) : vc Pr ue_p7 τ (ue_q4 nx19 Q E) E H :=
  vI (i := 2) h (fun x2 h => vP (i := 3) h (fun x3 h => vP (i := 6) h (fun x6 h => vI (i := 7) h (fun x7 h => (conv (by kernel_rfl) h)))))

@[reducible] noncomputable def ue_q5 (nx19 : Int → HP) (Q : QT) (E : ET) : Exit → Tau → Heap → Prop := (xthen (ue_3_M nx19 Q E) (ue_q4 nx19 Q E))

@[reducible] noncomputable def ue_p8 : Code := sA ue_p6

def ue_5 (nx19 : Int → HP) (Q : QT) (E : ET) (x2 : Int) (x3 : OA) (x6 : OA) (x7 : Int) (H : Heap) : Prop :=
 sel (decide ((x7 : Int) ≤ (IntKind.wrap .i64 x2)))
 (ue_3 nx19 Q E x2 x3 x6 x7 H)
 (ue_1 Q E x3 x6 H)

def ue_5_M (nx19 : Int → HP) (Q : QT) (E : ET) (τ : Tau) (H : Heap) : Prop := mI .u8 (τ 2) fun x2 => mP (τ 3) fun x3 => mP (τ 6) fun x6 => mI .i64 (τ 7) fun x7 => ue_5 nx19 Q E x2 x3 x6 x7 H

theorem ue_6ok (nx19 : Int → HP) (Q : QT) (E : ET) (τ : Tau) (H : Heap) (h : ue_5_M nx19 Q E τ H) : vc Pr ue_p8 τ (ue_q5 nx19 Q E) E H :=
  vI (i := 2) h (fun x2 h => vP (i := 3) h (fun x3 h => vP (i := 6) h (fun x6 h => vI (i := 7) h (fun x7 h => (conv (by kernel_rfl) h)))))

theorem ue_7ok (nx19 : Int → HP) (Q : QT) (E : ET) (τ : Tau) (H : Heap) (h : ue_5_M nx19 Q E τ H) : vc Pr ue_p6 τ (ue_q4 nx19 Q E) E H :=
  (conv (B := vc Pr ue_p6 τ (ue_q4 nx19 Q E) E H) (by kernel_rfl) (vc_seq (K := (ue_3_M nx19 Q E)) (ue_6ok nx19 Q E τ H h) (ue_4ok nx19 Q E)))

def ue_8 (Q : QT) (E : ET) (x2 : Int) (x3 : OA) (x6 : OA) (x7 : Int) (H : Heap) : Prop :=
 ∃ (I : Int → HP) (μ : Int → Heap → Nat), I x7 H ∧ ∀ (x7 : Int) (H : Heap), I x7 H →
 ue_5 (fun x7' H1 => I x7' H1 ∧ μ x7' H1 < μ x7 H) Q E x2 x3 x6 x7 H

def ue_8_M (Q : QT) (E : ET) (τ : Tau) (H : Heap) : Prop := mI .u8 (τ 2) fun x2 => mP (τ 3) fun x3 => mP (τ 6) fun x6 => mI .i64 (τ 7) fun x7 => ue_8 Q E x2 x3 x6 x7 H

theorem ue_9ok (Q : QT) (E : ET) (τ : Tau) (H : Heap) (h : ue_8_M Q E τ H) : vc Pr ue_p5 τ (ue_q3 Q E) E H :=
  vI (i := 2) h (fun x2 h => vP (i := 3) h (fun x3 h => vP (i := 6) h (fun x6 h => vI (i := 7) h (fun x7 h => match h with | ⟨I, μ, h0, hr⟩ => (conv (B := vc Pr ue_p5 (Tau.upd (Tau.upd (Tau.upd (Tau.upd τ 2 (.int .u8 x2)) 3 (.pointer x3)) 6 (.pointer x6)) 7 (.int .i64 x7)) (ue_q3 Q E) E H) (by kernel_rfl) (vc_loop (c := sI ue_p5) (τ := (Tau.upd (Tau.upd (Tau.upd (Tau.upd τ 2 (.int .u8 x2)) 3 (.pointer x3)) 6 (.pointer x6)) 7 (.int .i64 x7))) [2, 3, 6] (fun τ H => mI .i64 (τ 7) fun x7' => I x7' H) (fun τ H => μ (gI (τ 7)) H) (by kernel_rfl) h0 (fun τ1 H1 hf hI => fix_elim (τ := τ1) (i := 2) (v := (.int .u8 x2)) (G := fun τ => vc Pr (sI ue_p5) τ (xthen (fun τ2 H2 => (mI .i64 (τ2 7) fun x7' => I x7' H2) ∧ μ (gI (τ2 7)) H2 < μ (gI (τ 7)) H1) (ue_q3 Q E)) E H1) (hf 2 (by simp)) (fix_elim (τ := (Tau.upd τ1 2 (.int .u8 x2))) (i := 3) (v := (.pointer x3)) (G := fun τ => vc Pr (sI ue_p5) τ (xthen (fun τ2 H2 => (mI .i64 (τ2 7) fun x7' => I x7' H2) ∧ μ (gI (τ2 7)) H2 < μ (gI (τ 7)) H1) (ue_q3 Q E)) E H1) (hf 3 (by simp)) (fix_elim (τ := (Tau.upd (Tau.upd τ1 2 (.int .u8 x2)) 3 (.pointer x3))) (i := 6) (v := (.pointer x6)) (G := fun τ => vc Pr (sI ue_p5) τ (xthen (fun τ2 H2 => (mI .i64 (τ2 7) fun x7' => I x7' H2) ∧ μ (gI (τ2 7)) H2 < μ (gI (τ 7)) H1) (ue_q3 Q E)) E H1) (hf 6 (by simp)) (mI_elim (i := 7) (G := fun τ => vc Pr (sI ue_p5) τ (xthen (fun τ2 H2 => (mI .i64 (τ2 7) fun x7' => I x7' H2) ∧ μ (gI (τ2 7)) H2 < μ (gI (τ 7)) H1) (ue_q3 Q E)) E H1) hI (fun x7r h => (conv (B := vc Pr (sI ue_p5) (Tau.upd (Tau.upd (Tau.upd (Tau.upd τ1 2 (.int .u8 x2)) 3 (.pointer x3)) 6 (.pointer x6)) 7 (.int .i64 x7r)) (xthen (fun τ2 H2 => (mI .i64 (τ2 7) fun x7' => I x7' H2) ∧ μ (gI (τ2 7)) H2 < μ (gI ((Tau.upd (Tau.upd (Tau.upd (Tau.upd τ1 2 (.int .u8 x2)) 3 (.pointer x3)) 6 (.pointer x6)) 7 (.int .i64 x7r)) 7)) H1) (ue_q3 Q E)) E H1) (by kernel_rfl) (vc_xthen (ue_7ok (fun x7' H2 => I x7' H2 ∧ μ x7' H2 < μ x7r H1) Q E (Tau.upd (Tau.upd (Tau.upd (Tau.upd τ1 2 (.int .u8 x2)) 3 (.pointer x3)) 6 (.pointer x6)) 7 (.int .i64 x7r)) H1 (conv (B := ue_5_M (fun x7' H2 => I x7' H2 ∧ μ x7' H2 < μ x7r H1) Q E (Tau.upd (Tau.upd (Tau.upd (Tau.upd τ1 2 (.int .u8 x2)) 3 (.pointer x3)) 6 (.pointer x6)) 7 (.int .i64 x7r)) H1) (by kernel_rfl) (hr x7r H1 h))) (fun τ2 H2 hk => mI_elim (i := 7) (G := fun τ => (mI .i64 (τ 7) fun x7' => I x7' H2) ∧ μ (gI (τ 7)) H2 < μ x7r H1) hk (fun x7' h => h)))))))))))))))

theorem ue_10ok (Q : QT) (E : ET) (τ : Tau) (H : Heap) (h : ue_8_M Q E τ H) : vc Pr ue_p4 τ (ue_q2 Q E) E H :=
  (conv (B := vc Pr ue_p4 τ (ue_q2 Q E) E H) (by kernel_rfl) (ue_9ok Q E τ H h))

@[reducible] noncomputable def ue_q6 (Q : QT) (E : ET) : Exit → Tau → Heap → Prop := (xthen (ue_8_M Q E) (ue_q2 Q E))

@[reducible] noncomputable def ue_p9 : Code := sA ue_p3

def ue_11 (Q : QT) (E : ET) (x1 : Int) (x2 : Int) (x3 : OA) (x6 : OA) (H : Heap) : Prop :=
 ue_8 Q E x2 x3 x6 (IntKind.wrap .i64 x1) H

def ue_11_M (Q : QT) (E : ET) (τ : Tau) (H : Heap) : Prop := mI .u8 (τ 1) fun x1 => mI .u8 (τ 2) fun x2 => mP (τ 3) fun x3 => mP (τ 6) fun x6 => ue_11 Q E x1 x2 x3 x6 H

theorem ue_12ok (Q : QT) (E : ET) (τ : Tau) (H : Heap) (h : ue_11_M Q E τ H) : vc Pr ue_p9 τ (ue_q6 Q E) E H :=
  vI (i := 1) h (fun x1 h => vI (i := 2) h (fun x2 h => vP (i := 3) h (fun x3 h => vP (i := 6) h (fun x6 h => (conv (by kernel_rfl) h)))))

theorem ue_13ok (Q : QT) (E : ET) (τ : Tau) (H : Heap) (h : ue_11_M Q E τ H) : vc Pr ue_p3 τ (ue_q2 Q E) E H :=
  (conv (B := vc Pr ue_p3 τ (ue_q2 Q E) E H) (by kernel_rfl) (vc_seq (K := (ue_8_M Q E)) (ue_12ok Q E τ H h) (ue_10ok Q E)))

theorem ue_14ok (Q : QT) (E : ET) (τ : Tau) (H : Heap) (h : ue_11_M Q E τ H) : vc Pr ue_p1 τ (ue_q1 Q E) E H :=
  (conv (B := vc Pr ue_p1 τ (ue_q1 Q E) E H) (by kernel_rfl) (vc_seq (K := (ue_1_M Q E)) (ue_13ok Q E τ H h) (ue_2ok Q E)))

@[reducible] noncomputable def ue_q7 (Q : QT) (E : ET) : Exit → Tau → Heap → Prop := (xthen (ue_11_M Q E) (ue_q1 Q E))

@[reducible] noncomputable def ue_p10 : Code := sA ue_p0

def ue (Q : QT) (E : ET) (a0_0 : Int) (a0_1 : Int) (a0_2 : Int) (a0_3 : Int) (a1 : Int) (a2 : Int) (H : Heap) : Prop :=
 nw (.cells #[(.int .u64 a0_0), (.int .u64 a0_1), (.int .u64 a0_2), (.int .u64 a0_3)] 46 (0, 0)) H fun i24 H25 =>
 nw (.cells #[(.int .u64 0), (.int .u64 0), (.int .u64 0), (.int .u64 0)] 46 (0, 0)) H25 fun i26 H27 =>
 ue_11 Q E a1 a2 (some ⟨i24, 0, none⟩) (some ⟨i26, 0, none⟩) H27

theorem ue_fn (a0_0 : Int) (a0_1 : Int) (a0_2 : Int) (a0_3 : Int) (a1 : Int) (a2 : Int) (Q : QT) (E : ET) (H : Heap) (h : ue Q E a0_0 a0_1 a0_2 a0_3 a1 a2 H)   : Does Pr 115 #[(.agg #[(.int .u64 a0_0), (.int .u64 a0_1), (.int .u64 a0_2), (.int .u64 a0_3)]), (.int .u8 a1), (.int .u8 a2)] H Q E :=
  Fn_of_vc (fn := Try.f115) (c := ue_p0) (args := [(.agg #[(.int .u64 a0_0), (.int .u64 a0_1), (.int .u64 a0_2), (.int .u64 a0_3)]), (.int .u8 a1), (.int .u8 a2)]) mixed (by kernel_rfl) (by kernel_rfl) (by kernel_rfl) (by kernel_rfl) (by kernel_rfl) ((conv (B := vc Pr ue_p0 (argT [(.agg #[(.int .u64 a0_0), (.int .u64 a0_1), (.int .u64 a0_2), (.int .u64 a0_3)]), (.int .u8 a1), (.int .u8 a2)]) (ue_q1 Q E) E H) (by kernel_rfl) (vc_seq (K := (ue_11_M Q E)) (conv (B := vc Pr ue_p10 (argT [(.agg #[(.int .u64 a0_0), (.int .u64 a0_1), (.int .u64 a0_2), (.int .u64 a0_3)]), (.int .u8 a1), (.int .u8 a2)]) (ue_q7 Q E) E H) (by kernel_rfl) h) (ue_14ok Q E))))

/-! (*jobmux/regex.parser).member -/
@[reducible] noncomputable def uf_q1 (Q : QT) (E : ET) : Exit → Tau → Heap → Prop := (retQ Pr (Try.f119).results.toList Q)

@[reducible] noncomputable def uf_p0 : Code := bodyOf Try.f119

@[reducible] noncomputable def uf_p1 : Code := sB uf_p0

@[reducible] noncomputable def uf_p2 : Code := sB uf_p1

@[reducible] noncomputable def uf_p3 : Code := sB uf_p2

def uf_1 (Q : QT) (E : ET) (x0 : OA) (x3 : OA) (x5 : Int) (H : Heap) : Prop :=
 ptr x0 fun q20 =>
 ldI .i64 (Addr.add q20 1) H fun n21 =>
 ptr x0 fun q22 =>
 wr (Addr.add q22 1) [(.int .i64 (IntKind.wrap .i64 (n21 + 1)))] H fun H23 =>
 Does Pr 115 #[(.agg #[(.int .u64 0), (.int .u64 0), (.int .u64 0), (.int .u64 0)]), (.int .u8 x5), (.int .u8 x5)] H23 (fun v24 H25 =>
 ∃ n26 n27 n28 n29 : Int, v24 = (.agg #[(.int .u64 n26), (.int .u64 n27), (.int .u64 n28), (.int .u64 n29)]) ∧ ptr x3 fun q31 =>
 wr q31 [(.int .u64 n26), (.int .u64 n27), (.int .u64 n28), (.int .u64 n29)] H25 fun H30 =>
 ptr x3 fun q32 =>
 ∃ n33 n34 n35 n36 : Int, Heap.rd H30 q32 0 [(.int .u64 n33), (.int .u64 n34), (.int .u64 n35), (.int .u64 n36)] ∧ Q (.tuple #[(.int .u8 x5), (.agg #[(.int .u64 n33), (.int .u64 n34), (.int .u64 n35), (.int .u64 n36)]), (.bool false)]) H30) E

def uf_1_M (Q : QT) (E : ET) (τ : Tau) (H : Heap) : Prop := mP (τ 0) fun x0 => mP (τ 3) fun x3 => mI .u8 (τ 5) fun x5 => uf_1 Q E x0 x3 x5 H

theorem uf_2ok (Q : QT) (E : ET) (τ : Tau) (H : Heap) (h : uf_1_M Q E τ H) : vc Pr uf_p3 τ (uf_q1 Q E) E H :=
  vP (i := 0) h (fun x0 h => vP (i := 3) h (fun x3 h => vI (i := 5) h (fun x5 h => (conv (by kernel_rfl) h))))

@[reducible] noncomputable def uf_q2 (Q : QT) (E : ET) : Exit → Tau → Heap → Prop := (xthen (uf_1_M Q E) (uf_q1 Q E))

@[reducible] noncomputable def uf_p4 : Code := sA uf_p2

@[reducible] noncomputable def uf_q3 (Q : QT) (E : ET) : Exit → Tau → Heap → Prop := (xblock 0 (uf_q2 Q E))

@[reducible] noncomputable def uf_p5 : Code := sI uf_p4

@[reducible] noncomputable def uf_p6 : Code := sB uf_p5

def uf_3 (Q : QT) (E : ET) (x0 : OA) (x3 : OA) (x5 : Int) (x12 : Bool) (H : Heap) : Prop :=
 sel x12
 (Does Pr 103 #[(.pointer x0), (.int .i64 80)] H (fun v37 H38 =>
 ∃ n39 : Int, v37 = (.int .i64 n39) ∧ ptr x3 fun q41 =>
 wr q41 [(.int .u64 0), (.int .u64 0), (.int .u64 0), (.int .u64 0)] H38 fun H40 =>
 ptr x3 fun q42 =>
 ∃ n43 n44 n45 n46 : Int, Heap.rd H40 q42 0 [(.int .u64 n43), (.int .u64 n44), (.int .u64 n45), (.int .u64 n46)] ∧ Q (.tuple #[(.int .u8 0), (.agg #[(.int .u64 n43), (.int .u64 n44), (.int .u64 n45), (.int .u64 n46)]), (.bool false)]) H40) E)
 (sel ((x5 : Int) == 92)
 (Does Pr 114 #[(.pointer x0)] H (fun v47 H48 =>
 ∃ n49 n50 n51 n52 n53 : Int, ∃ b54 : Bool, v47 = (.tuple #[(.int .u8 n49), (.agg #[(.int .u64 n50), (.int .u64 n51), (.int .u64 n52), (.int .u64 n53)]), (.bool b54)]) ∧ ptr x3 fun q56 =>
 wr q56 [(.int .u64 n50), (.int .u64 n51), (.int .u64 n52), (.int .u64 n53)] H48 fun H55 =>
 ptr x3 fun q57 =>
 ∃ n58 n59 n60 n61 : Int, Heap.rd H55 q57 0 [(.int .u64 n58), (.int .u64 n59), (.int .u64 n60), (.int .u64 n61)] ∧ Q (.tuple #[(.int .u8 n49), (.agg #[(.int .u64 n58), (.int .u64 n59), (.int .u64 n60), (.int .u64 n61)]), (.bool b54)]) H55) E)
 (uf_1 Q E x0 x3 x5 H))

def uf_3_M (Q : QT) (E : ET) (τ : Tau) (H : Heap) : Prop := mP (τ 0) fun x0 => mP (τ 3) fun x3 => mI .u8 (τ 5) fun x5 => mB (τ 12) fun x12 => uf_3 Q E x0 x3 x5 x12 H

theorem uf_4ok (Q : QT) (E : ET) (τ : Tau) (H : Heap) (h : uf_3_M Q E τ H) : vc Pr uf_p6 τ (uf_q3 Q E) E H :=
  vP (i := 0) h (fun x0 h => vP (i := 3) h (fun x3 h => vI (i := 5) h (fun x5 h => vB (i := 12) h (fun x12 h => (conv (by kernel_rfl) h)))))

@[reducible] noncomputable def uf_q4 (Q : QT) (E : ET) : Exit → Tau → Heap → Prop := (xthen (uf_3_M Q E) (uf_q3 Q E))

@[reducible] noncomputable def uf_p7 : Code := sA uf_p5

def uf_5 (Q : QT) (E : ET) (x0 : OA) (x3 : OA) (x5 : Int) (x6 : Bool) (H : Heap) : Prop :=
 sel (!x6)
 (uf_3 Q E x0 x3 x5 true H)
 (sel ((x5 : Int) == 93)
 (uf_3 Q E x0 x3 x5 true H)
 (sel ((x5 : Int) == 94)
 (uf_3 Q E x0 x3 x5 true H)
 (uf_3 Q E x0 x3 x5 ((x5 : Int) == 45) H)))

def uf_5_M (Q : QT) (E : ET) (τ : Tau) (H : Heap) : Prop := mP (τ 0) fun x0 => mP (τ 3) fun x3 => mI .u8 (τ 5) fun x5 => mB (τ 6) fun x6 => uf_5 Q E x0 x3 x5 x6 H

theorem uf_6ok (Q : QT) (E : ET) (τ : Tau) (H : Heap) (h : uf_5_M Q E τ H) : vc Pr uf_p7 τ (uf_q4 Q E) E H :=
  vP (i := 0) h (fun x0 h => vP (i := 3) h (fun x3 h => vI (i := 5) h (fun x5 h => vB (i := 6) h (fun x6 h => (conv (by kernel_rfl) h)))))

theorem uf_7ok (Q : QT) (E : ET) (τ : Tau) (H : Heap) (h : uf_5_M Q E τ H) : vc Pr uf_p5 τ (uf_q3 Q E) E H :=
  (conv (B := vc Pr uf_p5 τ (uf_q3 Q E) E H) (by kernel_rfl) (vc_seq (K := (uf_3_M Q E)) (uf_6ok Q E τ H h) (uf_4ok Q E)))

theorem uf_8ok (Q : QT) (E : ET) (τ : Tau) (H : Heap) (h : uf_5_M Q E τ H) : vc Pr uf_p4 τ (uf_q2 Q E) E H :=
  (conv (B := vc Pr uf_p4 τ (uf_q2 Q E) E H) (by kernel_rfl) (uf_7ok Q E τ H h))

theorem uf_9ok (Q : QT) (E : ET) (τ : Tau) (H : Heap) (h : uf_5_M Q E τ H) : vc Pr uf_p2 τ (uf_q1 Q E) E H :=
  (conv (B := vc Pr uf_p2 τ (uf_q1 Q E) E H) (by kernel_rfl) (vc_seq (K := (uf_1_M Q E)) (uf_8ok Q E τ H h) (uf_2ok Q E)))

@[reducible] noncomputable def uf_q5 (Q : QT) (E : ET) : Exit → Tau → Heap → Prop := (xthen (uf_5_M Q E) (uf_q1 Q E))

@[reducible] noncomputable def uf_p8 : Code := sA uf_p1

def uf_10 (Q : QT) (E : ET) (x0 : OA) (x3 : OA) (H : Heap) : Prop :=
 Does Pr 94 #[(.pointer x0)] H (fun v62 H63 =>
 ∃ n64 : Int, ∃ b65 : Bool, v62 = (.tuple #[(.int .u8 n64), (.bool b65)]) ∧ uf_5 Q E x0 x3 n64 b65 H63) E

def uf_10_M (Q : QT) (E : ET) (τ : Tau) (H : Heap) : Prop := mP (τ 0) fun x0 => mP (τ 3) fun x3 => uf_10 Q E x0 x3 H

theorem uf_11ok (Q : QT) (E : ET) (τ : Tau) (H : Heap) (h : uf_10_M Q E τ H) : vc Pr uf_p8 τ (uf_q5 Q E) E H :=
  vP (i := 0) h (fun x0 h => vP (i := 3) h (fun x3 h => (conv (by kernel_rfl) h)))

theorem uf_12ok (Q : QT) (E : ET) (τ : Tau) (H : Heap) (h : uf_10_M Q E τ H) : vc Pr uf_p1 τ (uf_q1 Q E) E H :=
  (conv (B := vc Pr uf_p1 τ (uf_q1 Q E) E H) (by kernel_rfl) (vc_seq (K := (uf_5_M Q E)) (uf_11ok Q E τ H h) (uf_9ok Q E)))

@[reducible] noncomputable def uf_q6 (Q : QT) (E : ET) : Exit → Tau → Heap → Prop := (xthen (uf_10_M Q E) (uf_q1 Q E))

@[reducible] noncomputable def uf_p9 : Code := sA uf_p0

def uf (Q : QT) (E : ET) (a0 : OA) (H : Heap) : Prop :=
 nw (.cells #[(.int .u64 0), (.int .u64 0), (.int .u64 0), (.int .u64 0)] 46 (0, 0)) H fun i66 H67 =>
 uf_10 Q E a0 (some ⟨i66, 0, none⟩) H67

theorem uf_fn (a0 : OA) (Q : QT) (E : ET) (H : Heap) (h : uf Q E a0 H)   : Does Pr 119 #[(.pointer a0)] H Q E :=
  Fn_of_vc (fn := Try.f119) (c := uf_p0) (args := [(.pointer a0)]) mixed (by kernel_rfl) (by kernel_rfl) (by kernel_rfl) (by kernel_rfl) (by kernel_rfl) ((conv (B := vc Pr uf_p0 (argT [(.pointer a0)]) (uf_q1 Q E) E H) (by kernel_rfl) (vc_seq (K := (uf_10_M Q E)) (conv (B := vc Pr uf_p9 (argT [(.pointer a0)]) (uf_q6 Q E) E H) (by kernel_rfl) h) (uf_12ok Q E))))

/-! jobmux/regex.named -/
@[reducible] noncomputable def ug_q1 (Q : QT) (E : ET) : Exit → Tau → Heap → Prop := (retQ Pr (Try.f120).results.toList Q)

@[reducible] noncomputable def ug_p0 : Code := bodyOf Try.f120

@[reducible] noncomputable def ug_p1 : Code := sB ug_p0

@[reducible] noncomputable def ug_p2 : Code := sB ug_p1

@[reducible] noncomputable def ug_p3 : Code := sB ug_p2

def ug_1 (Q : QT) (E : ET) (x2 : OA) (H : Heap) : Prop :=
 ptr x2 fun q48 =>
 wr q48 [(.int .u64 0), (.int .u64 0), (.int .u64 0), (.int .u64 0)] H fun H47 =>
 ptr x2 fun q49 =>
 ∃ n50 n51 n52 n53 : Int, Heap.rd H47 q49 0 [(.int .u64 n50), (.int .u64 n51), (.int .u64 n52), (.int .u64 n53)] ∧ Q (.tuple #[(.agg #[(.int .u64 n50), (.int .u64 n51), (.int .u64 n52), (.int .u64 n53)]), (.bool false)]) H47

def ug_1_M (Q : QT) (E : ET) (τ : Tau) (H : Heap) : Prop := mP (τ 2) fun x2 => ug_1 Q E x2 H

theorem ug_2ok (Q : QT) (E : ET) (τ : Tau) (H : Heap) (h : ug_1_M Q E τ H) : vc Pr ug_p3 τ (ug_q1 Q E) E H :=
  vP (i := 2) h (fun x2 h => (conv (by kernel_rfl) h))

@[reducible] noncomputable def ug_q2 (Q : QT) (E : ET) : Exit → Tau → Heap → Prop := (xthen (ug_1_M Q E) (ug_q1 Q E))

@[reducible] noncomputable def ug_p4 : Code := sA ug_p2

def ug_3 (Q : QT) (E : ET) (x0 : Int) (x2 : OA) (x4 : OA) (H : Heap) : Prop :=
 sel ((x0 : Int) == 100)
 (ptr x4 fun q54 =>
 ∃ n55 n56 n57 n58 : Int, Heap.rd H q54 0 [(.int .u64 n55), (.int .u64 n56), (.int .u64 n57), (.int .u64 n58)] ∧ ptr x2 fun q60 =>
 wr q60 [(.int .u64 n55), (.int .u64 n56), (.int .u64 n57), (.int .u64 n58)] H fun H59 =>
 ptr x2 fun q61 =>
 ∃ n62 n63 n64 n65 : Int, Heap.rd H59 q61 0 [(.int .u64 n62), (.int .u64 n63), (.int .u64 n64), (.int .u64 n65)] ∧ Q (.tuple #[(.agg #[(.int .u64 n62), (.int .u64 n63), (.int .u64 n64), (.int .u64 n65)]), (.bool true)]) H59)
 (sel ((x0 : Int) == 119)
 (ptr x4 fun q66 =>
 ∃ n67 n68 n69 n70 : Int, Heap.rd H q66 0 [(.int .u64 n67), (.int .u64 n68), (.int .u64 n69), (.int .u64 n70)] ∧ Does Pr 115 #[(.agg #[(.int .u64 n67), (.int .u64 n68), (.int .u64 n69), (.int .u64 n70)]), (.int .u8 97), (.int .u8 122)] H (fun v71 H72 =>
 ∃ n73 n74 n75 n76 : Int, v71 = (.agg #[(.int .u64 n73), (.int .u64 n74), (.int .u64 n75), (.int .u64 n76)]) ∧ Does Pr 115 #[(.agg #[(.int .u64 n73), (.int .u64 n74), (.int .u64 n75), (.int .u64 n76)]), (.int .u8 65), (.int .u8 90)] H72 (fun v77 H78 =>
 ∃ n79 n80 n81 n82 : Int, v77 = (.agg #[(.int .u64 n79), (.int .u64 n80), (.int .u64 n81), (.int .u64 n82)]) ∧ Does Pr 115 #[(.agg #[(.int .u64 n79), (.int .u64 n80), (.int .u64 n81), (.int .u64 n82)]), (.int .u8 95), (.int .u8 95)] H78 (fun v83 H84 =>
 ∃ n85 n86 n87 n88 : Int, v83 = (.agg #[(.int .u64 n85), (.int .u64 n86), (.int .u64 n87), (.int .u64 n88)]) ∧ ptr x2 fun q90 =>
 wr q90 [(.int .u64 n85), (.int .u64 n86), (.int .u64 n87), (.int .u64 n88)] H84 fun H89 =>
 ptr x2 fun q91 =>
 ∃ n92 n93 n94 n95 : Int, Heap.rd H89 q91 0 [(.int .u64 n92), (.int .u64 n93), (.int .u64 n94), (.int .u64 n95)] ∧ Q (.tuple #[(.agg #[(.int .u64 n92), (.int .u64 n93), (.int .u64 n94), (.int .u64 n95)]), (.bool true)]) H89) E) E) E)
 (sel ((x0 : Int) == 115)
 (Does Pr 112 #[(.string ⟨[32, 9, 13, 10].toArray⟩)] H (fun v96 H97 =>
 ∃ n98 n99 n100 n101 : Int, v96 = (.agg #[(.int .u64 n98), (.int .u64 n99), (.int .u64 n100), (.int .u64 n101)]) ∧ ptr x2 fun q103 =>
 wr q103 [(.int .u64 n98), (.int .u64 n99), (.int .u64 n100), (.int .u64 n101)] H97 fun H102 =>
 ptr x2 fun q104 =>
 ∃ n105 n106 n107 n108 : Int, Heap.rd H102 q104 0 [(.int .u64 n105), (.int .u64 n106), (.int .u64 n107), (.int .u64 n108)] ∧ Q (.tuple #[(.agg #[(.int .u64 n105), (.int .u64 n106), (.int .u64 n107), (.int .u64 n108)]), (.bool true)]) H102) E)
 (ug_1 Q E x2 H)))

def ug_3_M (Q : QT) (E : ET) (τ : Tau) (H : Heap) : Prop := mI .u8 (τ 0) fun x0 => mP (τ 2) fun x2 => mP (τ 4) fun x4 => ug_3 Q E x0 x2 x4 H

theorem ug_4ok (Q : QT) (E : ET) (τ : Tau) (H : Heap) (h : ug_3_M Q E τ H) : vc Pr ug_p4 τ (ug_q2 Q E) E H :=
  vI (i := 0) h (fun x0 h => vP (i := 2) h (fun x2 h => vP (i := 4) h (fun x4 h => (conv (by kernel_rfl) h))))

theorem ug_5ok (Q : QT) (E : ET) (τ : Tau) (H : Heap) (h : ug_3_M Q E τ H) : vc Pr ug_p2 τ (ug_q1 Q E) E H :=
  (conv (B := vc Pr ug_p2 τ (ug_q1 Q E) E H) (by kernel_rfl) (vc_seq (K := (ug_1_M Q E)) (ug_4ok Q E τ H h) (ug_2ok Q E)))

@[reducible] noncomputable def ug_q3 (Q : QT) (E : ET) : Exit → Tau → Heap → Prop := (xthen (ug_3_M Q E) (ug_q1 Q E))

@[reducible] noncomputable def ug_p5 : Code := sA ug_p1

def ug_6 (Q : QT) (E : ET) (x0 : Int) (x2 : OA) (H : Heap) : Prop :=
 Does Pr 115 #[(.agg #[(.int .u64 0), (.int .u64 0), (.int .u64 0), (.int .u64 0)]), (.int .u8 48), (.int .u8 57)] H (fun v109 H110 =>
 ∃ n111 n112 n113 n114 : Int, v109 = (.agg #[(.int .u64 n111), (.int .u64 n112), (.int .u64 n113), (.int .u64 n114)]) ∧ nw (.cells #[(.int .u64 0), (.int .u64 0), (.int .u64 0), (.int .u64 0)] 46 (0, 0)) H110 fun i115 H116 =>
 wr ⟨i115, 0, none⟩ [(.int .u64 n111), (.int .u64 n112), (.int .u64 n113), (.int .u64 n114)] H116 fun H117 =>
 ug_3 Q E x0 x2 (some ⟨i115, 0, none⟩) H117) E

def ug_6_M (Q : QT) (E : ET) (τ : Tau) (H : Heap) : Prop := mI .u8 (τ 0) fun x0 => mP (τ 2) fun x2 => ug_6 Q E x0 x2 H

theorem ug_7ok (Q : QT) (E : ET) (τ : Tau) (H : Heap) (h : ug_6_M Q E τ H) : vc Pr ug_p5 τ (ug_q3 Q E) E H :=
  vI (i := 0) h (fun x0 h => vP (i := 2) h (fun x2 h => (conv (by kernel_rfl) h)))

theorem ug_8ok (Q : QT) (E : ET) (τ : Tau) (H : Heap) (h : ug_6_M Q E τ H) : vc Pr ug_p1 τ (ug_q1 Q E) E H :=
  (conv (B := vc Pr ug_p1 τ (ug_q1 Q E) E H) (by kernel_rfl) (vc_seq (K := (ug_3_M Q E)) (ug_7ok Q E τ H h) (ug_5ok Q E)))

@[reducible] noncomputable def ug_q4 (Q : QT) (E : ET) : Exit → Tau → Heap → Prop := (xthen (ug_6_M Q E) (ug_q1 Q E))

@[reducible] noncomputable def ug_p6 : Code := sA ug_p0

def ug (Q : QT) (E : ET) (a0 : Int) (H : Heap) : Prop :=
 nw (.cells #[(.int .u64 0), (.int .u64 0), (.int .u64 0), (.int .u64 0)] 46 (0, 0)) H fun i118 H119 =>
 ug_6 Q E a0 (some ⟨i118, 0, none⟩) H119

theorem ug_fn (a0 : Int) (Q : QT) (E : ET) (H : Heap) (h : ug Q E a0 H)   : Does Pr 120 #[(.int .u8 a0)] H Q E :=
  Fn_of_vc (fn := Try.f120) (c := ug_p0) (args := [(.int .u8 a0)]) mixed (by kernel_rfl) (by kernel_rfl) (by kernel_rfl) (by kernel_rfl) (by kernel_rfl) ((conv (B := vc Pr ug_p0 (argT [(.int .u8 a0)]) (ug_q1 Q E) E H) (by kernel_rfl) (vc_seq (K := (ug_6_M Q E)) (conv (B := vc Pr ug_p6 (argT [(.int .u8 a0)]) (ug_q4 Q E) E H) (by kernel_rfl) h) (ug_8ok Q E))))

/-! jobmux/regex.single -/
@[reducible] noncomputable def uh_q1 (Q : QT) (E : ET) : Exit → Tau → Heap → Prop := (retQ Pr (Try.f121).results.toList Q)

@[reducible] noncomputable def uh_p0 : Code := bodyOf Try.f121

@[reducible] noncomputable def uh_p1 : Code := sB uh_p0

@[reducible] noncomputable def uh_p2 : Code := sB uh_p1

def uh_1 (Q : QT) (E : ET)  (H : Heap) : Prop :=
 Q (.tuple #[(.int .u8 0), (.bool false)]) H

def uh_1_M (Q : QT) (E : ET) (τ : Tau) (H : Heap) : Prop := uh_1 Q E  H

theorem uh_2ok (Q : QT) (E : ET) (τ : Tau) (H : Heap) (h : uh_1_M Q E τ H) : vc Pr uh_p2 τ (uh_q1 Q E) E H :=
  (conv (B := vc Pr uh_p2 τ (uh_q1 Q E) E H) (by kernel_rfl) h)

@[reducible] noncomputable def uh_q2 (Q : QT) (E : ET) : Exit → Tau → Heap → Prop := (xthen (uh_1_M Q E) (uh_q1 Q E))

@[reducible] noncomputable def uh_p3 : Code := sA uh_p1

@[reducible] noncomputable def uh_q3 (Q : QT) (E : ET) : Exit → Tau → Heap → Prop := (xblock 0 (uh_q2 Q E))

@[reducible] noncomputable def uh_p4 : Code := sI uh_p3

@[reducible] noncomputable def uh_p5 : Code := sB uh_p4

@[reducible] noncomputable def uh_p6 : Code := sT uh_p5

def uh_3 (Q : QT) (E : ET)  (H : Heap) : Prop :=
 Q (.tuple #[(.int .u8 10), (.bool true)]) H

def uh_3_M (Q : QT) (E : ET) (τ : Tau) (H : Heap) : Prop := uh_3 Q E  H

theorem uh_4ok (Q : QT) (E : ET) (τ : Tau) (H : Heap) (h : uh_3_M Q E τ H) : vc Pr uh_p6 τ (uh_q3 Q E) E H :=
  (conv (B := vc Pr uh_p6 τ (uh_q3 Q E) E H) (by kernel_rfl) h)

@[reducible] noncomputable def uh_p7 : Code := sE uh_p5

@[reducible] noncomputable def uh_p8 : Code := sB uh_p7

@[reducible] noncomputable def uh_p9 : Code := sT uh_p8

def uh_5 (Q : QT) (E : ET)  (H : Heap) : Prop :=
 Q (.tuple #[(.int .u8 9), (.bool true)]) H

def uh_5_M (Q : QT) (E : ET) (τ : Tau) (H : Heap) : Prop := uh_5 Q E  H

theorem uh_6ok (Q : QT) (E : ET) (τ : Tau) (H : Heap) (h : uh_5_M Q E τ H) : vc Pr uh_p9 τ (uh_q3 Q E) E H :=
  (conv (B := vc Pr uh_p9 τ (uh_q3 Q E) E H) (by kernel_rfl) h)

@[reducible] noncomputable def uh_p10 : Code := sE uh_p8

@[reducible] noncomputable def uh_p11 : Code := sB uh_p10

@[reducible] noncomputable def uh_p12 : Code := sT uh_p11

def uh_7 (Q : QT) (E : ET)  (H : Heap) : Prop :=
 Q (.tuple #[(.int .u8 13), (.bool true)]) H

def uh_7_M (Q : QT) (E : ET) (τ : Tau) (H : Heap) : Prop := uh_7 Q E  H

theorem uh_8ok (Q : QT) (E : ET) (τ : Tau) (H : Heap) (h : uh_7_M Q E τ H) : vc Pr uh_p12 τ (uh_q3 Q E) E H :=
  (conv (B := vc Pr uh_p12 τ (uh_q3 Q E) E H) (by kernel_rfl) h)

@[reducible] noncomputable def uh_p13 : Code := sE uh_p11

@[reducible] noncomputable def uh_p14 : Code := sB uh_p13

def uh_9 (Q : QT) (E : ET) (x0 : Int) (x13 : Bool) (H : Heap) : Prop :=
 sel x13
 (Q (.tuple #[(.int .u8 x0), (.bool true)]) H)
 (uh_1 Q E  H)

def uh_9_M (Q : QT) (E : ET) (τ : Tau) (H : Heap) : Prop := mI .u8 (τ 0) fun x0 => mB (τ 13) fun x13 => uh_9 Q E x0 x13 H

theorem uh_10ok (Q : QT) (E : ET) (τ : Tau) (H : Heap) (h : uh_9_M Q E τ H) : vc Pr uh_p14 τ (uh_q3 Q E) E H :=
  vI (i := 0) h (fun x0 h => vB (i := 13) h (fun x13 h => (conv (by kernel_rfl) h)))

@[reducible] noncomputable def uh_q4 (Q : QT) (E : ET) : Exit → Tau → Heap → Prop := (xthen (uh_9_M Q E) (uh_q3 Q E))

@[reducible] noncomputable def uh_p15 : Code := sA uh_p13

@[reducible] noncomputable def uh_p16 : Code := sB uh_p15

@[reducible] noncomputable def uh_p17 : Code := sT uh_p16

def uh_11 (Q : QT) (E : ET) (x0 : Int) (x13 : Bool) (H : Heap) : Prop :=
 uh_9 Q E x0 x13 H

def uh_11_M (Q : QT) (E : ET) (τ : Tau) (H : Heap) : Prop := mI .u8 (τ 0) fun x0 => mB (τ 13) fun x13 => uh_11 Q E x0 x13 H

theorem uh_12ok (Q : QT) (E : ET) (τ : Tau) (H : Heap) (h : uh_11_M Q E τ H) : vc Pr uh_p17 τ (uh_q4 Q E) E H :=
  vI (i := 0) h (fun x0 h => vB (i := 13) h (fun x13 h => (conv (by kernel_rfl) h)))

@[reducible] noncomputable def uh_p18 : Code := sE uh_p16

@[reducible] noncomputable def uh_p19 : Code := sB uh_p18

@[reducible] noncomputable def uh_p20 : Code := sT uh_p19

def uh_13 (Q : QT) (E : ET) (x0 : Int) (x13 : Bool) (H : Heap) : Prop :=
 uh_9 Q E x0 x13 H

def uh_13_M (Q : QT) (E : ET) (τ : Tau) (H : Heap) : Prop := mI .u8 (τ 0) fun x0 => mB (τ 13) fun x13 => uh_13 Q E x0 x13 H

theorem uh_14ok (Q : QT) (E : ET) (τ : Tau) (H : Heap) (h : uh_13_M Q E τ H) : vc Pr uh_p20 τ (uh_q4 Q E) E H :=
  vI (i := 0) h (fun x0 h => vB (i := 13) h (fun x13 h => (conv (by kernel_rfl) h)))

@[reducible] noncomputable def uh_p21 : Code := sE uh_p19

@[reducible] noncomputable def uh_p22 : Code := sB uh_p21

def uh_15 (Q : QT) (E : ET) (x0 : Int) (x13 : Bool) (H : Heap) : Prop :=
 sel x13
 (uh_9 Q E x0 x13 H)
 (sel (decide ((x0 : Int) ≥ 123))
 (uh_9 Q E x0 (decide ((x0 : Int) ≤ 126)) H)
 (uh_9 Q E x0 false H))

def uh_15_M (Q : QT) (E : ET) (τ : Tau) (H : Heap) : Prop := mI .u8 (τ 0) fun x0 => mB (τ 13) fun x13 => uh_15 Q E x0 x13 H

theorem uh_16ok (Q : QT) (E : ET) (τ : Tau) (H : Heap) (h : uh_15_M Q E τ H) : vc Pr uh_p22 τ (uh_q4 Q E) E H :=
  vI (i := 0) h (fun x0 h => vB (i := 13) h (fun x13 h => (conv (by kernel_rfl) h)))

@[reducible] noncomputable def uh_q5 (Q : QT) (E : ET) : Exit → Tau → Heap → Prop := (xthen (uh_15_M Q E) (uh_q4 Q E))

@[reducible] noncomputable def uh_p23 : Code := sA uh_p21

def uh_17 (Q : QT) (E : ET) (x0 : Int) (H : Heap) : Prop :=
 sel (decide ((x0 : Int) ≥ 91))
 (uh_15 Q E x0 (decide ((x0 : Int) ≤ 96)) H)
 (uh_15 Q E x0 false H)

def uh_17_M (Q : QT) (E : ET) (τ : Tau) (H : Heap) : Prop := mI .u8 (τ 0) fun x0 => uh_17 Q E x0 H

theorem uh_18ok (Q : QT) (E : ET) (τ : Tau) (H : Heap) (h : uh_17_M Q E τ H) : vc Pr uh_p23 τ (uh_q5 Q E) E H :=
  vI (i := 0) h (fun x0 h => (conv (by kernel_rfl) h))

theorem uh_19ok (Q : QT) (E : ET) (τ : Tau) (H : Heap) (h : uh_17_M Q E τ H) : vc Pr uh_p21 τ (uh_q4 Q E) E H :=
  (conv (B := vc Pr uh_p21 τ (uh_q4 Q E) E H) (by kernel_rfl) (vc_seq (K := (uh_15_M Q E)) (uh_18ok Q E τ H h) (uh_16ok Q E)))

def uh_20 (Q : QT) (E : ET) (x0 : Int) (x13 : Bool) (H : Heap) : Prop :=
 sel x13
 (uh_13 Q E x0 x13 H)
 (uh_17 Q E x0 H)

def uh_20_M (Q : QT) (E : ET) (τ : Tau) (H : Heap) : Prop := mI .u8 (τ 0) fun x0 => mB (τ 13) fun x13 => uh_20 Q E x0 x13 H

theorem uh_21ok (Q : QT) (E : ET) (τ : Tau) (H : Heap) (h : uh_20_M Q E τ H) : vc Pr uh_p19 τ (uh_q4 Q E) E H :=
  vI (i := 0) h (fun x0 h => vB (i := 13) h (fun x13 h => (conv (B := vc Pr uh_p19 (Tau.upd (Tau.upd τ 0 (.int .u8 x0)) 13 (.bool x13)) (uh_q4 Q E) E H) (by kernel_rfl) (sel_map (uh_14ok Q E (Tau.upd (Tau.upd τ 0 (.int .u8 x0)) 13 (.bool x13)) H) (uh_19ok Q E (Tau.upd (Tau.upd τ 0 (.int .u8 x0)) 13 (.bool x13)) H) (conv (B := sel x13 (uh_13_M Q E (Tau.upd (Tau.upd τ 0 (.int .u8 x0)) 13 (.bool x13)) H) (uh_17_M Q E (Tau.upd (Tau.upd τ 0 (.int .u8 x0)) 13 (.bool x13)) H)) (by kernel_rfl) h)))))

@[reducible] noncomputable def uh_q6 (Q : QT) (E : ET) : Exit → Tau → Heap → Prop := (xthen (uh_20_M Q E) (uh_q4 Q E))

@[reducible] noncomputable def uh_p24 : Code := sA uh_p18

def uh_22 (Q : QT) (E : ET) (x0 : Int) (H : Heap) : Prop :=
 sel (decide ((x0 : Int) ≥ 58))
 (uh_20 Q E x0 (decide ((x0 : Int) ≤ 64)) H)
 (uh_20 Q E x0 false H)

def uh_22_M (Q : QT) (E : ET) (τ : Tau) (H : Heap) : Prop := mI .u8 (τ 0) fun x0 => uh_22 Q E x0 H

theorem uh_23ok (Q : QT) (E : ET) (τ : Tau) (H : Heap) (h : uh_22_M Q E τ H) : vc Pr uh_p24 τ (uh_q6 Q E) E H :=
  vI (i := 0) h (fun x0 h => (conv (by kernel_rfl) h))

theorem uh_24ok (Q : QT) (E : ET) (τ : Tau) (H : Heap) (h : uh_22_M Q E τ H) : vc Pr uh_p18 τ (uh_q4 Q E) E H :=
  (conv (B := vc Pr uh_p18 τ (uh_q4 Q E) E H) (by kernel_rfl) (vc_seq (K := (uh_20_M Q E)) (uh_23ok Q E τ H h) (uh_21ok Q E)))

def uh_25 (Q : QT) (E : ET) (x0 : Int) (x13 : Bool) (H : Heap) : Prop :=
 sel x13
 (uh_11 Q E x0 x13 H)
 (uh_22 Q E x0 H)

def uh_25_M (Q : QT) (E : ET) (τ : Tau) (H : Heap) : Prop := mI .u8 (τ 0) fun x0 => mB (τ 13) fun x13 => uh_25 Q E x0 x13 H

theorem uh_26ok (Q : QT) (E : ET) (τ : Tau) (H : Heap) (h : uh_25_M Q E τ H) : vc Pr uh_p16 τ (uh_q4 Q E) E H :=
  vI (i := 0) h (fun x0 h => vB (i := 13) h (fun x13 h => (conv (B := vc Pr uh_p16 (Tau.upd (Tau.upd τ 0 (.int .u8 x0)) 13 (.bool x13)) (uh_q4 Q E) E H) (by kernel_rfl) (sel_map (uh_12ok Q E (Tau.upd (Tau.upd τ 0 (.int .u8 x0)) 13 (.bool x13)) H) (uh_24ok Q E (Tau.upd (Tau.upd τ 0 (.int .u8 x0)) 13 (.bool x13)) H) (conv (B := sel x13 (uh_11_M Q E (Tau.upd (Tau.upd τ 0 (.int .u8 x0)) 13 (.bool x13)) H) (uh_22_M Q E (Tau.upd (Tau.upd τ 0 (.int .u8 x0)) 13 (.bool x13)) H)) (by kernel_rfl) h)))))

@[reducible] noncomputable def uh_q7 (Q : QT) (E : ET) : Exit → Tau → Heap → Prop := (xthen (uh_25_M Q E) (uh_q4 Q E))

@[reducible] noncomputable def uh_p25 : Code := sA uh_p15

def uh_27 (Q : QT) (E : ET) (x0 : Int) (H : Heap) : Prop :=
 sel (decide ((x0 : Int) ≥ 33))
 (uh_25 Q E x0 (decide ((x0 : Int) ≤ 47)) H)
 (uh_25 Q E x0 false H)

def uh_27_M (Q : QT) (E : ET) (τ : Tau) (H : Heap) : Prop := mI .u8 (τ 0) fun x0 => uh_27 Q E x0 H

theorem uh_28ok (Q : QT) (E : ET) (τ : Tau) (H : Heap) (h : uh_27_M Q E τ H) : vc Pr uh_p25 τ (uh_q7 Q E) E H :=
  vI (i := 0) h (fun x0 h => (conv (by kernel_rfl) h))

theorem uh_29ok (Q : QT) (E : ET) (τ : Tau) (H : Heap) (h : uh_27_M Q E τ H) : vc Pr uh_p15 τ (uh_q4 Q E) E H :=
  (conv (B := vc Pr uh_p15 τ (uh_q4 Q E) E H) (by kernel_rfl) (vc_seq (K := (uh_25_M Q E)) (uh_28ok Q E τ H h) (uh_26ok Q E)))

theorem uh_30ok (Q : QT) (E : ET) (τ : Tau) (H : Heap) (h : uh_27_M Q E τ H) : vc Pr uh_p13 τ (uh_q3 Q E) E H :=
  (conv (B := vc Pr uh_p13 τ (uh_q3 Q E) E H) (by kernel_rfl) (vc_seq (K := (uh_9_M Q E)) (uh_29ok Q E τ H h) (uh_10ok Q E)))

def uh_31 (Q : QT) (E : ET) (x0 : Int) (x10 : Bool) (H : Heap) : Prop :=
 sel x10
 (uh_7 Q E  H)
 (uh_27 Q E x0 H)

def uh_31_M (Q : QT) (E : ET) (τ : Tau) (H : Heap) : Prop := mI .u8 (τ 0) fun x0 => mB (τ 10) fun x10 => uh_31 Q E x0 x10 H

theorem uh_32ok (Q : QT) (E : ET) (τ : Tau) (H : Heap) (h : uh_31_M Q E τ H) : vc Pr uh_p11 τ (uh_q3 Q E) E H :=
  vI (i := 0) h (fun x0 h => vB (i := 10) h (fun x10 h => (conv (B := vc Pr uh_p11 (Tau.upd (Tau.upd τ 0 (.int .u8 x0)) 10 (.bool x10)) (uh_q3 Q E) E H) (by kernel_rfl) (sel_map (uh_8ok Q E (Tau.upd (Tau.upd τ 0 (.int .u8 x0)) 10 (.bool x10)) H) (uh_30ok Q E (Tau.upd (Tau.upd τ 0 (.int .u8 x0)) 10 (.bool x10)) H) (conv (B := sel x10 (uh_7_M Q E (Tau.upd (Tau.upd τ 0 (.int .u8 x0)) 10 (.bool x10)) H) (uh_27_M Q E (Tau.upd (Tau.upd τ 0 (.int .u8 x0)) 10 (.bool x10)) H)) (by kernel_rfl) h)))))

@[reducible] noncomputable def uh_q8 (Q : QT) (E : ET) : Exit → Tau → Heap → Prop := (xthen (uh_31_M Q E) (uh_q3 Q E))

@[reducible] noncomputable def uh_p26 : Code := sA uh_p10

def uh_33 (Q : QT) (E : ET) (x0 : Int) (H : Heap) : Prop :=
 uh_31 Q E x0 ((x0 : Int) == 114) H

def uh_33_M (Q : QT) (E : ET) (τ : Tau) (H : Heap) : Prop := mI .u8 (τ 0) fun x0 => uh_33 Q E x0 H

theorem uh_34ok (Q : QT) (E : ET) (τ : Tau) (H : Heap) (h : uh_33_M Q E τ H) : vc Pr uh_p26 τ (uh_q8 Q E) E H :=
  vI (i := 0) h (fun x0 h => (conv (by kernel_rfl) h))

theorem uh_35ok (Q : QT) (E : ET) (τ : Tau) (H : Heap) (h : uh_33_M Q E τ H) : vc Pr uh_p10 τ (uh_q3 Q E) E H :=
  (conv (B := vc Pr uh_p10 τ (uh_q3 Q E) E H) (by kernel_rfl) (vc_seq (K := (uh_31_M Q E)) (uh_34ok Q E τ H h) (uh_32ok Q E)))

def uh_36 (Q : QT) (E : ET) (x0 : Int) (x7 : Bool) (H : Heap) : Prop :=
 sel x7
 (uh_5 Q E  H)
 (uh_33 Q E x0 H)

def uh_36_M (Q : QT) (E : ET) (τ : Tau) (H : Heap) : Prop := mI .u8 (τ 0) fun x0 => mB (τ 7) fun x7 => uh_36 Q E x0 x7 H

theorem uh_37ok (Q : QT) (E : ET) (τ : Tau) (H : Heap) (h : uh_36_M Q E τ H) : vc Pr uh_p8 τ (uh_q3 Q E) E H :=
  vI (i := 0) h (fun x0 h => vB (i := 7) h (fun x7 h => (conv (B := vc Pr uh_p8 (Tau.upd (Tau.upd τ 0 (.int .u8 x0)) 7 (.bool x7)) (uh_q3 Q E) E H) (by kernel_rfl) (sel_map (uh_6ok Q E (Tau.upd (Tau.upd τ 0 (.int .u8 x0)) 7 (.bool x7)) H) (uh_35ok Q E (Tau.upd (Tau.upd τ 0 (.int .u8 x0)) 7 (.bool x7)) H) (conv (B := sel x7 (uh_5_M Q E (Tau.upd (Tau.upd τ 0 (.int .u8 x0)) 7 (.bool x7)) H) (uh_33_M Q E (Tau.upd (Tau.upd τ 0 (.int .u8 x0)) 7 (.bool x7)) H)) (by kernel_rfl) h)))))

@[reducible] noncomputable def uh_q9 (Q : QT) (E : ET) : Exit → Tau → Heap → Prop := (xthen (uh_36_M Q E) (uh_q3 Q E))

@[reducible] noncomputable def uh_p27 : Code := sA uh_p7

def uh_38 (Q : QT) (E : ET) (x0 : Int) (H : Heap) : Prop :=
 uh_36 Q E x0 ((x0 : Int) == 116) H

def uh_38_M (Q : QT) (E : ET) (τ : Tau) (H : Heap) : Prop := mI .u8 (τ 0) fun x0 => uh_38 Q E x0 H

theorem uh_39ok (Q : QT) (E : ET) (τ : Tau) (H : Heap) (h : uh_38_M Q E τ H) : vc Pr uh_p27 τ (uh_q9 Q E) E H :=
  vI (i := 0) h (fun x0 h => (conv (by kernel_rfl) h))

theorem uh_40ok (Q : QT) (E : ET) (τ : Tau) (H : Heap) (h : uh_38_M Q E τ H) : vc Pr uh_p7 τ (uh_q3 Q E) E H :=
  (conv (B := vc Pr uh_p7 τ (uh_q3 Q E) E H) (by kernel_rfl) (vc_seq (K := (uh_36_M Q E)) (uh_39ok Q E τ H h) (uh_37ok Q E)))

def uh_41 (Q : QT) (E : ET) (x0 : Int) (x4 : Bool) (H : Heap) : Prop :=
 sel x4
 (uh_3 Q E  H)
 (uh_38 Q E x0 H)

def uh_41_M (Q : QT) (E : ET) (τ : Tau) (H : Heap) : Prop := mI .u8 (τ 0) fun x0 => mB (τ 4) fun x4 => uh_41 Q E x0 x4 H

theorem uh_42ok (Q : QT) (E : ET) (τ : Tau) (H : Heap) (h : uh_41_M Q E τ H) : vc Pr uh_p5 τ (uh_q3 Q E) E H :=
  vI (i := 0) h (fun x0 h => vB (i := 4) h (fun x4 h => (conv (B := vc Pr uh_p5 (Tau.upd (Tau.upd τ 0 (.int .u8 x0)) 4 (.bool x4)) (uh_q3 Q E) E H) (by kernel_rfl) (sel_map (uh_4ok Q E (Tau.upd (Tau.upd τ 0 (.int .u8 x0)) 4 (.bool x4)) H) (uh_40ok Q E (Tau.upd (Tau.upd τ 0 (.int .u8 x0)) 4 (.bool x4)) H) (conv (B := sel x4 (uh_3_M Q E (Tau.upd (Tau.upd τ 0 (.int .u8 x0)) 4 (.bool x4)) H) (uh_38_M Q E (Tau.upd (Tau.upd τ 0 (.int .u8 x0)) 4 (.bool x4)) H)) (by kernel_rfl) h)))))

@[reducible] noncomputable def uh_q10 (Q : QT) (E : ET) : Exit → Tau → Heap → Prop := (xthen (uh_41_M Q E) (uh_q3 Q E))

@[reducible] noncomputable def uh_p28 : Code := sA uh_p4

def uh_43 (Q : QT) (E : ET) (x0 : Int) (H : Heap) : Prop :=
 uh_41 Q E x0 ((x0 : Int) == 110) H

def uh_43_M (Q : QT) (E : ET) (τ : Tau) (H : Heap) : Prop := mI .u8 (τ 0) fun x0 => uh_43 Q E x0 H

theorem uh_44ok (Q : QT) (E : ET) (τ : Tau) (H : Heap) (h : uh_43_M Q E τ H) : vc Pr uh_p28 τ (uh_q10 Q E) E H :=
  vI (i := 0) h (fun x0 h => (conv (by kernel_rfl) h))

theorem uh_45ok (Q : QT) (E : ET) (τ : Tau) (H : Heap) (h : uh_43_M Q E τ H) : vc Pr uh_p4 τ (uh_q3 Q E) E H :=
  (conv (B := vc Pr uh_p4 τ (uh_q3 Q E) E H) (by kernel_rfl) (vc_seq (K := (uh_41_M Q E)) (uh_44ok Q E τ H h) (uh_42ok Q E)))

theorem uh_46ok (Q : QT) (E : ET) (τ : Tau) (H : Heap) (h : uh_43_M Q E τ H) : vc Pr uh_p3 τ (uh_q2 Q E) E H :=
  (conv (B := vc Pr uh_p3 τ (uh_q2 Q E) E H) (by kernel_rfl) (uh_45ok Q E τ H h))

theorem uh_47ok (Q : QT) (E : ET) (τ : Tau) (H : Heap) (h : uh_43_M Q E τ H) : vc Pr uh_p1 τ (uh_q1 Q E) E H :=
  (conv (B := vc Pr uh_p1 τ (uh_q1 Q E) E H) (by kernel_rfl) (vc_seq (K := (uh_1_M Q E)) (uh_46ok Q E τ H h) (uh_2ok Q E)))

@[reducible] noncomputable def uh_q11 (Q : QT) (E : ET) : Exit → Tau → Heap → Prop := (xthen (uh_43_M Q E) (uh_q1 Q E))

@[reducible] noncomputable def uh_p29 : Code := sA uh_p0

def uh (Q : QT) (E : ET) (a0 : Int) (H : Heap) : Prop :=
 uh_43 Q E a0 H

theorem uh_fn (a0 : Int) (Q : QT) (E : ET) (H : Heap) (h : uh Q E a0 H)   : Does Pr 121 #[(.int .u8 a0)] H Q E :=
  Fn_of_vc (fn := Try.f121) (c := uh_p0) (args := [(.int .u8 a0)]) mixed (by kernel_rfl) (by kernel_rfl) (by kernel_rfl) (by kernel_rfl) (by kernel_rfl) ((conv (B := vc Pr uh_p0 (argT [(.int .u8 a0)]) (uh_q1 Q E) E H) (by kernel_rfl) (vc_seq (K := (uh_43_M Q E)) (conv (B := vc Pr uh_p29 (argT [(.int .u8 a0)]) (uh_q11 Q E) E H) (by kernel_rfl) h) (uh_47ok Q E))))

end Go.Proofs.Ytaffcoiomggpfaa
