import Derived.Test.YtaffcoiomggpfaaVPr
import Derived.Test.YtaffcoiomggpfaaFregex_1
/- Printed by gen.py: the Go functions of package regex over a heap view, and that the model does so. -/
namespace Go.Proofs.Ytaffcoiomggpfaa
open Go.V
set_option linter.unusedVariables false
set_option maxRecDepth 100000
/-! jobmux/regex.not -/
@[reducible] noncomputable def regex_not_q1 (Q : QT) (E : ET) : Exit → Tau → Heap → Prop := (retQ Pr (Try.f111).results.toList Q)

@[reducible] noncomputable def regex_not_p0 : Code := bodyOf Try.f111

@[reducible] noncomputable def regex_not_p1 : Code := sB regex_not_p0

@[reducible] noncomputable def regex_not_p2 : Code := sB regex_not_p1

def regex_not_1 (Q : QT) (E : ET) (x1 : OA) (x2 : OA) (H : Heap) : Prop :=
 ptr x1 fun q7 =>
 ∃ n8 n9 n10 n11 : Int, Heap.rd H q7 0 [(.int .u64 n8), (.int .u64 n9), (.int .u64 n10), (.int .u64 n11)] ∧ ptr x2 fun q13 =>
 wr q13 [(.int .u64 n8), (.int .u64 n9), (.int .u64 n10), (.int .u64 n11)] H fun H12 =>
 ptr x2 fun q14 =>
 ∃ n15 n16 n17 n18 : Int, Heap.rd H12 q14 0 [(.int .u64 n15), (.int .u64 n16), (.int .u64 n17), (.int .u64 n18)] ∧ Q (.agg #[(.int .u64 n15), (.int .u64 n16), (.int .u64 n17), (.int .u64 n18)]) H12

def regex_not_1_M (Q : QT) (E : ET) (τ : Tau) (H : Heap) : Prop := mP (τ 1) fun x1 => mP (τ 2) fun x2 => regex_not_1 Q E x1 x2 H

theorem regex_not_2ok (Q : QT) (E : ET) (τ : Tau) (H : Heap) (h : regex_not_1_M Q E τ H) : vc Pr regex_not_p2 τ (regex_not_q1 Q E) E H :=
  vP (i := 1) h (fun x1 h => vP (i := 2) h (fun x2 h => (conv (by kernel_rfl) h)))

@[reducible] noncomputable def regex_not_q2 (Q : QT) (E : ET) : Exit → Tau → Heap → Prop := (xthen (regex_not_1_M Q E) (regex_not_q1 Q E))

@[reducible] noncomputable def regex_not_p3 : Code := sA regex_not_p1

@[reducible] noncomputable def regex_not_p4 : Code := sB regex_not_p3

@[reducible] noncomputable def regex_not_q3 (Q : QT) (E : ET) : Exit → Tau → Heap → Prop := (xblock 0 (regex_not_q2 Q E))

@[reducible] noncomputable def regex_not_p5 : Code := sI regex_not_p4

@[reducible] noncomputable def regex_not_q4 (nx19 : Int → HP) (Q : QT) (E : ET) : Exit → Tau → Heap → Prop := (xthen (fun τ H => mI .i64 (τ 4) fun x4' => nx19 x4' H) (regex_not_q3 Q E))

@[reducible] noncomputable def regex_not_p6 : Code := sI regex_not_p5

@[reducible] noncomputable def regex_not_p7 : Code := sB regex_not_p6

@[reducible] noncomputable def regex_not_p8 : Code := sB regex_not_p7

def regex_not_3 (nx19 : Int → HP) (Q : QT) (E : ET) (x1 : OA) (x2 : OA) (x4 : Int) (H : Heap) : Prop :=
 ptr x1 fun q20 =>
 (0 ≤ (x4 : Int) ∧ (x4 : Int) < ((4 : Nat) : Int)) ∧ ldI .u64 (Addr.add q20 ((x4 : Int).toNat * 1)) H fun n21 =>
 ptr x1 fun q22 =>
 (0 ≤ (x4 : Int) ∧ (x4 : Int) < ((4 : Nat) : Int)) ∧ wr (Addr.add q22 ((x4 : Int).toNat * 1)) [(.int .u64 (IntKind.wrap .u64 (BitVec.ofInt (IntKind.bits .u64) (if IntKind.signed .u64 then -1 else IntKind.max .u64) ^^^ BitVec.ofInt (IntKind.bits .u64) n21).toNat))] H fun H23 =>
 nx19 (IntKind.wrap .i64 (x4 + 1)) H23

def regex_not_3_M (nx19 : Int → HP) (Q : QT) (E : ET) (τ : Tau) (H : Heap) : Prop := mP (τ 1) fun x1 => mP (τ 2) fun x2 => mI .i64 (τ 4) fun x4 => regex_not_3 nx19 Q E x1 x2 x4 H

theorem regex_not_4ok (nx19 : Int → HP) (Q : QT) (E : ET) (τ : Tau) (H : Heap) (h : regex_not_3_M nx19 Q E τ H) : vc Pr regex_not_p8 τ (regex_not_q4 nx19 Q E) E H :=
  vP (i := 1) h (fun x1 h => vP (i := 2) h (fun x2 h => vI (i := 4) h (fun x4 h => (conv (by kernel_rfl) h))))

@[reducible] noncomputable def regex_not_q5 (nx19 : Int → HP) (Q : QT) (E : ET) : Exit → Tau → Heap → Prop := (xthen (regex_not_3_M nx19 Q E) (regex_not_q4 nx19 Q E))

@[reducible] noncomputable def regex_not_p9 : Code := sA regex_not_p7

def regex_not_5 (nx19 : Int → HP) (Q : QT) (E : ET) (x1 : OA) (x2 : OA) (x4 : Int) (x5 : Bool) (H : Heap) : Prop :=
 sel x5
 (regex_not_3 nx19 Q E x1 x2 x4 H)
 (regex_not_1 Q E x1 x2 H)

def regex_not_5_M (nx19 : Int → HP) (Q : QT) (E : ET) (τ : Tau) (H : Heap) : Prop := mP (τ 1) fun x1 => mP (τ 2) fun x2 => mI .i64 (τ 4) fun x4 => mB (τ 5) fun x5 => regex_not_5 nx19 Q E x1 x2 x4 x5 H

theorem regex_not_6ok (nx19 : Int → HP) (Q : QT) (E : ET) (τ : Tau) (H : Heap) (h : regex_not_5_M nx19 Q E τ H) : vc Pr regex_not_p9 τ (regex_not_q5 nx19 Q E) E H :=
  vP (i := 1) h (fun x1 h => vP (i := 2) h (fun x2 h => vI (i := 4) h (fun x4 h => vB (i := 5) h (fun x5 h => (conv (by kernel_rfl) h)))))

theorem regex_not_7ok (nx19 : Int → HP) (Q : QT) (E : ET) (τ : Tau) (H : Heap) (h : regex_not_5_M nx19 Q E τ H) : vc Pr regex_not_p7 τ (regex_not_q4 nx19 Q E) E H :=
  (conv (B := vc Pr regex_not_p7 τ (regex_not_q4 nx19 Q E) E H) (by kernel_rfl) (vc_seq (K := (regex_not_3_M nx19 Q E)) (regex_not_6ok nx19 Q E τ H h) (regex_not_4ok nx19 Q E)))

@[reducible] noncomputable def regex_not_q6 (nx19 : Int → HP) (Q : QT) (E : ET) : Exit → Tau → Heap → Prop := (xthen (regex_not_5_M nx19 Q E) (regex_not_q4 nx19 Q E))

@[reducible] noncomputable def regex_not_p10 : Code := sA regex_not_p6

def regex_not_8 (nx19 : Int → HP) (Q : QT) (E : ET) (x1 : OA) (x2 : OA) (x4 : Int) (H : Heap) : Prop :=
 regex_not_5 nx19 Q E x1 x2 x4 (decide ((x4 : Int) < 4)) H

def regex_not_8_M (nx19 : Int → HP) (Q : QT) (E : ET) (τ : Tau) (H : Heap) : Prop := mP (τ 1) fun x1 => mP (τ 2) fun x2 => mI .i64 (τ 4) fun x4 => regex_not_8 nx19 Q E x1 x2 x4 H

theorem regex_not_9ok (nx19 : Int → HP) (Q : QT) (E : ET) (τ : Tau) (H : Heap) (h : regex_not_8_M nx19 Q E τ H) : vc Pr regex_not_p10 τ (regex_not_q6 nx19 Q E) E H :=
  vP (i := 1) h (fun x1 h => vP (i := 2) h (fun x2 h => vI (i := 4) h (fun x4 h => (conv (by kernel_rfl) h))))

theorem regex_not_10ok (nx19 : Int → HP) (Q : QT) (E : ET) (τ : Tau) (H : Heap) (h : regex_not_8_M nx19 Q E τ H) : vc Pr regex_not_p6 τ (regex_not_q4 nx19 Q E) E H :=
  (conv (B := vc Pr regex_not_p6 τ (regex_not_q4 nx19 Q E) E H) (by kernel_rfl) (vc_seq (K := (regex_not_5_M nx19 Q E)) (regex_not_9ok nx19 Q E τ H h) (regex_not_7ok nx19 Q E)))

def regex_not_11 (Q : QT) (E : ET) (x1 : OA) (x2 : OA) (x4 : Int) (H : Heap) : Prop :=
 ∃ (I : Int → HP) (μ : Int → Heap → Nat), I x4 H ∧ ∀ (x4 : Int) (H : Heap), I x4 H →
 regex_not_8 (fun x4' H1 => I x4' H1 ∧ μ x4' H1 < μ x4 H) Q E x1 x2 x4 H

def regex_not_11_M (Q : QT) (E : ET) (τ : Tau) (H : Heap) : Prop := mP (τ 1) fun x1 => mP (τ 2) fun x2 => mI .i64 (τ 4) fun x4 => regex_not_11 Q E x1 x2 x4 H

theorem regex_not_12ok (Q : QT) (E : ET) (τ : Tau) (H : Heap) (h : regex_not_11_M Q E τ H) : vc Pr regex_not_p5 τ (regex_not_q3 Q E) E H :=
  vP (i := 1) h (fun x1 h => vP (i := 2) h (fun x2 h => vI (i := 4) h (fun x4 h => match h with | ⟨I, μ, h0, hr⟩ => (conv (B := vc Pr regex_not_p5 (Tau.upd (Tau.upd (Tau.upd τ 1 (.pointer x1)) 2 (.pointer x2)) 4 (.int .i64 x4)) (regex_not_q3 Q E) E H) (by kernel_rfl) (vc_loop (c := sI regex_not_p5) (τ := (Tau.upd (Tau.upd (Tau.upd τ 1 (.pointer x1)) 2 (.pointer x2)) 4 (.int .i64 x4))) [1, 2] (fun τ H => mI .i64 (τ 4) fun x4' => I x4' H) (fun τ H => μ (gI (τ 4)) H) (by kernel_rfl) h0 (fun τ1 H1 hf hI => fix_elim (τ := τ1) (i := 1) (v := (.pointer x1)) (G := fun τ => vc Pr (sI regex_not_p5) τ (xthen (fun τ2 H2 => (mI .i64 (τ2 4) fun x4' => I x4' H2) ∧ μ (gI (τ2 4)) H2 < μ (gI (τ 4)) H1) (regex_not_q3 Q E)) E H1) (hf 1 (by simp)) (fix_elim (τ := (Tau.upd τ1 1 (.pointer x1))) (i := 2) (v := (.pointer x2)) (G := fun τ => vc Pr (sI regex_not_p5) τ (xthen (fun τ2 H2 => (mI .i64 (τ2 4) fun x4' => I x4' H2) ∧ μ (gI (τ2 4)) H2 < μ (gI (τ 4)) H1) (regex_not_q3 Q E)) E H1) (hf 2 (by simp)) (mI_elim (i := 4) (G := fun τ => vc Pr (sI regex_not_p5) τ (xthen (fun τ2 H2 => (mI .i64 (τ2 4) fun x4' => I x4' H2) ∧ μ (gI (τ2 4)) H2 < μ (gI (τ 4)) H1) (regex_not_q3 Q E)) E H1) hI (fun x4r h => (conv (B := vc Pr (sI regex_not_p5) (Tau.upd (Tau.upd (Tau.upd τ1 1 (.pointer x1)) 2 (.pointer x2)) 4 (.int .i64 x4r)) (xthen (fun τ2 H2 => (mI .i64 (τ2 4) fun x4' => I x4' H2) ∧ μ (gI (τ2 4)) H2 < μ (gI ((Tau.upd (Tau.upd (Tau.upd τ1 1 (.pointer x1)) 2 (.pointer x2)) 4 (.int .i64 x4r)) 4)) H1) (regex_not_q3 Q E)) E H1) (by kernel_rfl) (vc_xthen (regex_not_10ok (fun x4' H2 => I x4' H2 ∧ μ x4' H2 < μ x4r H1) Q E (Tau.upd (Tau.upd (Tau.upd τ1 1 (.pointer x1)) 2 (.pointer x2)) 4 (.int .i64 x4r)) H1 (conv (B := regex_not_8_M (fun x4' H2 => I x4' H2 ∧ μ x4' H2 < μ x4r H1) Q E (Tau.upd (Tau.upd (Tau.upd τ1 1 (.pointer x1)) 2 (.pointer x2)) 4 (.int .i64 x4r)) H1) (by kernel_rfl) (hr x4r H1 h))) (fun τ2 H2 hk => mI_elim (i := 4) (G := fun τ => (mI .i64 (τ 4) fun x4' => I x4' H2) ∧ μ (gI (τ 4)) H2 < μ x4r H1) hk (fun x4' h => h)))))))))))))

theorem regex_not_13ok (Q : QT) (E : ET) (τ : Tau) (H : Heap) (h : regex_not_11_M Q E τ H) : vc Pr regex_not_p4 τ (regex_not_q2 Q E) E H :=
  (conv (B := vc Pr regex_not_p4 τ (regex_not_q2 Q E) E H) (by kernel_rfl) (regex_not_12ok Q E τ H h))

@[reducible] noncomputable def regex_not_q7 (Q : QT) (E : ET) : Exit → Tau → Heap → Prop := (xthen (regex_not_11_M Q E) (regex_not_q2 Q E))

@[reducible] noncomputable def regex_not_p11 : Code := sA regex_not_p3

def regex_not_14 (Q : QT) (E : ET) (x1 : OA) (x2 : OA) (H : Heap) : Prop :=
 regex_not_11 Q E x1 x2 0 H

def regex_not_14_M (Q : QT) (E : ET) (τ : Tau) (H : Heap) : Prop := mP (τ 1) fun x1 => mP (τ 2) fun x2 => regex_not_14 Q E x1 x2 H

theorem regex_not_15ok (Q : QT) (E : ET) (τ : Tau) (H : Heap) (h : regex_not_14_M Q E τ H) : vc Pr regex_not_p11 τ (regex_not_q7 Q E) E H :=
  vP (i := 1) h (fun x1 h => vP (i := 2) h (fun x2 h => (conv (by kernel_rfl) h)))

theorem regex_not_16ok (Q : QT) (E : ET) (τ : Tau) (H : Heap) (h : regex_not_14_M Q E τ H) : vc Pr regex_not_p3 τ (regex_not_q2 Q E) E H :=
  (conv (B := vc Pr regex_not_p3 τ (regex_not_q2 Q E) E H) (by kernel_rfl) (vc_seq (K := (regex_not_11_M Q E)) (regex_not_15ok Q E τ H h) (regex_not_13ok Q E)))

theorem regex_not_17ok (Q : QT) (E : ET) (τ : Tau) (H : Heap) (h : regex_not_14_M Q E τ H) : vc Pr regex_not_p1 τ (regex_not_q1 Q E) E H :=
  (conv (B := vc Pr regex_not_p1 τ (regex_not_q1 Q E) E H) (by kernel_rfl) (vc_seq (K := (regex_not_1_M Q E)) (regex_not_16ok Q E τ H h) (regex_not_2ok Q E)))

@[reducible] noncomputable def regex_not_q8 (Q : QT) (E : ET) : Exit → Tau → Heap → Prop := (xthen (regex_not_14_M Q E) (regex_not_q1 Q E))

@[reducible] noncomputable def regex_not_p12 : Code := sA regex_not_p0

def regex_not (Q : QT) (E : ET) (a0_0 : Int) (a0_1 : Int) (a0_2 : Int) (a0_3 : Int) (H : Heap) : Prop :=
 nw (.cells #[(.int .u64 a0_0), (.int .u64 a0_1), (.int .u64 a0_2), (.int .u64 a0_3)] 46 (0, 0)) H fun i24 H25 =>
 nw (.cells #[(.int .u64 0), (.int .u64 0), (.int .u64 0), (.int .u64 0)] 46 (0, 0)) H25 fun i26 H27 =>
 regex_not_14 Q E (some ⟨i24, 0, none⟩) (some ⟨i26, 0, none⟩) H27

theorem regex_not_fn (a0_0 : Int) (a0_1 : Int) (a0_2 : Int) (a0_3 : Int) (Q : QT) (E : ET) (H : Heap) (h : regex_not Q E a0_0 a0_1 a0_2 a0_3 H)   : Does Pr 111 #[(.agg #[(.int .u64 a0_0), (.int .u64 a0_1), (.int .u64 a0_2), (.int .u64 a0_3)])] H Q E :=
  Fn_of_vc (fn := Try.f111) (c := regex_not_p0) (args := [(.agg #[(.int .u64 a0_0), (.int .u64 a0_1), (.int .u64 a0_2), (.int .u64 a0_3)])]) mixed (by kernel_rfl) (by kernel_rfl) (by kernel_rfl) (by kernel_rfl) (by kernel_rfl) ((conv (B := vc Pr regex_not_p0 (argT [(.agg #[(.int .u64 a0_0), (.int .u64 a0_1), (.int .u64 a0_2), (.int .u64 a0_3)])]) (regex_not_q1 Q E) E H) (by kernel_rfl) (vc_seq (K := (regex_not_14_M Q E)) (conv (B := vc Pr regex_not_p12 (argT [(.agg #[(.int .u64 a0_0), (.int .u64 a0_1), (.int .u64 a0_2), (.int .u64 a0_3)])]) (regex_not_q8 Q E) E H) (by kernel_rfl) h) (regex_not_17ok Q E))))

/-! jobmux/regex.bytesOf -/
@[reducible] noncomputable def regex_bytesOf_q1 (Q : QT) (E : ET) : Exit → Tau → Heap → Prop := (retQ Pr (Try.f112).results.toList Q)

@[reducible] noncomputable def regex_bytesOf_p0 : Code := bodyOf Try.f112

@[reducible] noncomputable def regex_bytesOf_p1 : Code := sB regex_bytesOf_p0

@[reducible] noncomputable def regex_bytesOf_p2 : Code := sB regex_bytesOf_p1

@[reducible] noncomputable def regex_bytesOf_p3 : Code := sB regex_bytesOf_p2

def regex_bytesOf_1 (Q : QT) (E : ET) (x2 : OA) (x3 : OA) (H : Heap) : Prop :=
 ptr x3 fun q16 =>
 ∃ n17 n18 n19 n20 : Int, Heap.rd H q16 0 [(.int .u64 n17), (.int .u64 n18), (.int .u64 n19), (.int .u64 n20)] ∧ ptr x2 fun q22 =>
 wr q22 [(.int .u64 n17), (.int .u64 n18), (.int .u64 n19), (.int .u64 n20)] H fun H21 =>
 ptr x2 fun q23 =>
 ∃ n24 n25 n26 n27 : Int, Heap.rd H21 q23 0 [(.int .u64 n24), (.int .u64 n25), (.int .u64 n26), (.int .u64 n27)] ∧ Q (.agg #[(.int .u64 n24), (.int .u64 n25), (.int .u64 n26), (.int .u64 n27)]) H21

def regex_bytesOf_1_M (Q : QT) (E : ET) (τ : Tau) (H : Heap) : Prop := mP (τ 2) fun x2 => mP (τ 3) fun x3 => regex_bytesOf_1 Q E x2 x3 H

theorem regex_bytesOf_2ok (Q : QT) (E : ET) (τ : Tau) (H : Heap) (h : regex_bytesOf_1_M Q E τ H) : vc Pr regex_bytesOf_p3 τ (regex_bytesOf_q1 Q E) E H :=
  vP (i := 2) h (fun x2 h => vP (i := 3) h (fun x3 h => (conv (by kernel_rfl) h)))

@[reducible] noncomputable def regex_bytesOf_q2 (Q : QT) (E : ET) : Exit → Tau → Heap → Prop := (xthen (regex_bytesOf_1_M Q E) (regex_bytesOf_q1 Q E))

@[reducible] noncomputable def regex_bytesOf_p4 : Code := sA regex_bytesOf_p2

@[reducible] noncomputable def regex_bytesOf_p5 : Code := sB regex_bytesOf_p4

@[reducible] noncomputable def regex_bytesOf_q3 (Q : QT) (E : ET) : Exit → Tau → Heap → Prop := (xblock 0 (regex_bytesOf_q2 Q E))

@[reducible] noncomputable def regex_bytesOf_p6 : Code := sI regex_bytesOf_p5

@[reducible] noncomputable def regex_bytesOf_q4 (nx28 : Int → HP) (Q : QT) (E : ET) : Exit → Tau → Heap → Prop := (xthen (fun τ H => mI .i64 (τ 7) fun x7' => nx28 x7' H) (regex_bytesOf_q3 Q E))

@[reducible] noncomputable def regex_bytesOf_p7 : Code := sI regex_bytesOf_p6

@[reducible] noncomputable def regex_bytesOf_p8 : Code := sB regex_bytesOf_p7

@[reducible] noncomputable def regex_bytesOf_p9 : Code := sB regex_bytesOf_p8

def regex_bytesOf_3 (nx28 : Int → HP) (Q : QT) (E : ET) (x0 : ByteArray) (x2 : OA) (x3 : OA) (x6 : Int) (x7 : Int) (H : Heap) : Prop :=
 ptr x3 fun q29 =>
 ∃ n30 n31 n32 n33 : Int, Heap.rd H q29 0 [(.int .u64 n30), (.int .u64 n31), (.int .u64 n32), (.int .u64 n33)] ∧ (0 ≤ (x7 : Int) ∧ (x7 : Int) < ((ByteArray.size x0 : Nat) : Int)) ∧ (0 ≤ (x7 : Int) ∧ (x7 : Int) < ((ByteArray.size x0 : Nat) : Int)) ∧ Does Pr 115 #[(.agg #[(.int .u64 n30), (.int .u64 n31), (.int .u64 n32), (.int .u64 n33)]), (.int .u8 (sAt x0 x7)), (.int .u8 (sAt x0 x7))] H (fun v34 H35 =>
 ∃ n36 n37 n38 n39 : Int, v34 = (.agg #[(.int .u64 n36), (.int .u64 n37), (.int .u64 n38), (.int .u64 n39)]) ∧ ptr x3 fun q41 =>
 wr q41 [(.int .u64 n36), (.int .u64 n37), (.int .u64 n38), (.int .u64 n39)] H35 fun H40 =>
 nx28 (IntKind.wrap .i64 (x7 + 1)) H40) (fun _ _ => False)

def regex_bytesOf_3_M (nx28 : Int → HP) (Q : QT) (E : ET) (τ : Tau) (H : Heap) : Prop := mS (τ 0) fun x0 => mP (τ 2) fun x2 => mP (τ 3) fun x3 => mI .i64 (τ 6) fun x6 => mI .i64 (τ 7) fun x7 => regex_bytesOf_3 nx28 Q E x0 x2 x3 x6 x7 H

theorem regex_bytesOf_4ok (nx28 : Int → HP) (Q : QT) (E : ET) (τ : Tau) (H : Heap) (h : regex_bytesOf_3_M nx28 Q E τ H) : vc Pr regex_bytesOf_p9 τ (regex_bytesOf_q4 nx28 Q E) E H :=
  vS (i := 0) h (fun x0 h => vP (i := 2) h (fun x2 h => vP (i := 3) h (fun x3 h => vI (i := 6) h (fun x6 h => vI (i := 7) h (fun x7 h => (conv (by kernel_rfl) h))))))

@[reducible] noncomputable def regex_bytesOf_q5 (nx28 : Int → HP) (Q : QT) (E : ET) : Exit → Tau → Heap → Prop := (xthen (regex_bytesOf_3_M nx28 Q E) (regex_bytesOf_q4 nx28 Q E))

@[reducible] noncomputable def regex_bytesOf_p10 : Code := sA regex_bytesOf_p8

def regex_bytesOf_5 (nx28 : Int → HP) (Q : QT) (E : ET) (x0 : ByteArray) (x2 : OA) (x3 : OA) (x6 : Int) (x7 : Int) (x8 : Bool) (H : Heap) : Prop :=
 sel x8
 (regex_bytesOf_3 nx28 Q E x0 x2 x3 x6 x7 H)
 (regex_bytesOf_1 Q E x2 x3 H)

def regex_bytesOf_5_M (nx28 : Int → HP) (Q : QT) (E : ET) (τ : Tau) (H : Heap) : Prop := mS (τ 0) fun x0 => mP (τ 2) fun x2 => mP (τ 3) fun x3 => mI .i64 (τ 6) fun x6 => mI .i64 (τ 7) fun x7 => mB (τ 8) fun x8 => regex_bytesOf_5 nx28 Q E x0 x2 x3 x6 x7 x8 H

theorem regex_bytesOf_6ok (nx28 : Int → HP) (Q : QT) (E : ET) (τ : Tau) (H : Heap) (h : regex_bytesOf_5_M nx28 Q E τ H) : vc Pr regex_bytesOf_p10 τ (regex_bytesOf_q5 nx28 Q E) E H :=
  vS (i := 0) h (fun x0 h => vP (i := 2) h (fun x2 h => vP (i := 3) h (fun x3 h => vI (i := 6) h (fun x6 h => vI (i := 7) h (fun x7 h => vB (i := 8) h (fun x8 h => (conv (by kernel_rfl) h)))))))

theorem regex_bytesOf_7ok (nx28 : Int → HP) (Q : QT) (E : ET) (τ : Tau) (H : Heap) (h : regex_bytesOf_5_M nx28 Q E τ H) : vc Pr regex_bytesOf_p8 τ (regex_bytesOf_q4 nx28 Q E) E H :=
  (conv (B := vc Pr regex_bytesOf_p8 τ (regex_bytesOf_q4 nx28 Q E) E H) (by kernel_rfl) (vc_seq (K := (regex_bytesOf_3_M nx28 Q E)) (regex_bytesOf_6ok nx28 Q E τ H h) (regex_bytesOf_4ok nx28 Q E)))

@[reducible] noncomputable def regex_bytesOf_q6 (nx28 : Int → HP) (Q : QT) (E : ET) : Exit → Tau → Heap → Prop := (xthen (regex_bytesOf_5_M nx28 Q E) (regex_bytesOf_q4 nx28 Q E))

@[reducible] noncomputable def regex_bytesOf_p11 : Code := sA regex_bytesOf_p7

def regex_bytesOf_8 (nx28 : Int → HP) (Q : QT) (E : ET) (x0 : ByteArray) (x2 : OA) (x3 : OA) (x6 : Int) (x7 : Int) (H : Heap) : Prop :=
 regex_bytesOf_5 nx28 Q E x0 x2 x3 x6 x7 (decide ((x7 : Int) < x6)) H

def regex_bytesOf_8_M (nx28 : Int → HP) (Q : QT) (E : ET) (τ : Tau) (H : Heap) : Prop := mS (τ 0) fun x0 => mP (τ 2) fun x2 => mP (τ 3) fun x3 => mI .i64 (τ 6) fun x6 => mI .i64 (τ 7) fun x7 => regex_bytesOf_8 nx28 Q E x0 x2 x3 x6 x7 H

theorem regex_bytesOf_9ok (nx28 : Int → HP) (Q : QT) (E : ET) (τ : Tau) (H : Heap) (h : regex_bytesOf_8_M nx28 Q E τ H) : vc Pr regex_bytesOf_p11 τ (regex_bytesOf_q6 nx28 Q E) E H :=
  vS (i := 0) h (fun x0 h => vP (i := 2) h (fun x2 h => vP (i := 3) h (fun x3 h => vI (i := 6) h (fun x6 h => vI (i := 7) h (fun x7 h => (conv (by kernel_rfl) h))))))

theorem regex_bytesOf_10ok (nx28 : Int → HP) (Q : QT) (E : ET) (τ : Tau) (H : Heap) (h : regex_bytesOf_8_M nx28 Q E τ H) : vc Pr regex_bytesOf_p7 τ (regex_bytesOf_q4 nx28 Q E) E H :=
  (conv (B := vc Pr regex_bytesOf_p7 τ (regex_bytesOf_q4 nx28 Q E) E H) (by kernel_rfl) (vc_seq (K := (regex_bytesOf_5_M nx28 Q E)) (regex_bytesOf_9ok nx28 Q E τ H h) (regex_bytesOf_7ok nx28 Q E)))

def regex_bytesOf_11 (Q : QT) (E : ET) (x0 : ByteArray) (x2 : OA) (x3 : OA) (x6 : Int) (x7 : Int) (H : Heap) : Prop :=
 ∃ (I : Int → HP) (μ : Int → Heap → Nat), I x7 H ∧ ∀ (x7 : Int) (H : Heap), I x7 H →
 regex_bytesOf_8 (fun x7' H1 => I x7' H1 ∧ μ x7' H1 < μ x7 H) Q E x0 x2 x3 x6 x7 H

def regex_bytesOf_11_M (Q : QT) (E : ET) (τ : Tau) (H : Heap) : Prop := mS (τ 0) fun x0 => mP (τ 2) fun x2 => mP (τ 3) fun x3 => mI .i64 (τ 6) fun x6 => mI .i64 (τ 7) fun x7 => regex_bytesOf_11 Q E x0 x2 x3 x6 x7 H

theorem regex_bytesOf_12ok (Q : QT) (E : ET) (τ : Tau) (H : Heap) (h : regex_bytesOf_11_M Q E τ H) : vc Pr regex_bytesOf_p6 τ (regex_bytesOf_q3 Q E) E H :=
  vS (i := 0) h (fun x0 h => vP (i := 2) h (fun x2 h => vP (i := 3) h (fun x3 h => vI (i := 6) h (fun x6 h => vI (i := 7) h (fun x7 h => match h with | ⟨I, μ, h0, hr⟩ => (conv (B := vc Pr regex_bytesOf_p6 (Tau.upd (Tau.upd (Tau.upd (Tau.upd (Tau.upd τ 0 (.string x0)) 2 (.pointer x2)) 3 (.pointer x3)) 6 (.int .i64 x6)) 7 (.int .i64 x7)) (regex_bytesOf_q3 Q E) E H) (by kernel_rfl) (vc_loop (c := sI regex_bytesOf_p6) (τ := (Tau.upd (Tau.upd (Tau.upd (Tau.upd (Tau.upd τ 0 (.string x0)) 2 (.pointer x2)) 3 (.pointer x3)) 6 (.int .i64 x6)) 7 (.int .i64 x7))) [0, 2, 3, 6] (fun τ H => mI .i64 (τ 7) fun x7' => I x7' H) (fun τ H => μ (gI (τ 7)) H) (by kernel_rfl) h0 (fun τ1 H1 hf hI => fix_elim (τ := τ1) (i := 0) (v := (.string x0)) (G := fun τ => vc Pr (sI regex_bytesOf_p6) τ (xthen (fun τ2 H2 => (mI .i64 (τ2 7) fun x7' => I x7' H2) ∧ μ (gI (τ2 7)) H2 < μ (gI (τ 7)) H1) (regex_bytesOf_q3 Q E)) E H1) (hf 0 (by simp)) (fix_elim (τ := (Tau.upd τ1 0 (.string x0))) (i := 2) (v := (.pointer x2)) (G := fun τ => vc Pr (sI regex_bytesOf_p6) τ (xthen (fun τ2 H2 => (mI .i64 (τ2 7) fun x7' => I x7' H2) ∧ μ (gI (τ2 7)) H2 < μ (gI (τ 7)) H1) (regex_bytesOf_q3 Q E)) E H1) (hf 2 (by simp)) (fix_elim (τ := (Tau.upd (Tau.upd τ1 0 (.string x0)) 2 (.pointer x2))) (i := 3) (v := (.pointer x3)) (G := fun τ => vc Pr (sI regex_bytesOf_p6) τ (xthen (fun τ2 H2 => (mI .i64 (τ2 7) fun x7' => I x7' H2) ∧ μ (gI (τ2 7)) H2 < μ (gI (τ 7)) H1) (regex_bytesOf_q3 Q E)) E H1) (hf 3 (by simp)) (fix_elim (τ := (Tau.upd (Tau.upd (Tau.upd τ1 0 (.string x0)) 2 (.pointer x2)) 3 (.pointer x3))) (i := 6) (v := (.int .i64 x6)) (G := fun τ => vc Pr (sI regex_bytesOf_p6) τ (xthen (fun τ2 H2 => (mI .i64 (τ2 7) fun x7' => I x7' H2) ∧ μ (gI (τ2 7)) H2 < μ (gI (τ 7)) H1) (regex_bytesOf_q3 Q E)) E H1) (hf 6 (by simp)) (mI_elim (i := 7) (G := fun τ => vc Pr (sI regex_bytesOf_p6) τ (xthen (fun τ2 H2 => (mI .i64 (τ2 7) fun x7' => I x7' H2) ∧ μ (gI (τ2 7)) H2 < μ (gI (τ 7)) H1) (regex_bytesOf_q3 Q E)) E H1) hI (fun x7r h => (conv (B := vc Pr (sI regex_bytesOf_p6) (Tau.upd (Tau.upd (Tau.upd (Tau.upd (Tau.upd τ1 0 (.string x0)) 2 (.pointer x2)) 3 (.pointer x3)) 6 (.int .i64 x6)) 7 (.int .i64 x7r)) (xthen (fun τ2 H2 => (mI .i64 (τ2 7) fun x7' => I x7' H2) ∧ μ (gI (τ2 7)) H2 < μ (gI ((Tau.upd (Tau.upd (Tau.upd (Tau.upd (Tau.upd τ1 0 (.string x0)) 2 (.pointer x2)) 3 (.pointer x3)) 6 (.int .i64 x6)) 7 (.int .i64 x7r)) 7)) H1) (regex_bytesOf_q3 Q E)) E H1) (by kernel_rfl) (vc_xthen (regex_bytesOf_10ok (fun x7' H2 => I x7' H2 ∧ μ x7' H2 < μ x7r H1) Q E (Tau.upd (Tau.upd (Tau.upd (Tau.upd (Tau.upd τ1 0 (.string x0)) 2 (.pointer x2)) 3 (.pointer x3)) 6 (.int .i64 x6)) 7 (.int .i64 x7r)) H1 (conv (B := regex_bytesOf_8_M (fun x7' H2 => I x7' H2 ∧ μ x7' H2 < μ x7r H1) Q E (Tau.upd (Tau.upd (Tau.upd (Tau.upd (Tau.upd τ1 0 (.string x0)) 2 (.pointer x2)) 3 (.pointer x3)) 6 (.int .i64 x6)) 7 (.int .i64 x7r)) H1) (by kernel_rfl) (hr x7r H1 h))) (fun τ2 H2 hk => mI_elim (i := 7) (G := fun τ => (mI .i64 (τ 7) fun x7' => I x7' H2) ∧ μ (gI (τ 7)) H2 < μ x7r H1) hk (fun x7' h => h)))))))))))))))))

theorem regex_bytesOf_13ok (Q : QT) (E : ET) (τ : Tau) (H : Heap) (h : regex_bytesOf_11_M Q E τ H) : vc Pr regex_bytesOf_p5 τ (regex_bytesOf_q2 Q E) E H :=
  (conv (B := vc Pr regex_bytesOf_p5 τ (regex_bytesOf_q2 Q E) E H) (by kernel_rfl) (regex_bytesOf_12ok Q E τ H h))

@[reducible] noncomputable def regex_bytesOf_q7 (Q : QT) (E : ET) : Exit → Tau → Heap → Prop := (xthen (regex_bytesOf_11_M Q E) (regex_bytesOf_q2 Q E))

@[reducible] noncomputable def regex_bytesOf_p12 : Code := sA regex_bytesOf_p4

def regex_bytesOf_14 (Q : QT) (E : ET) (x0 : ByteArray) (x2 : OA) (x3 : OA) (H : Heap) : Prop :=
 regex_bytesOf_11 Q E x0 x2 x3 ((ByteArray.size x0 : Nat) : Int) 0 H

def regex_bytesOf_14_M (Q : QT) (E : ET) (τ : Tau) (H : Heap) : Prop := mS (τ 0) fun x0 => mP (τ 2) fun x2 => mP (τ 3) fun x3 => regex_bytesOf_14 Q E x0 x2 x3 H

theorem regex_bytesOf_15ok (Q : QT) (E : ET) (τ : Tau) (H : Heap) (h : regex_bytesOf_14_M Q E τ H) : vc Pr regex_bytesOf_p12 τ (regex_bytesOf_q7 Q E) E H :=
  vS (i := 0) h (fun x0 h => vP (i := 2) h (fun x2 h => vP (i := 3) h (fun x3 h => (conv (by kernel_rfl) h))))

theorem regex_bytesOf_16ok (Q : QT) (E : ET) (τ : Tau) (H : Heap) (h : regex_bytesOf_14_M Q E τ H) : vc Pr regex_bytesOf_p4 τ (regex_bytesOf_q2 Q E) E H :=
  (conv (B := vc Pr regex_bytesOf_p4 τ (regex_bytesOf_q2 Q E) E H) (by kernel_rfl) (vc_seq (K := (regex_bytesOf_11_M Q E)) (regex_bytesOf_15ok Q E τ H h) (regex_bytesOf_13ok Q E)))

theorem regex_bytesOf_17ok (Q : QT) (E : ET) (τ : Tau) (H : Heap) (h : regex_bytesOf_14_M Q E τ H) : vc Pr regex_bytesOf_p2 τ (regex_bytesOf_q1 Q E) E H :=
  (conv (B := vc Pr regex_bytesOf_p2 τ (regex_bytesOf_q1 Q E) E H) (by kernel_rfl) (vc_seq (K := (regex_bytesOf_1_M Q E)) (regex_bytesOf_16ok Q E τ H h) (regex_bytesOf_2ok Q E)))

@[reducible] noncomputable def regex_bytesOf_q8 (Q : QT) (E : ET) : Exit → Tau → Heap → Prop := (xthen (regex_bytesOf_14_M Q E) (regex_bytesOf_q1 Q E))

@[reducible] noncomputable def regex_bytesOf_p13 : Code := sA regex_bytesOf_p1

def regex_bytesOf_18 (Q : QT) (E : ET) (x0 : ByteArray) (x2 : OA) (H : Heap) : Prop :=
 nw (.cells #[(.int .u64 0), (.int .u64 0), (.int .u64 0), (.int .u64 0)] 46 (0, 0)) H fun i42 H43 =>
 regex_bytesOf_14 Q E x0 x2 (some ⟨i42, 0, none⟩) H43

def regex_bytesOf_18_M (Q : QT) (E : ET) (τ : Tau) (H : Heap) : Prop := mS (τ 0) fun x0 => mP (τ 2) fun x2 => regex_bytesOf_18 Q E x0 x2 H

theorem regex_bytesOf_19ok (Q : QT) (E : ET) (τ : Tau) (H : Heap) (h : regex_bytesOf_18_M Q E τ H) : vc Pr regex_bytesOf_p13 τ (regex_bytesOf_q8 Q E) E H :=
  vS (i := 0) h (fun x0 h => vP (i := 2) h (fun x2 h => (conv (by kernel_rfl) h)))

theorem regex_bytesOf_20ok (Q : QT) (E : ET) (τ : Tau) (H : Heap) (h : regex_bytesOf_18_M Q E τ H) : vc Pr regex_bytesOf_p1 τ (regex_bytesOf_q1 Q E) E H :=
  (conv (B := vc Pr regex_bytesOf_p1 τ (regex_bytesOf_q1 Q E) E H) (by kernel_rfl) (vc_seq (K := (regex_bytesOf_14_M Q E)) (regex_bytesOf_19ok Q E τ H h) (regex_bytesOf_17ok Q E)))

@[reducible] noncomputable def regex_bytesOf_q9 (Q : QT) (E : ET) : Exit → Tau → Heap → Prop := (xthen (regex_bytesOf_18_M Q E) (regex_bytesOf_q1 Q E))

@[reducible] noncomputable def regex_bytesOf_p14 : Code := sA regex_bytesOf_p0

def regex_bytesOf (Q : QT) (E : ET) (a0 : ByteArray) (H : Heap) : Prop :=
 nw (.cells #[(.int .u64 0), (.int .u64 0), (.int .u64 0), (.int .u64 0)] 46 (0, 0)) H fun i44 H45 =>
 regex_bytesOf_18 Q E a0 (some ⟨i44, 0, none⟩) H45

theorem regex_bytesOf_fn (a0 : ByteArray) (Q : QT) (E : ET) (H : Heap) (h : regex_bytesOf Q E a0 H)   : Does Pr 112 #[(.string a0)] H Q E :=
  Fn_of_vc (fn := Try.f112) (c := regex_bytesOf_p0) (args := [(.string a0)]) mixed (by kernel_rfl) (by kernel_rfl) (by kernel_rfl) (by kernel_rfl) (by kernel_rfl) ((conv (B := vc Pr regex_bytesOf_p0 (argT [(.string a0)]) (regex_bytesOf_q1 Q E) E H) (by kernel_rfl) (vc_seq (K := (regex_bytesOf_18_M Q E)) (conv (B := vc Pr regex_bytesOf_p14 (argT [(.string a0)]) (regex_bytesOf_q9 Q E) E H) (by kernel_rfl) h) (regex_bytesOf_20ok Q E))))

/-! (*jobmux/regex.parser).class -/
@[reducible] noncomputable def regex_parser_class_q1 (Q : QT) (E : ET) : Exit → Tau → Heap → Prop := (retQ Pr (Try.f113).results.toList Q)

@[reducible] noncomputable def regex_parser_class_p0 : Code := bodyOf Try.f113

@[reducible] noncomputable def regex_parser_class_p1 : Code := sB regex_parser_class_p0

@[reducible] noncomputable def regex_parser_class_p2 : Code := sB regex_parser_class_p1

@[reducible] noncomputable def regex_parser_class_p3 : Code := sB regex_parser_class_p2

@[reducible] noncomputable def regex_parser_class_p4 : Code := sB regex_parser_class_p3

@[reducible] noncomputable def regex_parser_class_p5 : Code := sB regex_parser_class_p4

@[reducible] noncomputable def regex_parser_class_p6 : Code := sB regex_parser_class_p5

@[reducible] noncomputable def regex_parser_class_p7 : Code := sB regex_parser_class_p6

def regex_parser_class_1 (Q : QT) (E : ET) (x2 : OA) (x3 : OA) (H : Heap) : Prop :=
 ptr x3 fun q85 =>
 ∃ n86 n87 n88 n89 : Int, Heap.rd H q85 0 [(.int .u64 n86), (.int .u64 n87), (.int .u64 n88), (.int .u64 n89)] ∧ ptr x2 fun q91 =>
 wr q91 [(.int .u64 n86), (.int .u64 n87), (.int .u64 n88), (.int .u64 n89)] H fun H90 =>
 ptr x2 fun q92 =>
 ∃ n93 n94 n95 n96 : Int, Heap.rd H90 q92 0 [(.int .u64 n93), (.int .u64 n94), (.int .u64 n95), (.int .u64 n96)] ∧ Q (.agg #[(.int .u64 n93), (.int .u64 n94), (.int .u64 n95), (.int .u64 n96)]) H90

def regex_parser_class_1_M (Q : QT) (E : ET) (τ : Tau) (H : Heap) : Prop := mP (τ 2) fun x2 => mP (τ 3) fun x3 => regex_parser_class_1 Q E x2 x3 H

theorem regex_parser_class_2ok (Q : QT) (E : ET) (τ : Tau) (H : Heap) (h : regex_parser_class_1_M Q E τ H) : vc Pr regex_parser_class_p7 τ (regex_parser_class_q1 Q E) E H :=
  vP (i := 2) h (fun x2 h => vP (i := 3) h (fun x3 h => (conv (by kernel_rfl) h)))

@[reducible] noncomputable def regex_parser_class_q2 (Q : QT) (E : ET) : Exit → Tau → Heap → Prop := (xthen (regex_parser_class_1_M Q E) (regex_parser_class_q1 Q E))

@[reducible] noncomputable def regex_parser_class_p8 : Code := sA regex_parser_class_p6

def regex_parser_class_3 (Q : QT) (E : ET) (x2 : OA) (x3 : OA) (x6 : Bool) (H : Heap) : Prop :=
 sel x6
 (ptr x3 fun q97 =>
 ∃ n98 n99 n100 n101 : Int, Heap.rd H q97 0 [(.int .u64 n98), (.int .u64 n99), (.int .u64 n100), (.int .u64 n101)] ∧ Does Pr 111 #[(.agg #[(.int .u64 n98), (.int .u64 n99), (.int .u64 n100), (.int .u64 n101)])] H (fun v102 H103 =>
 ∃ n104 n105 n106 n107 : Int, v102 = (.agg #[(.int .u64 n104), (.int .u64 n105), (.int .u64 n106), (.int .u64 n107)]) ∧ ptr x2 fun q109 =>
 wr q109 [(.int .u64 n104), (.int .u64 n105), (.int .u64 n106), (.int .u64 n107)] H103 fun H108 =>
 ptr x2 fun q110 =>
 ∃ n111 n112 n113 n114 : Int, Heap.rd H108 q110 0 [(.int .u64 n111), (.int .u64 n112), (.int .u64 n113), (.int .u64 n114)] ∧ Q (.agg #[(.int .u64 n111), (.int .u64 n112), (.int .u64 n113), (.int .u64 n114)]) H108) E)
 (regex_parser_class_1 Q E x2 x3 H)

def regex_parser_class_3_M (Q : QT) (E : ET) (τ : Tau) (H : Heap) : Prop := mP (τ 2) fun x2 => mP (τ 3) fun x3 => mB (τ 6) fun x6 => regex_parser_class_3 Q E x2 x3 x6 H

theorem regex_parser_class_4ok (Q : QT) (E : ET) (τ : Tau) (H : Heap) (h : regex_parser_class_3_M Q E τ H) : vc Pr regex_parser_class_p8 τ (regex_parser_class_q2 Q E) E H :=
  vP (i := 2) h (fun x2 h => vP (i := 3) h (fun x3 h => vB (i := 6) h (fun x6 h => (conv (by kernel_rfl) h))))

theorem regex_parser_class_5ok (Q : QT) (E : ET) (τ : Tau) (H : Heap) (h : regex_parser_class_3_M Q E τ H) : vc Pr regex_parser_class_p6 τ (regex_parser_class_q1 Q E) E H :=
  (conv (B := vc Pr regex_parser_class_p6 τ (regex_parser_class_q1 Q E) E H) (by kernel_rfl) (vc_seq (K := (regex_parser_class_1_M Q E)) (regex_parser_class_4ok Q E τ H h) (regex_parser_class_2ok Q E)))

@[reducible] noncomputable def regex_parser_class_q3 (Q : QT) (E : ET) : Exit → Tau → Heap → Prop := (xthen (regex_parser_class_3_M Q E) (regex_parser_class_q1 Q E))

@[reducible] noncomputable def regex_parser_class_p9 : Code := sA regex_parser_class_p5

@[reducible] noncomputable def regex_parser_class_p10 : Code := sB regex_parser_class_p9

@[reducible] noncomputable def regex_parser_class_q4 (Q : QT) (E : ET) : Exit → Tau → Heap → Prop := (xblock 0 (regex_parser_class_q3 Q E))

@[reducible] noncomputable def regex_parser_class_p11 : Code := sI regex_parser_class_p10

@[reducible] noncomputable def regex_parser_class_q5 (nx115 : Bool → HP) (Q : QT) (E : ET) : Exit → Tau → Heap → Prop := (xthen (fun τ H => mB (τ 7) fun x7' => nx115 x7' H) (regex_parser_class_q4 Q E))

@[reducible] noncomputable def regex_parser_class_p12 : Code := sI regex_parser_class_p11

@[reducible] noncomputable def regex_parser_class_p13 : Code := sB regex_parser_class_p12

def regex_parser_class_6 (nx115 : Bool → HP) (Q : QT) (E : ET) (x0 : OA) (x2 : OA) (x3 : OA) (x6 : Bool) (H : Heap) : Prop :=
 nx115 true H

def regex_parser_class_6_M (nx115 : Bool → HP) (Q : QT) (E : ET) (τ : Tau) (H : Heap) : Prop := mP (τ 0) fun x0 => mP (τ 2) fun x2 => mP (τ 3) fun x3 => mB (τ 6) fun x6 => regex_parser_class_6 nx115 Q E x0 x2 x3 x6 H

theorem regex_parser_class_7ok (nx115 : Bool → HP) (Q : QT) (E : ET) (τ : Tau) (H : Heap) (h : regex_parser_class_6_M nx115 Q E τ H) : vc Pr regex_parser_class_p13 τ (regex_parser_class_q5 nx115 Q E) E H :=
  vP (i := 0) h (fun x0 h => vP (i := 2) h (fun x2 h => vP (i := 3) h (fun x3 h => vB (i := 6) h (fun x6 h => (conv (by kernel_rfl) h)))))

@[reducible] noncomputable def regex_parser_class_q6 (nx115 : Bool → HP) (Q : QT) (E : ET) : Exit → Tau → Heap → Prop := (xthen (regex_parser_class_6_M nx115 Q E) (regex_parser_class_q5 nx115 Q E))

@[reducible] noncomputable def regex_parser_class_p14 : Code := sA regex_parser_class_p12

@[reducible] noncomputable def regex_parser_class_q7 (nx115 : Bool → HP) (Q : QT) (E : ET) : Exit → Tau → Heap → Prop := (xblock 1 (regex_parser_class_q6 nx115 Q E))

@[reducible] noncomputable def regex_parser_class_p15 : Code := sI regex_parser_class_p14

@[reducible] noncomputable def regex_parser_class_p16 : Code := sB regex_parser_class_p15

@[reducible] noncomputable def regex_parser_class_p17 : Code := sB regex_parser_class_p16

@[reducible] noncomputable def regex_parser_class_p18 : Code := sB regex_parser_class_p17

@[reducible] noncomputable def regex_parser_class_p19 : Code := sB regex_parser_class_p18

@[reducible] noncomputable def regex_parser_class_p20 : Code := sB regex_parser_class_p19

@[reducible] noncomputable def regex_parser_class_q8 (nx115 : Bool → HP) (Q : QT) (E : ET) : Exit → Tau → Heap → Prop := (xblock 2 (regex_parser_class_q7 nx115 Q E))

@[reducible] noncomputable def regex_parser_class_p21 : Code := sI regex_parser_class_p20

@[reducible] noncomputable def regex_parser_class_q9 (nx115 : Bool → HP) (nx239 : Int → HP) (Q : QT) (E : ET) : Exit → Tau → Heap → Prop := (xthen (fun τ H => mI .i64 (τ 104) fun x104' => nx239 x104' H) (regex_parser_class_q8 nx115 Q E))

@[reducible] noncomputable def regex_parser_class_p22 : Code := sI regex_parser_class_p21

@[reducible] noncomputable def regex_parser_class_p23 : Code := sB regex_parser_class_p22

@[reducible] noncomputable def regex_parser_class_p24 : Code := sB regex_parser_class_p23

def regex_parser_class_8 (nx115 : Bool → HP) (nx239 : Int → HP) (Q : QT) (E : ET) (x0 : OA) (x2 : OA) (x3 : OA) (x6 : Bool) (x11 : OA) (x104 : Int) (H : Heap) : Prop :=
 ptr x3 fun q240 =>
 (0 ≤ (x104 : Int) ∧ (x104 : Int) < ((4 : Nat) : Int)) ∧ ldI .u64 (Addr.add q240 ((x104 : Int).toNat * 1)) H fun n241 =>
 ptr x11 fun q242 =>
 (0 ≤ (x104 : Int) ∧ (x104 : Int) < ((4 : Nat) : Int)) ∧ ldI .u64 (Addr.add q242 ((x104 : Int).toNat * 1)) H fun n243 =>
 ptr x3 fun q244 =>
 (0 ≤ (x104 : Int) ∧ (x104 : Int) < ((4 : Nat) : Int)) ∧ wr (Addr.add q244 ((x104 : Int).toNat * 1)) [(.int .u64 (IntKind.wrap .u64 (BitVec.ofInt (IntKind.bits .u64) n241 ||| BitVec.ofInt (IntKind.bits .u64) n243).toNat))] H fun H245 =>
 nx239 (IntKind.wrap .i64 (x104 + 1)) H245

def regex_parser_class_8_M (nx115 : Bool → HP) (nx239 : Int → HP) (Q : QT) (E : ET) (τ : Tau) (H : Heap) : Prop := mP (τ 0) fun x0 => mP (τ 2) fun x2 => mP (τ 3) fun x3 => mB (τ 6) fun x6 => mP (τ 11) fun x11 => mI .i64 (τ 104) fun x104 => regex_parser_class_8 nx115 nx239 Q E x0 x2 x3 x6 x11 x104 H

theorem regex_parser_class_9ok (nx115 : Bool → HP) (nx239 : Int → HP) (Q : QT) (E : ET) (τ : Tau) (H : Heap) (h : regex_parser_class_8_M nx115 nx239 Q E τ H) : vc Pr regex_parser_class_p24 τ (regex_parser_class_q9 nx115 nx239 Q E) E H :=
  vP (i := 0) h (fun x0 h => vP (i := 2) h (fun x2 h => vP (i := 3) h (fun x3 h => vB (i := 6) h (fun x6 h => vP (i := 11) h (fun x11 h => vI (i := 104) h (fun x104 h => (conv (by kernel_rfl) h)))))))

@[reducible] noncomputable def regex_parser_class_q10 (nx115 : Bool → HP) (nx239 : Int → HP) (Q : QT) (E : ET) : Exit → Tau → Heap → Prop := (xthen (regex_parser_class_8_M nx115 nx239 Q E) (regex_parser_class_q9 nx115 nx239 Q E))

@[reducible] noncomputable def regex_parser_class_p25 : Code := sA regex_parser_class_p23

def regex_parser_class_10 (nx115 : Bool → HP) (nx239 : Int → HP) (Q : QT) (E : ET) (x0 : OA) (x2 : OA) (x3 : OA) (x6 : Bool) (x11 : OA) (x104 : Int) (x105 : Bool) (H : Heap) : Prop :=
 sel x105
 (regex_parser_class_8 nx115 nx239 Q E x0 x2 x3 x6 x11 x104 H)
 (regex_parser_class_6 nx115 Q E x0 x2 x3 x6 H)

def regex_parser_class_10_M (nx115 : Bool → HP) (nx239 : Int → HP) (Q : QT) (E : ET) (τ : Tau) (H : Heap) : Prop := mP (τ 0) fun x0 => mP (τ 2) fun x2 => mP (τ 3) fun x3 => mB (τ 6) fun x6 => mP (τ 11) fun x11 => mI .i64 (τ 104) fun x104 => mB (τ 105) fun x105 => regex_parser_class_10 nx115 nx239 Q E x0 x2 x3 x6 x11 x104 x105 H

theorem regex_parser_class_11ok (nx115 : Bool → HP) (nx239 : Int → HP) (Q : QT) (E : ET) (τ : Tau) (H : Heap) (h : regex_parser_class_10_M nx115 nx239 Q E τ H) : vc Pr regex_parser_class_p25 τ (regex_parser_class_q10 nx115 nx239 Q E) E H :=
  vP (i := 0) h (fun x0 h => vP (i := 2) h (fun x2 h => vP (i := 3) h (fun x3 h => vB (i := 6) h (fun x6 h => vP (i := 11) h (fun x11 h => vI (i := 104) h (fun x104 h => vB (i := 105) h (fun x105 h => (conv (by kernel_rfl) h))))))))

theorem regex_parser_class_12ok (nx115 : Bool → HP) (nx239 : Int → HP) (Q : QT) (E : ET) (τ : Tau) (H : Heap) (h : regex_parser_class_10_M nx115 nx239 Q E τ H) : vc Pr regex_parser_class_p23 τ (regex_parser_class_q9 nx115 nx239 Q E) E H :=
  (conv (B := vc Pr regex_parser_class_p23 τ (regex_parser_class_q9 nx115 nx239 Q E) E H) (by kernel_rfl) (vc_seq (K := (regex_parser_class_8_M nx115 nx239 Q E)) (regex_parser_class_11ok nx115 nx239 Q E τ H h) (regex_parser_class_9ok nx115 nx239 Q E)))

@[reducible] noncomputable def regex_parser_class_q11 (nx115 : Bool → HP) (nx239 : Int → HP) (Q : QT) (E : ET) : Exit → Tau → Heap → Prop := (xthen (regex_parser_class_10_M nx115 nx239 Q E) (regex_parser_class_q9 nx115 nx239 Q E))

@[reducible] noncomputable def regex_parser_class_p26 : Code := sA regex_parser_class_p22

def regex_parser_class_13 (nx115 : Bool → HP) (nx239 : Int → HP) (Q : QT) (E : ET) (x0 : OA) (x2 : OA) (x3 : OA) (x6 : Bool) (x11 : OA) (x104 : Int) (H : Heap) : Prop :=
 regex_parser_class_10 nx115 nx239 Q E x0 x2 x3 x6 x11 x104 (decide ((x104 : Int) < 4)) H

def regex_parser_class_13_M (nx115 : Bool → HP) (nx239 : Int → HP) (Q : QT) (E : ET) (τ : Tau) (H : Heap) : Prop := mP (τ 0) fun x0 => mP (τ 2) fun x2 => mP (τ 3) fun x3 => mB (τ 6) fun x6 => mP (τ 11) fun x11 => mI .i64 (τ 104) fun x104 => regex_parser_class_13 nx115 nx239 Q E x0 x2 x3 x6 x11 x104 H

theorem regex_parser_class_14ok (nx115 : Bool → HP) (nx239 : Int → HP) (Q : QT) (E : ET) (τ : Tau) (H : Heap) (h : regex_parser_class_13_M nx115 nx239 Q E τ H) : vc Pr regex_parser_class_p26 τ (regex_parser_class_q11 nx115 nx239 Q E) E H :=
  vP (i := 0) h (fun x0 h => vP (i := 2) h (fun x2 h => vP (i := 3) h (fun x3 h => vB (i := 6) h (fun x6 h => vP (i := 11) h (fun x11 h => vI (i := 104) h (fun x104 h => (conv (by kernel_rfl) h)))))))

theorem regex_parser_class_15ok (nx115 : Bool → HP) (nx239 : Int → HP) (Q : QT) (E : ET) (τ : Tau) (H : Heap) (h : regex_parser_class_13_M nx115 nx239 Q E τ H) : vc Pr regex_parser_class_p22 τ (regex_parser_class_q9 nx115 nx239 Q E) E H :=
  (conv (B := vc Pr regex_parser_class_p22 τ (regex_parser_class_q9 nx115 nx239 Q E) E H) (by kernel_rfl) (vc_seq (K := (regex_parser_class_10_M nx115 nx239 Q E)) (regex_parser_class_14ok nx115 nx239 Q E τ H h) (regex_parser_class_12ok nx115 nx239 Q E)))

def regex_parser_class_16 (nx115 : Bool → HP) (Q : QT) (E : ET) (x0 : OA) (x2 : OA) (x3 : OA) (x6 : Bool) (x11 : OA) (x104 : Int) (H : Heap) : Prop :=
 ∃ (I : Int → HP) (μ : Int → Heap → Nat), I x104 H ∧ ∀ (x104 : Int) (H : Heap), I x104 H →
 regex_parser_class_13 nx115 (fun x104' H1 => I x104' H1 ∧ μ x104' H1 < μ x104 H) Q E x0 x2 x3 x6 x11 x104 H

def regex_parser_class_16_M (nx115 : Bool → HP) (Q : QT) (E : ET) (τ : Tau) (H : Heap) : Prop := mP (τ 0) fun x0 => mP (τ 2) fun x2 => mP (τ 3) fun x3 => mB (τ 6) fun x6 => mP (τ 11) fun x11 => mI .i64 (τ 104) fun x104 => regex_parser_class_16 nx115 Q E x0 x2 x3 x6 x11 x104 H

theorem regex_parser_class_17ok (nx115 : Bool → HP) (Q : QT) (E : ET) (τ : Tau) (H : Heap) (h : regex_parser_class_16_M nx115 Q E τ H) : vc Pr regex_parser_class_p21 τ (regex_parser_class_q8 nx115 Q E) E H :=
  vP (i := 0) h (fun x0 h => vP (i := 2) h (fun x2 h => vP (i := 3) h (fun x3 h => vB (i := 6) h (fun x6 h => vP (i := 11) h (fun x11 h => vI (i := 104) h (fun x104 h => match h with | ⟨I, μ, h0, hr⟩ => (conv (B := vc Pr regex_parser_class_p21 (Tau.upd (Tau.upd (Tau.upd (Tau.upd (Tau.upd (Tau.upd τ 0 (.pointer x0)) 2 (.pointer x2)) 3 (.pointer x3)) 6 (.bool x6)) 11 (.pointer x11)) 104 (.int .i64 x104)) (regex_parser_class_q8 nx115 Q E) E H) (by kernel_rfl) (vc_loop (c := sI regex_parser_class_p21) (τ := (Tau.upd (Tau.upd (Tau.upd (Tau.upd (Tau.upd (Tau.upd τ 0 (.pointer x0)) 2 (.pointer x2)) 3 (.pointer x3)) 6 (.bool x6)) 11 (.pointer x11)) 104 (.int .i64 x104))) [0, 2, 3, 6, 11] (fun τ H => mI .i64 (τ 104) fun x104' => I x104' H) (fun τ H => μ (gI (τ 104)) H) (by kernel_rfl) h0 (fun τ1 H1 hf hI => fix_elim (τ := τ1) (i := 0) (v := (.pointer x0)) (G := fun τ => vc Pr (sI regex_parser_class_p21) τ (xthen (fun τ2 H2 => (mI .i64 (τ2 104) fun x104' => I x104' H2) ∧ μ (gI (τ2 104)) H2 < μ (gI (τ 104)) H1) (regex_parser_class_q8 nx115 Q E)) E H1) (hf 0 (by simp)) (fix_elim (τ := (Tau.upd τ1 0 (.pointer x0))) (i := 2) (v := (.pointer x2)) (G := fun τ => vc Pr (sI regex_parser_class_p21) τ (xthen (fun τ2 H2 => (mI .i64 (τ2 104) fun x104' => I x104' H2) ∧ μ (gI (τ2 104)) H2 < μ (gI (τ 104)) H1) (regex_parser_class_q8 nx115 Q E)) E H1) (hf 2 (by simp)) (fix_elim (τ := (Tau.upd (Tau.upd τ1 0 (.pointer x0)) 2 (.pointer x2))) (i := 3) (v := (.pointer x3)) (G := fun τ => vc Pr (sI regex_parser_class_p21) τ (xthen (fun τ2 H2 => (mI .i64 (τ2 104) fun x104' => I x104' H2) ∧ μ (gI (τ2 104)) H2 < μ (gI (τ 104)) H1) (regex_parser_class_q8 nx115 Q E)) E H1) (hf 3 (by simp)) (fix_elim (τ := (Tau.upd (Tau.upd (Tau.upd τ1 0 (.pointer x0)) 2 (.pointer x2)) 3 (.pointer x3))) (i := 6) (v := (.bool x6)) (G := fun τ => vc Pr (sI regex_parser_class_p21) τ (xthen (fun τ2 H2 => (mI .i64 (τ2 104) fun x104' => I x104' H2) ∧ μ (gI (τ2 104)) H2 < μ (gI (τ 104)) H1) (regex_parser_class_q8 nx115 Q E)) E H1) (hf 6 (by simp)) (fix_elim (τ := (Tau.upd (Tau.upd (Tau.upd (Tau.upd τ1 0 (.pointer x0)) 2 (.pointer x2)) 3 (.pointer x3)) 6 (.bool x6))) (i := 11) (v := (.pointer x11)) (G := fun τ => vc Pr (sI regex_parser_class_p21) τ (xthen (fun τ2 H2 => (mI .i64 (τ2 104) fun x104' => I x104' H2) ∧ μ (gI (τ2 104)) H2 < μ (gI (τ 104)) H1) (regex_parser_class_q8 nx115 Q E)) E H1) (hf 11 (by simp)) (mI_elim (i := 104) (G := fun τ => vc Pr (sI regex_parser_class_p21) τ (xthen (fun τ2 H2 => (mI .i64 (τ2 104) fun x104' => I x104' H2) ∧ μ (gI (τ2 104)) H2 < μ (gI (τ 104)) H1) (regex_parser_class_q8 nx115 Q E)) E H1) hI (fun x104r h => (conv (B := vc Pr (sI regex_parser_class_p21) (Tau.upd (Tau.upd (Tau.upd (Tau.upd (Tau.upd (Tau.upd τ1 0 (.pointer x0)) 2 (.pointer x2)) 3 (.pointer x3)) 6 (.bool x6)) 11 (.pointer x11)) 104 (.int .i64 x104r)) (xthen (fun τ2 H2 => (mI .i64 (τ2 104) fun x104' => I x104' H2) ∧ μ (gI (τ2 104)) H2 < μ (gI ((Tau.upd (Tau.upd (Tau.upd (Tau.upd (Tau.upd (Tau.upd τ1 0 (.pointer x0)) 2 (.pointer x2)) 3 (.pointer x3)) 6 (.bool x6)) 11 (.pointer x11)) 104 (.int .i64 x104r)) 104)) H1) (regex_parser_class_q8 nx115 Q E)) E H1) (by kernel_rfl) (vc_xthen (regex_parser_class_15ok nx115 (fun x104' H2 => I x104' H2 ∧ μ x104' H2 < μ x104r H1) Q E (Tau.upd (Tau.upd (Tau.upd (Tau.upd (Tau.upd (Tau.upd τ1 0 (.pointer x0)) 2 (.pointer x2)) 3 (.pointer x3)) 6 (.bool x6)) 11 (.pointer x11)) 104 (.int .i64 x104r)) H1 (conv (B := regex_parser_class_13_M nx115 (fun x104' H2 => I x104' H2 ∧ μ x104' H2 < μ x104r H1) Q E (Tau.upd (Tau.upd (Tau.upd (Tau.upd (Tau.upd (Tau.upd τ1 0 (.pointer x0)) 2 (.pointer x2)) 3 (.pointer x3)) 6 (.bool x6)) 11 (.pointer x11)) 104 (.int .i64 x104r)) H1) (by kernel_rfl) (hr x104r H1 h))) (fun τ2 H2 hk => mI_elim (i := 104) (G := fun τ => (mI .i64 (τ 104) fun x104' => I x104' H2) ∧ μ (gI (τ 104)) H2 < μ x104r H1) hk (fun x104' h => h)))))))))))))))))))

theorem regex_parser_class_18ok (nx115 : Bool → HP) (Q : QT) (E : ET) (τ : Tau) (H : Heap) (h : regex_parser_class_16_M nx115 Q E τ H) : vc Pr regex_parser_class_p20 τ (regex_parser_class_q7 nx115 Q E) E H :=
  (conv (B := vc Pr regex_parser_class_p20 τ (regex_parser_class_q7 nx115 Q E) E H) (by kernel_rfl) (regex_parser_class_17ok nx115 Q E τ H h))

@[reducible] noncomputable def regex_parser_class_q12 (nx115 : Bool → HP) (Q : QT) (E : ET) : Exit → Tau → Heap → Prop := (xthen (regex_parser_class_16_M nx115 Q E) (regex_parser_class_q7 nx115 Q E))

@[reducible] noncomputable def regex_parser_class_p27 : Code := sA regex_parser_class_p19

def regex_parser_class_19 (nx115 : Bool → HP) (Q : QT) (E : ET) (x0 : OA) (x2 : OA) (x3 : OA) (x6 : Bool) (x11 : OA) (H : Heap) : Prop :=
 regex_parser_class_16 nx115 Q E x0 x2 x3 x6 x11 0 H

def regex_parser_class_19_M (nx115 : Bool → HP) (Q : QT) (E : ET) (τ : Tau) (H : Heap) : Prop := mP (τ 0) fun x0 => mP (τ 2) fun x2 => mP (τ 3) fun x3 => mB (τ 6) fun x6 => mP (τ 11) fun x11 => regex_parser_class_19 nx115 Q E x0 x2 x3 x6 x11 H

theorem regex_parser_class_20ok (nx115 : Bool → HP) (Q : QT) (E : ET) (τ : Tau) (H : Heap) (h : regex_parser_class_19_M nx115 Q E τ H) : vc Pr regex_parser_class_p27 τ (regex_parser_class_q12 nx115 Q E) E H :=
  vP (i := 0) h (fun x0 h => vP (i := 2) h (fun x2 h => vP (i := 3) h (fun x3 h => vB (i := 6) h (fun x6 h => vP (i := 11) h (fun x11 h => (conv (by kernel_rfl) h))))))

theorem regex_parser_class_21ok (nx115 : Bool → HP) (Q : QT) (E : ET) (τ : Tau) (H : Heap) (h : regex_parser_class_19_M nx115 Q E τ H) : vc Pr regex_parser_class_p19 τ (regex_parser_class_q7 nx115 Q E) E H :=
  (conv (B := vc Pr regex_parser_class_p19 τ (regex_parser_class_q7 nx115 Q E) E H) (by kernel_rfl) (vc_seq (K := (regex_parser_class_16_M nx115 Q E)) (regex_parser_class_20ok nx115 Q E τ H h) (regex_parser_class_18ok nx115 Q E)))

@[reducible] noncomputable def regex_parser_class_q13 (nx115 : Bool → HP) (Q : QT) (E : ET) : Exit → Tau → Heap → Prop := (xthen (regex_parser_class_19_M nx115 Q E) (regex_parser_class_q7 nx115 Q E))

@[reducible] noncomputable def regex_parser_class_p28 : Code := sA regex_parser_class_p18

def regex_parser_class_22 (nx115 : Bool → HP) (Q : QT) (E : ET) (x0 : OA) (x2 : OA) (x3 : OA) (x6 : Bool) (x11 : OA) (H : Heap) : Prop :=
 ptr x0 fun q246 =>
 ldI .i64 (Addr.add q246 4) H fun n247 =>
 sel ((n247 : Int) != 0)
 (ptr x2 fun q249 =>
 wr q249 [(.int .u64 0), (.int .u64 0), (.int .u64 0), (.int .u64 0)] H fun H248 =>
 ptr x2 fun q250 =>
 ∃ n251 n252 n253 n254 : Int, Heap.rd H248 q250 0 [(.int .u64 n251), (.int .u64 n252), (.int .u64 n253), (.int .u64 n254)] ∧ Q (.agg #[(.int .u64 n251), (.int .u64 n252), (.int .u64 n253), (.int .u64 n254)]) H248)
 (regex_parser_class_19 nx115 Q E x0 x2 x3 x6 x11 H)

def regex_parser_class_22_M (nx115 : Bool → HP) (Q : QT) (E : ET) (τ : Tau) (H : Heap) : Prop := mP (τ 0) fun x0 => mP (τ 2) fun x2 => mP (τ 3) fun x3 => mB (τ 6) fun x6 => mP (τ 11) fun x11 => regex_parser_class_22 nx115 Q E x0 x2 x3 x6 x11 H

theorem regex_parser_class_23ok (nx115 : Bool → HP) (Q : QT) (E : ET) (τ : Tau) (H : Heap) (h : regex_parser_class_22_M nx115 Q E τ H) : vc Pr regex_parser_class_p28 τ (regex_parser_class_q13 nx115 Q E) E H :=
  vP (i := 0) h (fun x0 h => vP (i := 2) h (fun x2 h => vP (i := 3) h (fun x3 h => vB (i := 6) h (fun x6 h => vP (i := 11) h (fun x11 h => (conv (by kernel_rfl) h))))))

theorem regex_parser_class_24ok (nx115 : Bool → HP) (Q : QT) (E : ET) (τ : Tau) (H : Heap) (h : regex_parser_class_22_M nx115 Q E τ H) : vc Pr regex_parser_class_p18 τ (regex_parser_class_q7 nx115 Q E) E H :=
  (conv (B := vc Pr regex_parser_class_p18 τ (regex_parser_class_q7 nx115 Q E) E H) (by kernel_rfl) (vc_seq (K := (regex_parser_class_19_M nx115 Q E)) (regex_parser_class_23ok nx115 Q E τ H h) (regex_parser_class_21ok nx115 Q E)))

@[reducible] noncomputable def regex_parser_class_q14 (nx115 : Bool → HP) (Q : QT) (E : ET) : Exit → Tau → Heap → Prop := (xthen (regex_parser_class_22_M nx115 Q E) (regex_parser_class_q7 nx115 Q E))

@[reducible] noncomputable def regex_parser_class_p29 : Code := sA regex_parser_class_p17

@[reducible] noncomputable def regex_parser_class_p30 : Code := sB regex_parser_class_p29

@[reducible] noncomputable def regex_parser_class_p31 : Code := sB regex_parser_class_p30

@[reducible] noncomputable def regex_parser_class_p32 : Code := sT regex_parser_class_p31

@[reducible] noncomputable def regex_parser_class_p33 : Code := sB regex_parser_class_p32

@[reducible] noncomputable def regex_parser_class_p34 : Code := sB regex_parser_class_p33

@[reducible] noncomputable def regex_parser_class_p35 : Code := sB regex_parser_class_p34

def regex_parser_class_25 (nx115 : Bool → HP) (Q : QT) (E : ET) (x0 : OA) (x2 : OA) (x3 : OA) (x6 : Bool) (x10 : Int) (x11 : OA) (x15 : Int) (H : Heap) : Prop :=
 ptr x11 fun q280 =>
 ∃ n281 n282 n283 n284 : Int, Heap.rd H q280 0 [(.int .u64 n281), (.int .u64 n282), (.int .u64 n283), (.int .u64 n284)] ∧ Does Pr 115 #[(.agg #[(.int .u64 n281), (.int .u64 n282), (.int .u64 n283), (.int .u64 n284)]), (.int .u8 x10), (.int .u8 x15)] H (fun v285 H286 =>
 ∃ n287 n288 n289 n290 : Int, v285 = (.agg #[(.int .u64 n287), (.int .u64 n288), (.int .u64 n289), (.int .u64 n290)]) ∧ ptr x11 fun q292 =>
 wr q292 [(.int .u64 n287), (.int .u64 n288), (.int .u64 n289), (.int .u64 n290)] H286 fun H291 =>
 regex_parser_class_22 nx115 Q E x0 x2 x3 x6 x11 H291) E

def regex_parser_class_25_M (nx115 : Bool → HP) (Q : QT) (E : ET) (τ : Tau) (H : Heap) : Prop := mP (τ 0) fun x0 => mP (τ 2) fun x2 => mP (τ 3) fun x3 => mB (τ 6) fun x6 => mI .u8 (τ 10) fun x10 => mP (τ 11) fun x11 => mI .u8 (τ 15) fun x15 => regex_parser_class_25 nx115 Q E x0 x2 x3 x6 x10 x11 x15 H

theorem regex_parser_class_26ok (nx115 : Bool → HP) (Q : QT) (E : ET) (τ : Tau) (H : Heap) (h : regex_parser_class_25_M nx115 Q E τ H) : vc Pr regex_parser_class_p35 τ (regex_parser_class_q14 nx115 Q E) E H :=
  vP (i := 0) h (fun x0 h => vP (i := 2) h (fun x2 h => vP (i := 3) h (fun x3 h => vB (i := 6) h (fun x6 h => vI (i := 10) h (fun x10 h => vP (i := 11) h (fun x11 h => vI (i := 15) h (fun x15 h => (conv (by kernel_rfl) h))))))))

@[reducible] noncomputable def regex_parser_class_q15 (nx115 : Bool → HP) (Q : QT) (E : ET) : Exit → Tau → Heap → Prop := (xthen (regex_parser_class_25_M nx115 Q E) (regex_parser_class_q14 nx115 Q E))

@[reducible] noncomputable def regex_parser_class_p36 : Code := sA regex_parser_class_p34

@[reducible] noncomputable def regex_parser_class_p37 : Code := sB regex_parser_class_p36

def regex_parser_class_27 (nx115 : Bool → HP) (Q : QT) (E : ET) (x0 : OA) (x2 : OA) (x3 : OA) (x6 : Bool) (x10 : Int) (x11 : OA) (x15 : Int) (x91 : Bool) (H : Heap) : Prop :=
 sel x91
 (Does Pr 103 #[(.pointer x0), (.int .i64 80)] H (fun v293 H294 =>
 ∃ n295 : Int, v293 = (.int .i64 n295) ∧ regex_parser_class_25 nx115 Q E x0 x2 x3 x6 x10 x11 x15 H294) E)
 (regex_parser_class_25 nx115 Q E x0 x2 x3 x6 x10 x11 x15 H)

def regex_parser_class_27_M (nx115 : Bool → HP) (Q : QT) (E : ET) (τ : Tau) (H : Heap) : Prop := mP (τ 0) fun x0 => mP (τ 2) fun x2 => mP (τ 3) fun x3 => mB (τ 6) fun x6 => mI .u8 (τ 10) fun x10 => mP (τ 11) fun x11 => mI .u8 (τ 15) fun x15 => mB (τ 91) fun x91 => regex_parser_class_27 nx115 Q E x0 x2 x3 x6 x10 x11 x15 x91 H

theorem regex_parser_class_28ok (nx115 : Bool → HP) (Q : QT) (E : ET) (τ : Tau) (H : Heap) (h : regex_parser_class_27_M nx115 Q E τ H) : vc Pr regex_parser_class_p37 τ (regex_parser_class_q15 nx115 Q E) E H :=
  vP (i := 0) h (fun x0 h => vP (i := 2) h (fun x2 h => vP (i := 3) h (fun x3 h => vB (i := 6) h (fun x6 h => vI (i := 10) h (fun x10 h => vP (i := 11) h (fun x11 h => vI (i := 15) h (fun x15 h => vB (i := 91) h (fun x91 h => (conv (by kernel_rfl) h)))))))))

@[reducible] noncomputable def regex_parser_class_q16 (nx115 : Bool → HP) (Q : QT) (E : ET) : Exit → Tau → Heap → Prop := (xthen (regex_parser_class_27_M nx115 Q E) (regex_parser_class_q15 nx115 Q E))

@[reducible] noncomputable def regex_parser_class_p38 : Code := sA regex_parser_class_p36

def regex_parser_class_29 (nx115 : Bool → HP) (Q : QT) (E : ET) (x0 : OA) (x2 : OA) (x3 : OA) (x6 : Bool) (x10 : Int) (x11 : OA) (x15 : Int) (x17 : Bool) (H : Heap) : Prop :=
 sel x17
 (regex_parser_class_27 nx115 Q E x0 x2 x3 x6 x10 x11 x15 true H)
 (regex_parser_class_27 nx115 Q E x0 x2 x3 x6 x10 x11 x15 (decide ((x15 : Int) < x10)) H)

def regex_parser_class_29_M (nx115 : Bool → HP) (Q : QT) (E : ET) (τ : Tau) (H : Heap) : Prop := mP (τ 0) fun x0 => mP (τ 2) fun x2 => mP (τ 3) fun x3 => mB (τ 6) fun x6 => mI .u8 (τ 10) fun x10 => mP (τ 11) fun x11 => mI .u8 (τ 15) fun x15 => mB (τ 17) fun x17 => regex_parser_class_29 nx115 Q E x0 x2 x3 x6 x10 x11 x15 x17 H

theorem regex_parser_class_30ok (nx115 : Bool → HP) (Q : QT) (E : ET) (τ : Tau) (H : Heap) (h : regex_parser_class_29_M nx115 Q E τ H) : vc Pr regex_parser_class_p38 τ (regex_parser_class_q16 nx115 Q E) E H :=
  vP (i := 0) h (fun x0 h => vP (i := 2) h (fun x2 h => vP (i := 3) h (fun x3 h => vB (i := 6) h (fun x6 h => vI (i := 10) h (fun x10 h => vP (i := 11) h (fun x11 h => vI (i := 15) h (fun x15 h => vB (i := 17) h (fun x17 h => (conv (by kernel_rfl) h)))))))))

theorem regex_parser_class_31ok (nx115 : Bool → HP) (Q : QT) (E : ET) (τ : Tau) (H : Heap) (h : regex_parser_class_29_M nx115 Q E τ H) : vc Pr regex_parser_class_p36 τ (regex_parser_class_q15 nx115 Q E) E H :=
  (conv (B := vc Pr regex_parser_class_p36 τ (regex_parser_class_q15 nx115 Q E) E H) (by kernel_rfl) (vc_seq (K := (regex_parser_class_27_M nx115 Q E)) (regex_parser_class_30ok nx115 Q E τ H h) (regex_parser_class_28ok nx115 Q E)))

theorem regex_parser_class_32ok (nx115 : Bool → HP) (Q : QT) (E : ET) (τ : Tau) (H : Heap) (h : regex_parser_class_29_M nx115 Q E τ H) : vc Pr regex_parser_class_p34 τ (regex_parser_class_q14 nx115 Q E) E H :=
  (conv (B := vc Pr regex_parser_class_p34 τ (regex_parser_class_q14 nx115 Q E) E H) (by kernel_rfl) (vc_seq (K := (regex_parser_class_25_M nx115 Q E)) (regex_parser_class_31ok nx115 Q E τ H h) (regex_parser_class_26ok nx115 Q E)))

@[reducible] noncomputable def regex_parser_class_q17 (nx115 : Bool → HP) (Q : QT) (E : ET) : Exit → Tau → Heap → Prop := (xthen (regex_parser_class_29_M nx115 Q E) (regex_parser_class_q14 nx115 Q E))

@[reducible] noncomputable def regex_parser_class_p39 : Code := sA regex_parser_class_p33

def regex_parser_class_33 (nx115 : Bool → HP) (Q : QT) (E : ET) (x0 : OA) (x2 : OA) (x3 : OA) (x6 : Bool) (x10 : Int) (x11 : OA) (H : Heap) : Prop :=
 Does Pr 119 #[(.pointer x0)] H (fun v296 H297 =>
 ∃ n298 n299 n300 n301 n302 : Int, ∃ b303 : Bool, v296 = (.tuple #[(.int .u8 n298), (.agg #[(.int .u64 n299), (.int .u64 n300), (.int .u64 n301), (.int .u64 n302)]), (.bool b303)]) ∧ nw (.cells #[(.int .u64 0), (.int .u64 0), (.int .u64 0), (.int .u64 0)] 46 (0, 0)) H297 fun i304 H305 =>
 wr ⟨i304, 0, none⟩ [(.int .u64 n299), (.int .u64 n300), (.int .u64 n301), (.int .u64 n302)] H305 fun H306 =>
 regex_parser_class_29 nx115 Q E x0 x2 x3 x6 x10 x11 n298 b303 H306) E

def regex_parser_class_33_M (nx115 : Bool → HP) (Q : QT) (E : ET) (τ : Tau) (H : Heap) : Prop := mP (τ 0) fun x0 => mP (τ 2) fun x2 => mP (τ 3) fun x3 => mB (τ 6) fun x6 => mI .u8 (τ 10) fun x10 => mP (τ 11) fun x11 => regex_parser_class_33 nx115 Q E x0 x2 x3 x6 x10 x11 H

theorem regex_parser_class_34ok (nx115 : Bool → HP) (Q : QT) (E : ET) (τ : Tau) (H : Heap) (h : regex_parser_class_33_M nx115 Q E τ H) : vc Pr regex_parser_class_p39 τ (regex_parser_class_q17 nx115 Q E) E H :=
  vP (i := 0) h (fun x0 h => vP (i := 2) h (fun x2 h => vP (i := 3) h (fun x3 h => vB (i := 6) h (fun x6 h => vI (i := 10) h (fun x10 h => vP (i := 11) h (fun x11 h => (conv (by kernel_rfl) h)))))))

theorem regex_parser_class_35ok (nx115 : Bool → HP) (Q : QT) (E : ET) (τ : Tau) (H : Heap) (h : regex_parser_class_33_M nx115 Q E τ H) : vc Pr regex_parser_class_p33 τ (regex_parser_class_q14 nx115 Q E) E H :=
  (conv (B := vc Pr regex_parser_class_p33 τ (regex_parser_class_q14 nx115 Q E) E H) (by kernel_rfl) (vc_seq (K := (regex_parser_class_29_M nx115 Q E)) (regex_parser_class_34ok nx115 Q E τ H h) (regex_parser_class_32ok nx115 Q E)))

@[reducible] noncomputable def regex_parser_class_q18 (nx115 : Bool → HP) (Q : QT) (E : ET) : Exit → Tau → Heap → Prop := (xthen (regex_parser_class_33_M nx115 Q E) (regex_parser_class_q14 nx115 Q E))

@[reducible] noncomputable def regex_parser_class_p40 : Code := sA regex_parser_class_p32

def regex_parser_class_36 (nx115 : Bool → HP) (Q : QT) (E : ET) (x0 : OA) (x2 : OA) (x3 : OA) (x6 : Bool) (x10 : Int) (x11 : OA) (x12 : Bool) (H : Heap) : Prop :=
 ptr x0 fun q307 =>
 ldI .i64 (Addr.add q307 1) H fun n308 =>
 ptr x0 fun q309 =>
 wr (Addr.add q309 1) [(.int .i64 (IntKind.wrap .i64 (n308 + 1)))] H fun H310 =>
 sel x12
 (Does Pr 103 #[(.pointer x0), (.int .i64 80)] H310 (fun v311 H312 =>
 ∃ n313 : Int, v311 = (.int .i64 n313) ∧ regex_parser_class_33 nx115 Q E x0 x2 x3 x6 x10 x11 H312) E)
 (regex_parser_class_33 nx115 Q E x0 x2 x3 x6 x10 x11 H310)

def regex_parser_class_36_M (nx115 : Bool → HP) (Q : QT) (E : ET) (τ : Tau) (H : Heap) : Prop := mP (τ 0) fun x0 => mP (τ 2) fun x2 => mP (τ 3) fun x3 => mB (τ 6) fun x6 => mI .u8 (τ 10) fun x10 => mP (τ 11) fun x11 => mB (τ 12) fun x12 => regex_parser_class_36 nx115 Q E x0 x2 x3 x6 x10 x11 x12 H

theorem regex_parser_class_37ok (nx115 : Bool → HP) (Q : QT) (E : ET) (τ : Tau) (H : Heap) (h : regex_parser_class_36_M nx115 Q E τ H) : vc Pr regex_parser_class_p40 τ (regex_parser_class_q18 nx115 Q E) E H :=
  vP (i := 0) h (fun x0 h => vP (i := 2) h (fun x2 h => vP (i := 3) h (fun x3 h => vB (i := 6) h (fun x6 h => vI (i := 10) h (fun x10 h => vP (i := 11) h (fun x11 h => vB (i := 12) h (fun x12 h => (conv (by kernel_rfl) h))))))))

theorem regex_parser_class_38ok (nx115 : Bool → HP) (Q : QT) (E : ET) (τ : Tau) (H : Heap) (h : regex_parser_class_36_M nx115 Q E τ H) : vc Pr regex_parser_class_p32 τ (regex_parser_class_q14 nx115 Q E) E H :=
  (conv (B := vc Pr regex_parser_class_p32 τ (regex_parser_class_q14 nx115 Q E) E H) (by kernel_rfl) (vc_seq (K := (regex_parser_class_33_M nx115 Q E)) (regex_parser_class_37ok nx115 Q E τ H h) (regex_parser_class_35ok nx115 Q E)))

@[reducible] noncomputable def regex_parser_class_p41 : Code := sE regex_parser_class_p31

def regex_parser_class_39 (nx115 : Bool → HP) (Q : QT) (E : ET) (x0 : OA) (x2 : OA) (x3 : OA) (x6 : Bool) (x11 : OA) (H : Heap) : Prop :=
 regex_parser_class_22 nx115 Q E x0 x2 x3 x6 x11 H

def regex_parser_class_39_M (nx115 : Bool → HP) (Q : QT) (E : ET) (τ : Tau) (H : Heap) : Prop := mP (τ 0) fun x0 => mP (τ 2) fun x2 => mP (τ 3) fun x3 => mB (τ 6) fun x6 => mP (τ 11) fun x11 => regex_parser_class_39 nx115 Q E x0 x2 x3 x6 x11 H

theorem regex_parser_class_40ok (nx115 : Bool → HP) (Q : QT) (E : ET) (τ : Tau) (H : Heap) (h : regex_parser_class_39_M nx115 Q E τ H) : vc Pr regex_parser_class_p41 τ (regex_parser_class_q14 nx115 Q E) E H :=
  vP (i := 0) h (fun x0 h => vP (i := 2) h (fun x2 h => vP (i := 3) h (fun x3 h => vB (i := 6) h (fun x6 h => vP (i := 11) h (fun x11 h => (conv (by kernel_rfl) h))))))

def regex_parser_class_41 (nx115 : Bool → HP) (Q : QT) (E : ET) (x0 : OA) (x2 : OA) (x3 : OA) (x6 : Bool) (x10 : Int) (x11 : OA) (x12 : Bool) (x69 : Bool) (H : Heap) : Prop :=
 sel x69
 (regex_parser_class_36 nx115 Q E x0 x2 x3 x6 x10 x11 x12 H)
 (regex_parser_class_39 nx115 Q E x0 x2 x3 x6 x11 H)

def regex_parser_class_41_M (nx115 : Bool → HP) (Q : QT) (E : ET) (τ : Tau) (H : Heap) : Prop := mP (τ 0) fun x0 => mP (τ 2) fun x2 => mP (τ 3) fun x3 => mB (τ 6) fun x6 => mI .u8 (τ 10) fun x10 => mP (τ 11) fun x11 => mB (τ 12) fun x12 => mB (τ 69) fun x69 => regex_parser_class_41 nx115 Q E x0 x2 x3 x6 x10 x11 x12 x69 H

theorem regex_parser_class_42ok (nx115 : Bool → HP) (Q : QT) (E : ET) (τ : Tau) (H : Heap) (h : regex_parser_class_41_M nx115 Q E τ H) : vc Pr regex_parser_class_p31 τ (regex_parser_class_q14 nx115 Q E) E H :=
  vP (i := 0) h (fun x0 h => vP (i := 2) h (fun x2 h => vP (i := 3) h (fun x3 h => vB (i := 6) h (fun x6 h => vI (i := 10) h (fun x10 h => vP (i := 11) h (fun x11 h => vB (i := 12) h (fun x12 h => vB (i := 69) h (fun x69 h => (conv (B := vc Pr regex_parser_class_p31 (Tau.upd (Tau.upd (Tau.upd (Tau.upd (Tau.upd (Tau.upd (Tau.upd (Tau.upd τ 0 (.pointer x0)) 2 (.pointer x2)) 3 (.pointer x3)) 6 (.bool x6)) 10 (.int .u8 x10)) 11 (.pointer x11)) 12 (.bool x12)) 69 (.bool x69)) (regex_parser_class_q14 nx115 Q E) E H) (by kernel_rfl) (sel_map (regex_parser_class_38ok nx115 Q E (Tau.upd (Tau.upd (Tau.upd (Tau.upd (Tau.upd (Tau.upd (Tau.upd (Tau.upd τ 0 (.pointer x0)) 2 (.pointer x2)) 3 (.pointer x3)) 6 (.bool x6)) 10 (.int .u8 x10)) 11 (.pointer x11)) 12 (.bool x12)) 69 (.bool x69)) H) (regex_parser_class_40ok nx115 Q E (Tau.upd (Tau.upd (Tau.upd (Tau.upd (Tau.upd (Tau.upd (Tau.upd (Tau.upd τ 0 (.pointer x0)) 2 (.pointer x2)) 3 (.pointer x3)) 6 (.bool x6)) 10 (.int .u8 x10)) 11 (.pointer x11)) 12 (.bool x12)) 69 (.bool x69)) H) (conv (B := sel x69 (regex_parser_class_36_M nx115 Q E (Tau.upd (Tau.upd (Tau.upd (Tau.upd (Tau.upd (Tau.upd (Tau.upd (Tau.upd τ 0 (.pointer x0)) 2 (.pointer x2)) 3 (.pointer x3)) 6 (.bool x6)) 10 (.int .u8 x10)) 11 (.pointer x11)) 12 (.bool x12)) 69 (.bool x69)) H) (regex_parser_class_39_M nx115 Q E (Tau.upd (Tau.upd (Tau.upd (Tau.upd (Tau.upd (Tau.upd (Tau.upd (Tau.upd τ 0 (.pointer x0)) 2 (.pointer x2)) 3 (.pointer x3)) 6 (.bool x6)) 10 (.int .u8 x10)) 11 (.pointer x11)) 12 (.bool x12)) 69 (.bool x69)) H)) (by kernel_rfl) h)))))))))))

@[reducible] noncomputable def regex_parser_class_q19 (nx115 : Bool → HP) (Q : QT) (E : ET) : Exit → Tau → Heap → Prop := (xthen (regex_parser_class_41_M nx115 Q E) (regex_parser_class_q14 nx115 Q E))

@[reducible] noncomputable def regex_parser_class_p42 : Code := sA regex_parser_class_p30

def regex_parser_class_43 (nx115 : Bool → HP) (Q : QT) (E : ET) (x0 : OA) (x2 : OA) (x3 : OA) (x6 : Bool) (x10 : Int) (x11 : OA) (x12 : Bool) (x13 : Int) (x14 : Bool) (H : Heap) : Prop :=
 sel x14
 (regex_parser_class_41 nx115 Q E x0 x2 x3 x6 x10 x11 x12 ((x13 : Int) == 45) H)
 (regex_parser_class_41 nx115 Q E x0 x2 x3 x6 x10 x11 x12 false H)

def regex_parser_class_43_M (nx115 : Bool → HP) (Q : QT) (E : ET) (τ : Tau) (H : Heap) : Prop := mP (τ 0) fun x0 => mP (τ 2) fun x2 => mP (τ 3) fun x3 => mB (τ 6) fun x6 => mI .u8 (τ 10) fun x10 => mP (τ 11) fun x11 => mB (τ 12) fun x12 => mI .u8 (τ 13) fun x13 => mB (τ 14) fun x14 => regex_parser_class_43 nx115 Q E x0 x2 x3 x6 x10 x11 x12 x13 x14 H

theorem regex_parser_class_44ok (nx115 : Bool → HP) (Q : QT) (E : ET) (τ : Tau) (H : Heap) (h : regex_parser_class_43_M nx115 Q E τ H) : vc Pr regex_parser_class_p42 τ (regex_parser_class_q19 nx115 Q E) E H :=
  vP (i := 0) h (fun x0 h => vP (i := 2) h (fun x2 h => vP (i := 3) h (fun x3 h => vB (i := 6) h (fun x6 h => vI (i := 10) h (fun x10 h => vP (i := 11) h (fun x11 h => vB (i := 12) h (fun x12 h => vI (i := 13) h (fun x13 h => vB (i := 14) h (fun x14 h => (conv (by kernel_rfl) h))))))))))

theorem regex_parser_class_45ok (nx115 : Bool → HP) (Q : QT) (E : ET) (τ : Tau) (H : Heap) (h : regex_parser_class_43_M nx115 Q E τ H) : vc Pr regex_parser_class_p30 τ (regex_parser_class_q14 nx115 Q E) E H :=
  (conv (B := vc Pr regex_parser_class_p30 τ (regex_parser_class_q14 nx115 Q E) E H) (by kernel_rfl) (vc_seq (K := (regex_parser_class_41_M nx115 Q E)) (regex_parser_class_44ok nx115 Q E τ H h) (regex_parser_class_42ok nx115 Q E)))

@[reducible] noncomputable def regex_parser_class_q20 (nx115 : Bool → HP) (Q : QT) (E : ET) : Exit → Tau → Heap → Prop := (xthen (regex_parser_class_43_M nx115 Q E) (regex_parser_class_q14 nx115 Q E))

@[reducible] noncomputable def regex_parser_class_p43 : Code := sA regex_parser_class_p29

def regex_parser_class_46 (nx115 : Bool → HP) (Q : QT) (E : ET) (x0 : OA) (x2 : OA) (x3 : OA) (x6 : Bool) (x10 : Int) (x11 : OA) (x12 : Bool) (H : Heap) : Prop :=
 Does Pr 94 #[(.pointer x0)] H (fun v314 H315 =>
 ∃ n316 : Int, ∃ b317 : Bool, v314 = (.tuple #[(.int .u8 n316), (.bool b317)]) ∧ regex_parser_class_43 nx115 Q E x0 x2 x3 x6 x10 x11 x12 n316 b317 H315) E

def regex_parser_class_46_M (nx115 : Bool → HP) (Q : QT) (E : ET) (τ : Tau) (H : Heap) : Prop := mP (τ 0) fun x0 => mP (τ 2) fun x2 => mP (τ 3) fun x3 => mB (τ 6) fun x6 => mI .u8 (τ 10) fun x10 => mP (τ 11) fun x11 => mB (τ 12) fun x12 => regex_parser_class_46 nx115 Q E x0 x2 x3 x6 x10 x11 x12 H

theorem regex_parser_class_47ok (nx115 : Bool → HP) (Q : QT) (E : ET) (τ : Tau) (H : Heap) (h : regex_parser_class_46_M nx115 Q E τ H) : vc Pr regex_parser_class_p43 τ (regex_parser_class_q20 nx115 Q E) E H :=
  vP (i := 0) h (fun x0 h => vP (i := 2) h (fun x2 h => vP (i := 3) h (fun x3 h => vB (i := 6) h (fun x6 h => vI (i := 10) h (fun x10 h => vP (i := 11) h (fun x11 h => vB (i := 12) h (fun x12 h => (conv (by kernel_rfl) h))))))))

theorem regex_parser_class_48ok (nx115 : Bool → HP) (Q : QT) (E : ET) (τ : Tau) (H : Heap) (h : regex_parser_class_46_M nx115 Q E τ H) : vc Pr regex_parser_class_p29 τ (regex_parser_class_q14 nx115 Q E) E H :=
  (conv (B := vc Pr regex_parser_class_p29 τ (regex_parser_class_q14 nx115 Q E) E H) (by kernel_rfl) (vc_seq (K := (regex_parser_class_43_M nx115 Q E)) (regex_parser_class_47ok nx115 Q E τ H h) (regex_parser_class_45ok nx115 Q E)))

theorem regex_parser_class_49ok (nx115 : Bool → HP) (Q : QT) (E : ET) (τ : Tau) (H : Heap) (h : regex_parser_class_46_M nx115 Q E τ H) : vc Pr regex_parser_class_p17 τ (regex_parser_class_q7 nx115 Q E) E H :=
  (conv (B := vc Pr regex_parser_class_p17 τ (regex_parser_class_q7 nx115 Q E) E H) (by kernel_rfl) (vc_seq (K := (regex_parser_class_22_M nx115 Q E)) (regex_parser_class_48ok nx115 Q E τ H h) (regex_parser_class_24ok nx115 Q E)))

@[reducible] noncomputable def regex_parser_class_q21 (nx115 : Bool → HP) (Q : QT) (E : ET) : Exit → Tau → Heap → Prop := (xthen (regex_parser_class_46_M nx115 Q E) (regex_parser_class_q7 nx115 Q E))

@[reducible] noncomputable def regex_parser_class_p44 : Code := sA regex_parser_class_p16

def regex_parser_class_50 (nx115 : Bool → HP) (Q : QT) (E : ET) (x0 : OA) (x2 : OA) (x3 : OA) (x6 : Bool) (H : Heap) : Prop :=
 Does Pr 119 #[(.pointer x0)] H (fun v318 H319 =>
 ∃ n320 n321 n322 n323 n324 : Int, ∃ b325 : Bool, v318 = (.tuple #[(.int .u8 n320), (.agg #[(.int .u64 n321), (.int .u64 n322), (.int .u64 n323), (.int .u64 n324)]), (.bool b325)]) ∧ nw (.cells #[(.int .u64 0), (.int .u64 0), (.int .u64 0), (.int .u64 0)] 46 (0, 0)) H319 fun i326 H327 =>
 wr ⟨i326, 0, none⟩ [(.int .u64 n321), (.int .u64 n322), (.int .u64 n323), (.int .u64 n324)] H327 fun H328 =>
 regex_parser_class_46 nx115 Q E x0 x2 x3 x6 n320 (some ⟨i326, 0, none⟩) b325 H328) E

def regex_parser_class_50_M (nx115 : Bool → HP) (Q : QT) (E : ET) (τ : Tau) (H : Heap) : Prop := mP (τ 0) fun x0 => mP (τ 2) fun x2 => mP (τ 3) fun x3 => mB (τ 6) fun x6 => regex_parser_class_50 nx115 Q E x0 x2 x3 x6 H

theorem regex_parser_class_51ok (nx115 : Bool → HP) (Q : QT) (E : ET) (τ : Tau) (H : Heap) (h : regex_parser_class_50_M nx115 Q E τ H) : vc Pr regex_parser_class_p44 τ (regex_parser_class_q21 nx115 Q E) E H :=
  vP (i := 0) h (fun x0 h => vP (i := 2) h (fun x2 h => vP (i := 3) h (fun x3 h => vB (i := 6) h (fun x6 h => (conv (by kernel_rfl) h)))))

theorem regex_parser_class_52ok (nx115 : Bool → HP) (Q : QT) (E : ET) (τ : Tau) (H : Heap) (h : regex_parser_class_50_M nx115 Q E τ H) : vc Pr regex_parser_class_p16 τ (regex_parser_class_q7 nx115 Q E) E H :=
  (conv (B := vc Pr regex_parser_class_p16 τ (regex_parser_class_q7 nx115 Q E) E H) (by kernel_rfl) (vc_seq (K := (regex_parser_class_46_M nx115 Q E)) (regex_parser_class_51ok nx115 Q E τ H h) (regex_parser_class_49ok nx115 Q E)))

@[reducible] noncomputable def regex_parser_class_q22 (nx115 : Bool → HP) (Q : QT) (E : ET) : Exit → Tau → Heap → Prop := (xthen (regex_parser_class_50_M nx115 Q E) (regex_parser_class_q7 nx115 Q E))

@[reducible] noncomputable def regex_parser_class_p45 : Code := sA regex_parser_class_p15

@[reducible] noncomputable def regex_parser_class_p46 : Code := sB regex_parser_class_p45

@[reducible] noncomputable def regex_parser_class_p47 : Code := sB regex_parser_class_p46

def regex_parser_class_53 (nx115 : Bool → HP) (Q : QT) (E : ET) (x0 : OA) (x2 : OA) (x3 : OA) (x6 : Bool) (x46 : Bool) (H : Heap) : Prop :=
 sel x46
 (ptr x0 fun q333 =>
 ldI .i64 (Addr.add q333 1) H fun n334 =>
 ptr x0 fun q335 =>
 wr (Addr.add q335 1) [(.int .i64 (IntKind.wrap .i64 (n334 + 1)))] H fun H336 =>
 regex_parser_class_3 Q E x2 x3 x6 H336)
 (regex_parser_class_50 nx115 Q E x0 x2 x3 x6 H)

def regex_parser_class_53_M (nx115 : Bool → HP) (Q : QT) (E : ET) (τ : Tau) (H : Heap) : Prop := mP (τ 0) fun x0 => mP (τ 2) fun x2 => mP (τ 3) fun x3 => mB (τ 6) fun x6 => mB (τ 46) fun x46 => regex_parser_class_53 nx115 Q E x0 x2 x3 x6 x46 H

theorem regex_parser_class_54ok (nx115 : Bool → HP) (Q : QT) (E : ET) (τ : Tau) (H : Heap) (h : regex_parser_class_53_M nx115 Q E τ H) : vc Pr regex_parser_class_p47 τ (regex_parser_class_q22 nx115 Q E) E H :=
  vP (i := 0) h (fun x0 h => vP (i := 2) h (fun x2 h => vP (i := 3) h (fun x3 h => vB (i := 6) h (fun x6 h => vB (i := 46) h (fun x46 h => (conv (by kernel_rfl) h))))))

@[reducible] noncomputable def regex_parser_class_q23 (nx115 : Bool → HP) (Q : QT) (E : ET) : Exit → Tau → Heap → Prop := (xthen (regex_parser_class_53_M nx115 Q E) (regex_parser_class_q22 nx115 Q E))

@[reducible] noncomputable def regex_parser_class_p48 : Code := sA regex_parser_class_p46

def regex_parser_class_55 (nx115 : Bool → HP) (Q : QT) (E : ET) (x0 : OA) (x2 : OA) (x3 : OA) (x6 : Bool) (x7 : Bool) (x8 : Int) (x9 : Bool) (H : Heap) : Prop :=
 sel x9
 (sel ((x8 : Int) == 93)
 (regex_parser_class_53 nx115 Q E x0 x2 x3 x6 x7 H)
 (regex_parser_class_53 nx115 Q E x0 x2 x3 x6 false H))
 (regex_parser_class_53 nx115 Q E x0 x2 x3 x6 false H)

def regex_parser_class_55_M (nx115 : Bool → HP) (Q : QT) (E : ET) (τ : Tau) (H : Heap) : Prop := mP (τ 0) fun x0 => mP (τ 2) fun x2 => mP (τ 3) fun x3 => mB (τ 6) fun x6 => mB (τ 7) fun x7 => mI .u8 (τ 8) fun x8 => mB (τ 9) fun x9 => regex_parser_class_55 nx115 Q E x0 x2 x3 x6 x7 x8 x9 H

theorem regex_parser_class_56ok (nx115 : Bool → HP) (Q : QT) (E : ET) (τ : Tau) (H : Heap) (h : regex_parser_class_55_M nx115 Q E τ H) : vc Pr regex_parser_class_p48 τ (regex_parser_class_q23 nx115 Q E) E H :=
  vP (i := 0) h (fun x0 h => vP (i := 2) h (fun x2 h => vP (i := 3) h (fun x3 h => vB (i := 6) h (fun x6 h => vB (i := 7) h (fun x7 h => vI (i := 8) h (fun x8 h => vB (i := 9) h (fun x9 h => (conv (by kernel_rfl) h))))))))

theorem regex_parser_class_57ok (nx115 : Bool → HP) (Q : QT) (E : ET) (τ : Tau) (H : Heap) (h : regex_parser_class_55_M nx115 Q E τ H) : vc Pr regex_parser_class_p46 τ (regex_parser_class_q22 nx115 Q E) E H :=
  (conv (B := vc Pr regex_parser_class_p46 τ (regex_parser_class_q22 nx115 Q E) E H) (by kernel_rfl) (vc_seq (K := (regex_parser_class_53_M nx115 Q E)) (regex_parser_class_56ok nx115 Q E τ H h) (regex_parser_class_54ok nx115 Q E)))

@[reducible] noncomputable def regex_parser_class_q24 (nx115 : Bool → HP) (Q : QT) (E : ET) : Exit → Tau → Heap → Prop := (xthen (regex_parser_class_55_M nx115 Q E) (regex_parser_class_q22 nx115 Q E))

@[reducible] noncomputable def regex_parser_class_p49 : Code := sA regex_parser_class_p45

def regex_parser_class_58 (nx115 : Bool → HP) (Q : QT) (E : ET) (x0 : OA) (x2 : OA) (x3 : OA) (x6 : Bool) (x7 : Bool) (H : Heap) : Prop :=
 Does Pr 94 #[(.pointer x0)] H (fun v337 H338 =>
 ∃ n339 : Int, ∃ b340 : Bool, v337 = (.tuple #[(.int .u8 n339), (.bool b340)]) ∧ regex_parser_class_55 nx115 Q E x0 x2 x3 x6 x7 n339 b340 H338) E

def regex_parser_class_58_M (nx115 : Bool → HP) (Q : QT) (E : ET) (τ : Tau) (H : Heap) : Prop := mP (τ 0) fun x0 => mP (τ 2) fun x2 => mP (τ 3) fun x3 => mB (τ 6) fun x6 => mB (τ 7) fun x7 => regex_parser_class_58 nx115 Q E x0 x2 x3 x6 x7 H

theorem regex_parser_class_59ok (nx115 : Bool → HP) (Q : QT) (E : ET) (τ : Tau) (H : Heap) (h : regex_parser_class_58_M nx115 Q E τ H) : vc Pr regex_parser_class_p49 τ (regex_parser_class_q24 nx115 Q E) E H :=
  vP (i := 0) h (fun x0 h => vP (i := 2) h (fun x2 h => vP (i := 3) h (fun x3 h => vB (i := 6) h (fun x6 h => vB (i := 7) h (fun x7 h => (conv (by kernel_rfl) h))))))

theorem regex_parser_class_60ok (nx115 : Bool → HP) (Q : QT) (E : ET) (τ : Tau) (H : Heap) (h : regex_parser_class_58_M nx115 Q E τ H) : vc Pr regex_parser_class_p45 τ (regex_parser_class_q22 nx115 Q E) E H :=
  (conv (B := vc Pr regex_parser_class_p45 τ (regex_parser_class_q22 nx115 Q E) E H) (by kernel_rfl) (vc_seq (K := (regex_parser_class_55_M nx115 Q E)) (regex_parser_class_59ok nx115 Q E τ H h) (regex_parser_class_57ok nx115 Q E)))

theorem regex_parser_class_61ok (nx115 : Bool → HP) (Q : QT) (E : ET) (τ : Tau) (H : Heap) (h : regex_parser_class_58_M nx115 Q E τ H) : vc Pr regex_parser_class_p15 τ (regex_parser_class_q7 nx115 Q E) E H :=
  (conv (B := vc Pr regex_parser_class_p15 τ (regex_parser_class_q7 nx115 Q E) E H) (by kernel_rfl) (vc_seq (K := (regex_parser_class_50_M nx115 Q E)) (regex_parser_class_60ok nx115 Q E τ H h) (regex_parser_class_52ok nx115 Q E)))

theorem regex_parser_class_62ok (nx115 : Bool → HP) (Q : QT) (E : ET) (τ : Tau) (H : Heap) (h : regex_parser_class_58_M nx115 Q E τ H) : vc Pr regex_parser_class_p14 τ (regex_parser_class_q6 nx115 Q E) E H :=
  (conv (B := vc Pr regex_parser_class_p14 τ (regex_parser_class_q6 nx115 Q E) E H) (by kernel_rfl) (regex_parser_class_61ok nx115 Q E τ H h))

theorem regex_parser_class_63ok (nx115 : Bool → HP) (Q : QT) (E : ET) (τ : Tau) (H : Heap) (h : regex_parser_class_58_M nx115 Q E τ H) : vc Pr regex_parser_class_p12 τ (regex_parser_class_q5 nx115 Q E) E H :=
  (conv (B := vc Pr regex_parser_class_p12 τ (regex_parser_class_q5 nx115 Q E) E H) (by kernel_rfl) (vc_seq (K := (regex_parser_class_6_M nx115 Q E)) (regex_parser_class_62ok nx115 Q E τ H h) (regex_parser_class_7ok nx115 Q E)))

def regex_parser_class_64 (Q : QT) (E : ET) (x0 : OA) (x2 : OA) (x3 : OA) (x6 : Bool) (x7 : Bool) (H : Heap) : Prop :=
 ∃ (I : Bool → HP) (μ : Bool → Heap → Nat), I x7 H ∧ ∀ (x7 : Bool) (H : Heap), I x7 H →
 regex_parser_class_58 (fun x7' H1 => I x7' H1 ∧ μ x7' H1 < μ x7 H) Q E x0 x2 x3 x6 x7 H

def regex_parser_class_64_M (Q : QT) (E : ET) (τ : Tau) (H : Heap) : Prop := mP (τ 0) fun x0 => mP (τ 2) fun x2 => mP (τ 3) fun x3 => mB (τ 6) fun x6 => mB (τ 7) fun x7 => regex_parser_class_64 Q E x0 x2 x3 x6 x7 H

theorem regex_parser_class_65ok (Q : QT) (E : ET) (τ : Tau) (H : Heap) (h : regex_parser_class_64_M Q E τ H) : vc Pr regex_parser_class_p11 τ (regex_parser_class_q4 Q E) E H :=
  vP (i := 0) h (fun x0 h => vP (i := 2) h (fun x2 h => vP (i := 3) h (fun x3 h => vB (i := 6) h (fun x6 h => vB (i := 7) h (fun x7 h => match h with | ⟨I, μ, h0, hr⟩ => (conv (B := vc Pr regex_parser_class_p11 (Tau.upd (Tau.upd (Tau.upd (Tau.upd (Tau.upd τ 0 (.pointer x0)) 2 (.pointer x2)) 3 (.pointer x3)) 6 (.bool x6)) 7 (.bool x7)) (regex_parser_class_q4 Q E) E H) (by kernel_rfl) (vc_loop (c := sI regex_parser_class_p11) (τ := (Tau.upd (Tau.upd (Tau.upd (Tau.upd (Tau.upd τ 0 (.pointer x0)) 2 (.pointer x2)) 3 (.pointer x3)) 6 (.bool x6)) 7 (.bool x7))) [0, 2, 3, 6] (fun τ H => mB (τ 7) fun x7' => I x7' H) (fun τ H => μ (gB (τ 7)) H) (by kernel_rfl) h0 (fun τ1 H1 hf hI => fix_elim (τ := τ1) (i := 0) (v := (.pointer x0)) (G := fun τ => vc Pr (sI regex_parser_class_p11) τ (xthen (fun τ2 H2 => (mB (τ2 7) fun x7' => I x7' H2) ∧ μ (gB (τ2 7)) H2 < μ (gB (τ 7)) H1) (regex_parser_class_q4 Q E)) E H1) (hf 0 (by simp)) (fix_elim (τ := (Tau.upd τ1 0 (.pointer x0))) (i := 2) (v := (.pointer x2)) (G := fun τ => vc Pr (sI regex_parser_class_p11) τ (xthen (fun τ2 H2 => (mB (τ2 7) fun x7' => I x7' H2) ∧ μ (gB (τ2 7)) H2 < μ (gB (τ 7)) H1) (regex_parser_class_q4 Q E)) E H1) (hf 2 (by simp)) (fix_elim (τ := (Tau.upd (Tau.upd τ1 0 (.pointer x0)) 2 (.pointer x2))) (i := 3) (v := (.pointer x3)) (G := fun τ => vc Pr (sI regex_parser_class_p11) τ (xthen (fun τ2 H2 => (mB (τ2 7) fun x7' => I x7' H2) ∧ μ (gB (τ2 7)) H2 < μ (gB (τ 7)) H1) (regex_parser_class_q4 Q E)) E H1) (hf 3 (by simp)) (fix_elim (τ := (Tau.upd (Tau.upd (Tau.upd τ1 0 (.pointer x0)) 2 (.pointer x2)) 3 (.pointer x3))) (i := 6) (v := (.bool x6)) (G := fun τ => vc Pr (sI regex_parser_class_p11) τ (xthen (fun τ2 H2 => (mB (τ2 7) fun x7' => I x7' H2) ∧ μ (gB (τ2 7)) H2 < μ (gB (τ 7)) H1) (regex_parser_class_q4 Q E)) E H1) (hf 6 (by simp)) (mB_elim (i := 7) (G := fun τ => vc Pr (sI regex_parser_class_p11) τ (xthen (fun τ2 H2 => (mB (τ2 7) fun x7' => I x7' H2) ∧ μ (gB (τ2 7)) H2 < μ (gB (τ 7)) H1) (regex_parser_class_q4 Q E)) E H1) hI (fun x7r h => (conv (B := vc Pr (sI regex_parser_class_p11) (Tau.upd (Tau.upd (Tau.upd (Tau.upd (Tau.upd τ1 0 (.pointer x0)) 2 (.pointer x2)) 3 (.pointer x3)) 6 (.bool x6)) 7 (.bool x7r)) (xthen (fun τ2 H2 => (mB (τ2 7) fun x7' => I x7' H2) ∧ μ (gB (τ2 7)) H2 < μ (gB ((Tau.upd (Tau.upd (Tau.upd (Tau.upd (Tau.upd τ1 0 (.pointer x0)) 2 (.pointer x2)) 3 (.pointer x3)) 6 (.bool x6)) 7 (.bool x7r)) 7)) H1) (regex_parser_class_q4 Q E)) E H1) (by kernel_rfl) (vc_xthen (regex_parser_class_63ok (fun x7' H2 => I x7' H2 ∧ μ x7' H2 < μ x7r H1) Q E (Tau.upd (Tau.upd (Tau.upd (Tau.upd (Tau.upd τ1 0 (.pointer x0)) 2 (.pointer x2)) 3 (.pointer x3)) 6 (.bool x6)) 7 (.bool x7r)) H1 (conv (B := regex_parser_class_58_M (fun x7' H2 => I x7' H2 ∧ μ x7' H2 < μ x7r H1) Q E (Tau.upd (Tau.upd (Tau.upd (Tau.upd (Tau.upd τ1 0 (.pointer x0)) 2 (.pointer x2)) 3 (.pointer x3)) 6 (.bool x6)) 7 (.bool x7r)) H1) (by kernel_rfl) (hr x7r H1 h))) (fun τ2 H2 hk => mB_elim (i := 7) (G := fun τ => (mB (τ 7) fun x7' => I x7' H2) ∧ μ (gB (τ 7)) H2 < μ x7r H1) hk (fun x7' h => h)))))))))))))))))

theorem regex_parser_class_66ok (Q : QT) (E : ET) (τ : Tau) (H : Heap) (h : regex_parser_class_64_M Q E τ H) : vc Pr regex_parser_class_p10 τ (regex_parser_class_q3 Q E) E H :=
  (conv (B := vc Pr regex_parser_class_p10 τ (regex_parser_class_q3 Q E) E H) (by kernel_rfl) (regex_parser_class_65ok Q E τ H h))

@[reducible] noncomputable def regex_parser_class_q25 (Q : QT) (E : ET) : Exit → Tau → Heap → Prop := (xthen (regex_parser_class_64_M Q E) (regex_parser_class_q3 Q E))

@[reducible] noncomputable def regex_parser_class_p50 : Code := sA regex_parser_class_p9

def regex_parser_class_67 (Q : QT) (E : ET) (x0 : OA) (x2 : OA) (x3 : OA) (x6 : Bool) (H : Heap) : Prop :=
 regex_parser_class_64 Q E x0 x2 x3 x6 false H

def regex_parser_class_67_M (Q : QT) (E : ET) (τ : Tau) (H : Heap) : Prop := mP (τ 0) fun x0 => mP (τ 2) fun x2 => mP (τ 3) fun x3 => mB (τ 6) fun x6 => regex_parser_class_67 Q E x0 x2 x3 x6 H

theorem regex_parser_class_68ok (Q : QT) (E : ET) (τ : Tau) (H : Heap) (h : regex_parser_class_67_M Q E τ H) : vc Pr regex_parser_class_p50 τ (regex_parser_class_q25 Q E) E H :=
  vP (i := 0) h (fun x0 h => vP (i := 2) h (fun x2 h => vP (i := 3) h (fun x3 h => vB (i := 6) h (fun x6 h => (conv (by kernel_rfl) h)))))

theorem regex_parser_class_69ok (Q : QT) (E : ET) (τ : Tau) (H : Heap) (h : regex_parser_class_67_M Q E τ H) : vc Pr regex_parser_class_p9 τ (regex_parser_class_q3 Q E) E H :=
  (conv (B := vc Pr regex_parser_class_p9 τ (regex_parser_class_q3 Q E) E H) (by kernel_rfl) (vc_seq (K := (regex_parser_class_64_M Q E)) (regex_parser_class_68ok Q E τ H h) (regex_parser_class_66ok Q E)))

theorem regex_parser_class_70ok (Q : QT) (E : ET) (τ : Tau) (H : Heap) (h : regex_parser_class_67_M Q E τ H) : vc Pr regex_parser_class_p5 τ (regex_parser_class_q1 Q E) E H :=
  (conv (B := vc Pr regex_parser_class_p5 τ (regex_parser_class_q1 Q E) E H) (by kernel_rfl) (vc_seq (K := (regex_parser_class_3_M Q E)) (regex_parser_class_69ok Q E τ H h) (regex_parser_class_5ok Q E)))

@[reducible] noncomputable def regex_parser_class_q26 (Q : QT) (E : ET) : Exit → Tau → Heap → Prop := (xthen (regex_parser_class_67_M Q E) (regex_parser_class_q1 Q E))

@[reducible] noncomputable def regex_parser_class_p51 : Code := sA regex_parser_class_p4

def regex_parser_class_71 (Q : QT) (E : ET) (x0 : OA) (x2 : OA) (x3 : OA) (x6 : Bool) (H : Heap) : Prop :=
 sel x6
 (ptr x0 fun q341 =>
 ldI .i64 (Addr.add q341 1) H fun n342 =>
 ptr x0 fun q343 =>
 wr (Addr.add q343 1) [(.int .i64 (IntKind.wrap .i64 (n342 + 1)))] H fun H344 =>
 regex_parser_class_67 Q E x0 x2 x3 x6 H344)
 (regex_parser_class_67 Q E x0 x2 x3 x6 H)

def regex_parser_class_71_M (Q : QT) (E : ET) (τ : Tau) (H : Heap) : Prop := mP (τ 0) fun x0 => mP (τ 2) fun x2 => mP (τ 3) fun x3 => mB (τ 6) fun x6 => regex_parser_class_71 Q E x0 x2 x3 x6 H

theorem regex_parser_class_72ok (Q : QT) (E : ET) (τ : Tau) (H : Heap) (h : regex_parser_class_71_M Q E τ H) : vc Pr regex_parser_class_p51 τ (regex_parser_class_q26 Q E) E H :=
  vP (i := 0) h (fun x0 h => vP (i := 2) h (fun x2 h => vP (i := 3) h (fun x3 h => vB (i := 6) h (fun x6 h => (conv (by kernel_rfl) h)))))

theorem regex_parser_class_73ok (Q : QT) (E : ET) (τ : Tau) (H : Heap) (h : regex_parser_class_71_M Q E τ H) : vc Pr regex_parser_class_p4 τ (regex_parser_class_q1 Q E) E H :=
  (conv (B := vc Pr regex_parser_class_p4 τ (regex_parser_class_q1 Q E) E H) (by kernel_rfl) (vc_seq (K := (regex_parser_class_67_M Q E)) (regex_parser_class_72ok Q E τ H h) (regex_parser_class_70ok Q E)))

@[reducible] noncomputable def regex_parser_class_q27 (Q : QT) (E : ET) : Exit → Tau → Heap → Prop := (xthen (regex_parser_class_71_M Q E) (regex_parser_class_q1 Q E))

@[reducible] noncomputable def regex_parser_class_p52 : Code := sA regex_parser_class_p3

def regex_parser_class_74 (Q : QT) (E : ET) (x0 : OA) (x2 : OA) (x3 : OA) (x4 : Int) (H : Heap) : Prop :=
 regex_parser_class_71 Q E x0 x2 x3 ((x4 : Int) == 94) H

def regex_parser_class_74_M (Q : QT) (E : ET) (τ : Tau) (H : Heap) : Prop := mP (τ 0) fun x0 => mP (τ 2) fun x2 => mP (τ 3) fun x3 => mI .u8 (τ 4) fun x4 => regex_parser_class_74 Q E x0 x2 x3 x4 H

theorem regex_parser_class_75ok (Q : QT) (E : ET) (τ : Tau) (H : Heap) (h : regex_parser_class_74_M Q E τ H) : vc Pr regex_parser_class_p52 τ (regex_parser_class_q27 Q E) E H :=
  vP (i := 0) h (fun x0 h => vP (i := 2) h (fun x2 h => vP (i := 3) h (fun x3 h => vI (i := 4) h (fun x4 h => (conv (by kernel_rfl) h)))))

theorem regex_parser_class_76ok (Q : QT) (E : ET) (τ : Tau) (H : Heap) (h : regex_parser_class_74_M Q E τ H) : vc Pr regex_parser_class_p3 τ (regex_parser_class_q1 Q E) E H :=
  (conv (B := vc Pr regex_parser_class_p3 τ (regex_parser_class_q1 Q E) E H) (by kernel_rfl) (vc_seq (K := (regex_parser_class_71_M Q E)) (regex_parser_class_75ok Q E τ H h) (regex_parser_class_73ok Q E)))

@[reducible] noncomputable def regex_parser_class_q28 (Q : QT) (E : ET) : Exit → Tau → Heap → Prop := (xthen (regex_parser_class_74_M Q E) (regex_parser_class_q1 Q E))

@[reducible] noncomputable def regex_parser_class_p53 : Code := sA regex_parser_class_p2

def regex_parser_class_77 (Q : QT) (E : ET) (x0 : OA) (x2 : OA) (x3 : OA) (H : Heap) : Prop :=
 Does Pr 94 #[(.pointer x0)] H (fun v345 H346 =>
 ∃ n347 : Int, ∃ b348 : Bool, v345 = (.tuple #[(.int .u8 n347), (.bool b348)]) ∧ regex_parser_class_74 Q E x0 x2 x3 n347 H346) E

def regex_parser_class_77_M (Q : QT) (E : ET) (τ : Tau) (H : Heap) : Prop := mP (τ 0) fun x0 => mP (τ 2) fun x2 => mP (τ 3) fun x3 => regex_parser_class_77 Q E x0 x2 x3 H

theorem regex_parser_class_78ok (Q : QT) (E : ET) (τ : Tau) (H : Heap) (h : regex_parser_class_77_M Q E τ H) : vc Pr regex_parser_class_p53 τ (regex_parser_class_q28 Q E) E H :=
  vP (i := 0) h (fun x0 h => vP (i := 2) h (fun x2 h => vP (i := 3) h (fun x3 h => (conv (by kernel_rfl) h))))

theorem regex_parser_class_79ok (Q : QT) (E : ET) (τ : Tau) (H : Heap) (h : regex_parser_class_77_M Q E τ H) : vc Pr regex_parser_class_p2 τ (regex_parser_class_q1 Q E) E H :=
  (conv (B := vc Pr regex_parser_class_p2 τ (regex_parser_class_q1 Q E) E H) (by kernel_rfl) (vc_seq (K := (regex_parser_class_74_M Q E)) (regex_parser_class_78ok Q E τ H h) (regex_parser_class_76ok Q E)))

@[reducible] noncomputable def regex_parser_class_q29 (Q : QT) (E : ET) : Exit → Tau → Heap → Prop := (xthen (regex_parser_class_77_M Q E) (regex_parser_class_q1 Q E))

@[reducible] noncomputable def regex_parser_class_p54 : Code := sA regex_parser_class_p1

def regex_parser_class_80 (Q : QT) (E : ET) (x0 : OA) (x2 : OA) (H : Heap) : Prop :=
 nw (.cells #[(.int .u64 0), (.int .u64 0), (.int .u64 0), (.int .u64 0)] 46 (0, 0)) H fun i349 H350 =>
 regex_parser_class_77 Q E x0 x2 (some ⟨i349, 0, none⟩) H350

def regex_parser_class_80_M (Q : QT) (E : ET) (τ : Tau) (H : Heap) : Prop := mP (τ 0) fun x0 => mP (τ 2) fun x2 => regex_parser_class_80 Q E x0 x2 H

theorem regex_parser_class_81ok (Q : QT) (E : ET) (τ : Tau) (H : Heap) (h : regex_parser_class_80_M Q E τ H) : vc Pr regex_parser_class_p54 τ (regex_parser_class_q29 Q E) E H :=
  vP (i := 0) h (fun x0 h => vP (i := 2) h (fun x2 h => (conv (by kernel_rfl) h)))

theorem regex_parser_class_82ok (Q : QT) (E : ET) (τ : Tau) (H : Heap) (h : regex_parser_class_80_M Q E τ H) : vc Pr regex_parser_class_p1 τ (regex_parser_class_q1 Q E) E H :=
  (conv (B := vc Pr regex_parser_class_p1 τ (regex_parser_class_q1 Q E) E H) (by kernel_rfl) (vc_seq (K := (regex_parser_class_77_M Q E)) (regex_parser_class_81ok Q E τ H h) (regex_parser_class_79ok Q E)))

@[reducible] noncomputable def regex_parser_class_q30 (Q : QT) (E : ET) : Exit → Tau → Heap → Prop := (xthen (regex_parser_class_80_M Q E) (regex_parser_class_q1 Q E))

@[reducible] noncomputable def regex_parser_class_p55 : Code := sA regex_parser_class_p0

def regex_parser_class (Q : QT) (E : ET) (a0 : OA) (H : Heap) : Prop :=
 nw (.cells #[(.int .u64 0), (.int .u64 0), (.int .u64 0), (.int .u64 0)] 46 (0, 0)) H fun i351 H352 =>
 regex_parser_class_80 Q E a0 (some ⟨i351, 0, none⟩) H352

theorem regex_parser_class_fn (a0 : OA) (Q : QT) (E : ET) (H : Heap) (h : regex_parser_class Q E a0 H)   : Does Pr 113 #[(.pointer a0)] H Q E :=
  Fn_of_vc (fn := Try.f113) (c := regex_parser_class_p0) (args := [(.pointer a0)]) mixed (by kernel_rfl) (by kernel_rfl) (by kernel_rfl) (by kernel_rfl) (by kernel_rfl) ((conv (B := vc Pr regex_parser_class_p0 (argT [(.pointer a0)]) (regex_parser_class_q1 Q E) E H) (by kernel_rfl) (vc_seq (K := (regex_parser_class_80_M Q E)) (conv (B := vc Pr regex_parser_class_p55 (argT [(.pointer a0)]) (regex_parser_class_q30 Q E) E H) (by kernel_rfl) h) (regex_parser_class_82ok Q E))))

/-! (*jobmux/regex.parser).escape -/
@[reducible] noncomputable def regex_parser_escape_q1 (Q : QT) (E : ET) : Exit → Tau → Heap → Prop := (retQ Pr (Try.f114).results.toList Q)

@[reducible] noncomputable def regex_parser_escape_p0 : Code := bodyOf Try.f114

@[reducible] noncomputable def regex_parser_escape_p1 : Code := sB regex_parser_escape_p0

@[reducible] noncomputable def regex_parser_escape_p2 : Code := sB regex_parser_escape_p1

@[reducible] noncomputable def regex_parser_escape_p3 : Code := sB regex_parser_escape_p2

@[reducible] noncomputable def regex_parser_escape_p4 : Code := sB regex_parser_escape_p3

@[reducible] noncomputable def regex_parser_escape_p5 : Code := sB regex_parser_escape_p4

@[reducible] noncomputable def regex_parser_escape_p6 : Code := sB regex_parser_escape_p5

@[reducible] noncomputable def regex_parser_escape_p7 : Code := sB regex_parser_escape_p6

def regex_parser_escape_1 (Q : QT) (E : ET) (x2 : Int) (x3 : OA) (H : Heap) : Prop :=
 Does Pr 115 #[(.agg #[(.int .u64 0), (.int .u64 0), (.int .u64 0), (.int .u64 0)]), (.int .u8 x2), (.int .u8 x2)] H (fun v39 H40 =>
 ∃ n41 n42 n43 n44 : Int, v39 = (.agg #[(.int .u64 n41), (.int .u64 n42), (.int .u64 n43), (.int .u64 n44)]) ∧ ptr x3 fun q46 =>
 wr q46 [(.int .u64 n41), (.int .u64 n42), (.int .u64 n43), (.int .u64 n44)] H40 fun H45 =>
 ptr x3 fun q47 =>
 ∃ n48 n49 n50 n51 : Int, Heap.rd H45 q47 0 [(.int .u64 n48), (.int .u64 n49), (.int .u64 n50), (.int .u64 n51)] ∧ Q (.tuple #[(.int .u8 x2), (.agg #[(.int .u64 n48), (.int .u64 n49), (.int .u64 n50), (.int .u64 n51)]), (.bool false)]) H45) E

def regex_parser_escape_1_M (Q : QT) (E : ET) (τ : Tau) (H : Heap) : Prop := mI .u8 (τ 2) fun x2 => mP (τ 3) fun x3 => regex_parser_escape_1 Q E x2 x3 H

theorem regex_parser_escape_2ok (Q : QT) (E : ET) (τ : Tau) (H : Heap) (h : regex_parser_escape_1_M Q E τ H) : vc Pr regex_parser_escape_p7 τ (regex_parser_escape_q1 Q E) E H :=
  vI (i := 2) h (fun x2 h => vP (i := 3) h (fun x3 h => (conv (by kernel_rfl) h)))

@[reducible] noncomputable def regex_parser_escape_q2 (Q : QT) (E : ET) : Exit → Tau → Heap → Prop := (xthen (regex_parser_escape_1_M Q E) (regex_parser_escape_q1 Q E))

@[reducible] noncomputable def regex_parser_escape_p8 : Code := sA regex_parser_escape_p6

def regex_parser_escape_3 (Q : QT) (E : ET) (x0 : OA) (x3 : OA) (x5 : Int) (H : Heap) : Prop :=
 Does Pr 121 #[(.int .u8 x5)] H (fun v52 H53 =>
 ∃ n54 : Int, ∃ b55 : Bool, v52 = (.tuple #[(.int .u8 n54), (.bool b55)]) ∧ sel (!b55)
 (Does Pr 103 #[(.pointer x0), (.int .i64 82)] H53 (fun v56 H57 =>
 ∃ n58 : Int, v56 = (.int .i64 n58) ∧ regex_parser_escape_1 Q E n54 x3 H57) E)
 (regex_parser_escape_1 Q E n54 x3 H53)) E

def regex_parser_escape_3_M (Q : QT) (E : ET) (τ : Tau) (H : Heap) : Prop := mP (τ 0) fun x0 => mP (τ 3) fun x3 => mI .u8 (τ 5) fun x5 => regex_parser_escape_3 Q E x0 x3 x5 H

theorem regex_parser_escape_4ok (Q : QT) (E : ET) (τ : Tau) (H : Heap) (h : regex_parser_escape_3_M Q E τ H) : vc Pr regex_parser_escape_p8 τ (regex_parser_escape_q2 Q E) E H :=
  vP (i := 0) h (fun x0 h => vP (i := 3) h (fun x3 h => vI (i := 5) h (fun x5 h => (conv (by kernel_rfl) h))))

theorem regex_parser_escape_5ok (Q : QT) (E : ET) (τ : Tau) (H : Heap) (h : regex_parser_escape_3_M Q E τ H) : vc Pr regex_parser_escape_p6 τ (regex_parser_escape_q1 Q E) E H :=
  (conv (B := vc Pr regex_parser_escape_p6 τ (regex_parser_escape_q1 Q E) E H) (by kernel_rfl) (vc_seq (K := (regex_parser_escape_1_M Q E)) (regex_parser_escape_4ok Q E τ H h) (regex_parser_escape_2ok Q E)))

@[reducible] noncomputable def regex_parser_escape_q3 (Q : QT) (E : ET) : Exit → Tau → Heap → Prop := (xthen (regex_parser_escape_3_M Q E) (regex_parser_escape_q1 Q E))

@[reducible] noncomputable def regex_parser_escape_p9 : Code := sA regex_parser_escape_p5

def regex_parser_escape_6 (Q : QT) (E : ET) (x0 : OA) (x3 : OA) (x5 : Int) (H : Heap) : Prop :=
 Does Pr 120 #[(.int .u8 x5)] H (fun v59 H60 =>
 ∃ n61 n62 n63 n64 : Int, ∃ b65 : Bool, v59 = (.tuple #[(.agg #[(.int .u64 n61), (.int .u64 n62), (.int .u64 n63), (.int .u64 n64)]), (.bool b65)]) ∧ ptr x3 fun q67 =>
 wr q67 [(.int .u64 n61), (.int .u64 n62), (.int .u64 n63), (.int .u64 n64)] H60 fun H66 =>
 sel b65
 (ptr x3 fun q68 =>
 ∃ n69 n70 n71 n72 : Int, Heap.rd H66 q68 0 [(.int .u64 n69), (.int .u64 n70), (.int .u64 n71), (.int .u64 n72)] ∧ ptr x3 fun q74 =>
 wr q74 [(.int .u64 n69), (.int .u64 n70), (.int .u64 n71), (.int .u64 n72)] H66 fun H73 =>
 ptr x3 fun q75 =>
 ∃ n76 n77 n78 n79 : Int, Heap.rd H73 q75 0 [(.int .u64 n76), (.int .u64 n77), (.int .u64 n78), (.int .u64 n79)] ∧ Q (.tuple #[(.int .u8 0), (.agg #[(.int .u64 n76), (.int .u64 n77), (.int .u64 n78), (.int .u64 n79)]), (.bool true)]) H73)
 (regex_parser_escape_3 Q E x0 x3 x5 H66)) E

def regex_parser_escape_6_M (Q : QT) (E : ET) (τ : Tau) (H : Heap) : Prop := mP (τ 0) fun x0 => mP (τ 3) fun x3 => mI .u8 (τ 5) fun x5 => regex_parser_escape_6 Q E x0 x3 x5 H

theorem regex_parser_escape_7ok (Q : QT) (E : ET) (τ : Tau) (H : Heap) (h : regex_parser_escape_6_M Q E τ H) : vc Pr regex_parser_escape_p9 τ (regex_parser_escape_q3 Q E) E H :=
  vP (i := 0) h (fun x0 h => vP (i := 3) h (fun x3 h => vI (i := 5) h (fun x5 h => (conv (by kernel_rfl) h))))

theorem regex_parser_escape_8ok (Q : QT) (E : ET) (τ : Tau) (H : Heap) (h : regex_parser_escape_6_M Q E τ H) : vc Pr regex_parser_escape_p5 τ (regex_parser_escape_q1 Q E) E H :=
  (conv (B := vc Pr regex_parser_escape_p5 τ (regex_parser_escape_q1 Q E) E H) (by kernel_rfl) (vc_seq (K := (regex_parser_escape_3_M Q E)) (regex_parser_escape_7ok Q E τ H h) (regex_parser_escape_5ok Q E)))

@[reducible] noncomputable def regex_parser_escape_q4 (Q : QT) (E : ET) : Exit → Tau → Heap → Prop := (xthen (regex_parser_escape_6_M Q E) (regex_parser_escape_q1 Q E))

@[reducible] noncomputable def regex_parser_escape_p10 : Code := sA regex_parser_escape_p4

def regex_parser_escape_9 (Q : QT) (E : ET) (x0 : OA) (x3 : OA) (x5 : Int) (H : Heap) : Prop :=
 ptr x0 fun q80 =>
 ldI .i64 (Addr.add q80 1) H fun n81 =>
 ptr x0 fun q82 =>
 wr (Addr.add q82 1) [(.int .i64 (IntKind.wrap .i64 (n81 + 1)))] H fun H83 =>
 regex_parser_escape_6 Q E x0 x3 x5 H83

def regex_parser_escape_9_M (Q : QT) (E : ET) (τ : Tau) (H : Heap) : Prop := mP (τ 0) fun x0 => mP (τ 3) fun x3 => mI .u8 (τ 5) fun x5 => regex_parser_escape_9 Q E x0 x3 x5 H

theorem regex_parser_escape_10ok (Q : QT) (E : ET) (τ : Tau) (H : Heap) (h : regex_parser_escape_9_M Q E τ H) : vc Pr regex_parser_escape_p10 τ (regex_parser_escape_q4 Q E) E H :=
  vP (i := 0) h (fun x0 h => vP (i := 3) h (fun x3 h => vI (i := 5) h (fun x5 h => (conv (by kernel_rfl) h))))

theorem regex_parser_escape_11ok (Q : QT) (E : ET) (τ : Tau) (H : Heap) (h : regex_parser_escape_9_M Q E τ H) : vc Pr regex_parser_escape_p4 τ (regex_parser_escape_q1 Q E) E H :=
  (conv (B := vc Pr regex_parser_escape_p4 τ (regex_parser_escape_q1 Q E) E H) (by kernel_rfl) (vc_seq (K := (regex_parser_escape_6_M Q E)) (regex_parser_escape_10ok Q E τ H h) (regex_parser_escape_8ok Q E)))

@[reducible] noncomputable def regex_parser_escape_q5 (Q : QT) (E : ET) : Exit → Tau → Heap → Prop := (xthen (regex_parser_escape_9_M Q E) (regex_parser_escape_q1 Q E))

@[reducible] noncomputable def regex_parser_escape_p11 : Code := sA regex_parser_escape_p3

def regex_parser_escape_12 (Q : QT) (E : ET) (x0 : OA) (x3 : OA) (x5 : Int) (x6 : Bool) (H : Heap) : Prop :=
 sel (!x6)
 (Does Pr 103 #[(.pointer x0), (.int .i64 82)] H (fun v84 H85 =>
 ∃ n86 : Int, v84 = (.int .i64 n86) ∧ ptr x3 fun q88 =>
 wr q88 [(.int .u64 0), (.int .u64 0), (.int .u64 0), (.int .u64 0)] H85 fun H87 =>
 ptr x3 fun q89 =>
 ∃ n90 n91 n92 n93 : Int, Heap.rd H87 q89 0 [(.int .u64 n90), (.int .u64 n91), (.int .u64 n92), (.int .u64 n93)] ∧ Q (.tuple #[(.int .u8 0), (.agg #[(.int .u64 n90), (.int .u64 n91), (.int .u64 n92), (.int .u64 n93)]), (.bool false)]) H87) E)
 (regex_parser_escape_9 Q E x0 x3 x5 H)

def regex_parser_escape_12_M (Q : QT) (E : ET) (τ : Tau) (H : Heap) : Prop := mP (τ 0) fun x0 => mP (τ 3) fun x3 => mI .u8 (τ 5) fun x5 => mB (τ 6) fun x6 => regex_parser_escape_12 Q E x0 x3 x5 x6 H

theorem regex_parser_escape_13ok (Q : QT) (E : ET) (τ : Tau) (H : Heap) (h : regex_parser_escape_12_M Q E τ H) : vc Pr regex_parser_escape_p11 τ (regex_parser_escape_q5 Q E) E H :=
  vP (i := 0) h (fun x0 h => vP (i := 3) h (fun x3 h => vI (i := 5) h (fun x5 h => vB (i := 6) h (fun x6 h => (conv (by kernel_rfl) h)))))

theorem regex_parser_escape_14ok (Q : QT) (E : ET) (τ : Tau) (H : Heap) (h : regex_parser_escape_12_M Q E τ H) : vc Pr regex_parser_escape_p3 τ (regex_parser_escape_q1 Q E) E H :=
  (conv (B := vc Pr regex_parser_escape_p3 τ (regex_parser_escape_q1 Q E) E H) (by kernel_rfl) (vc_seq (K := (regex_parser_escape_9_M Q E)) (regex_parser_escape_13ok Q E τ H h) (regex_parser_escape_11ok Q E)))

@[reducible] noncomputable def regex_parser_escape_q6 (Q : QT) (E : ET) : Exit → Tau → Heap → Prop := (xthen (regex_parser_escape_12_M Q E) (regex_parser_escape_q1 Q E))

@[reducible] noncomputable def regex_parser_escape_p12 : Code := sA regex_parser_escape_p2

def regex_parser_escape_15 (Q : QT) (E : ET) (x0 : OA) (x3 : OA) (H : Heap) : Prop :=
 Does Pr 94 #[(.pointer x0)] H (fun v94 H95 =>
 ∃ n96 : Int, ∃ b97 : Bool, v94 = (.tuple #[(.int .u8 n96), (.bool b97)]) ∧ regex_parser_escape_12 Q E x0 x3 n96 b97 H95) E

def regex_parser_escape_15_M (Q : QT) (E : ET) (τ : Tau) (H : Heap) : Prop := mP (τ 0) fun x0 => mP (τ 3) fun x3 => regex_parser_escape_15 Q E x0 x3 H

theorem regex_parser_escape_16ok (Q : QT) (E : ET) (τ : Tau) (H : Heap) (h : regex_parser_escape_15_M Q E τ H) : vc Pr regex_parser_escape_p12 τ (regex_parser_escape_q6 Q E) E H :=
  vP (i := 0) h (fun x0 h => vP (i := 3) h (fun x3 h => (conv (by kernel_rfl) h)))

theorem regex_parser_escape_17ok (Q : QT) (E : ET) (τ : Tau) (H : Heap) (h : regex_parser_escape_15_M Q E τ H) : vc Pr regex_parser_escape_p2 τ (regex_parser_escape_q1 Q E) E H :=
  (conv (B := vc Pr regex_parser_escape_p2 τ (regex_parser_escape_q1 Q E) E H) (by kernel_rfl) (vc_seq (K := (regex_parser_escape_12_M Q E)) (regex_parser_escape_16ok Q E τ H h) (regex_parser_escape_14ok Q E)))

@[reducible] noncomputable def regex_parser_escape_q7 (Q : QT) (E : ET) : Exit → Tau → Heap → Prop := (xthen (regex_parser_escape_15_M Q E) (regex_parser_escape_q1 Q E))

@[reducible] noncomputable def regex_parser_escape_p13 : Code := sA regex_parser_escape_p1

def regex_parser_escape_18 (Q : QT) (E : ET) (x0 : OA) (x3 : OA) (H : Heap) : Prop :=
 ptr x0 fun q98 =>
 ldI .i64 (Addr.add q98 1) H fun n99 =>
 ptr x0 fun q100 =>
 wr (Addr.add q100 1) [(.int .i64 (IntKind.wrap .i64 (n99 + 1)))] H fun H101 =>
 regex_parser_escape_15 Q E x0 x3 H101

def regex_parser_escape_18_M (Q : QT) (E : ET) (τ : Tau) (H : Heap) : Prop := mP (τ 0) fun x0 => mP (τ 3) fun x3 => regex_parser_escape_18 Q E x0 x3 H

theorem regex_parser_escape_19ok (Q : QT) (E : ET) (τ : Tau) (H : Heap) (h : regex_parser_escape_18_M Q E τ H) : vc Pr regex_parser_escape_p13 τ (regex_parser_escape_q7 Q E) E H :=
  vP (i := 0) h (fun x0 h => vP (i := 3) h (fun x3 h => (conv (by kernel_rfl) h)))

theorem regex_parser_escape_20ok (Q : QT) (E : ET) (τ : Tau) (H : Heap) (h : regex_parser_escape_18_M Q E τ H) : vc Pr regex_parser_escape_p1 τ (regex_parser_escape_q1 Q E) E H :=
  (conv (B := vc Pr regex_parser_escape_p1 τ (regex_parser_escape_q1 Q E) E H) (by kernel_rfl) (vc_seq (K := (regex_parser_escape_15_M Q E)) (regex_parser_escape_19ok Q E τ H h) (regex_parser_escape_17ok Q E)))

@[reducible] noncomputable def regex_parser_escape_q8 (Q : QT) (E : ET) : Exit → Tau → Heap → Prop := (xthen (regex_parser_escape_18_M Q E) (regex_parser_escape_q1 Q E))

@[reducible] noncomputable def regex_parser_escape_p14 : Code := sA regex_parser_escape_p0

def regex_parser_escape (Q : QT) (E : ET) (a0 : OA) (H : Heap) : Prop :=
 nw (.cells #[(.int .u64 0), (.int .u64 0), (.int .u64 0), (.int .u64 0)] 46 (0, 0)) H fun i102 H103 =>
 regex_parser_escape_18 Q E a0 (some ⟨i102, 0, none⟩) H103

theorem regex_parser_escape_fn (a0 : OA) (Q : QT) (E : ET) (H : Heap) (h : regex_parser_escape Q E a0 H)   : Does Pr 114 #[(.pointer a0)] H Q E :=
  Fn_of_vc (fn := Try.f114) (c := regex_parser_escape_p0) (args := [(.pointer a0)]) mixed (by kernel_rfl) (by kernel_rfl) (by kernel_rfl) (by kernel_rfl) (by kernel_rfl) ((conv (B := vc Pr regex_parser_escape_p0 (argT [(.pointer a0)]) (regex_parser_escape_q1 Q E) E H) (by kernel_rfl) (vc_seq (K := (regex_parser_escape_18_M Q E)) (conv (B := vc Pr regex_parser_escape_p14 (argT [(.pointer a0)]) (regex_parser_escape_q8 Q E) E H) (by kernel_rfl) h) (regex_parser_escape_20ok Q E))))

/-! jobmux/regex.with -/
@[reducible] noncomputable def regex_with_q1 (Q : QT) (E : ET) : Exit → Tau → Heap → Prop := (retQ Pr (Try.f115).results.toList Q)

@[reducible] noncomputable def regex_with_p0 : Code := bodyOf Try.f115

@[reducible] noncomputable def regex_with_p1 : Code := sB regex_with_p0

@[reducible] noncomputable def regex_with_p2 : Code := sB regex_with_p1

def regex_with_1 (Q : QT) (E : ET) (x3 : OA) (x6 : OA) (H : Heap) : Prop :=
 ptr x3 fun q7 =>
 ∃ n8 n9 n10 n11 : Int, Heap.rd H q7 0 [(.int .u64 n8), (.int .u64 n9), (.int .u64 n10), (.int .u64 n11)] ∧ ptr x6 fun q13 =>
 wr q13 [(.int .u64 n8), (.int .u64 n9), (.int .u64 n10), (.int .u64 n11)] H fun H12 =>
 ptr x6 fun q14 =>
 ∃ n15 n16 n17 n18 : Int, Heap.rd H12 q14 0 [(.int .u64 n15), (.int .u64 n16), (.int .u64 n17), (.int .u64 n18)] ∧ Q (.agg #[(.int .u64 n15), (.int .u64 n16), (.int .u64 n17), (.int .u64 n18)]) H12

def regex_with_1_M (Q : QT) (E : ET) (τ : Tau) (H : Heap) : Prop := mP (τ 3) fun x3 => mP (τ 6) fun x6 => regex_with_1 Q E x3 x6 H

theorem regex_with_2ok (Q : QT) (E : ET) (τ : Tau) (H : Heap) (h : regex_with_1_M Q E τ H) : vc Pr regex_with_p2 τ (regex_with_q1 Q E) E H :=
  vP (i := 3) h (fun x3 h => vP (i := 6) h (fun x6 h => (conv (by kernel_rfl) h)))

@[reducible] noncomputable def regex_with_q2 (Q : QT) (E : ET) : Exit → Tau → Heap → Prop := (xthen (regex_with_1_M Q E) (regex_with_q1 Q E))

@[reducible] noncomputable def regex_with_p3 : Code := sA regex_with_p1

@[reducible] noncomputable def regex_with_p4 : Code := sB regex_with_p3

@[reducible] noncomputable def regex_with_q3 (Q : QT) (E : ET) : Exit → Tau → Heap → Prop := (xblock 0 (regex_with_q2 Q E))

@[reducible] noncomputable def regex_with_p5 : Code := sI regex_with_p4

@[reducible] noncomputable def regex_with_q4 (nx19 : Int → HP) (Q : QT) (E : ET) : Exit → Tau → Heap → Prop := (xthen (fun τ H => mI .i64 (τ 7) fun x7' => nx19 x7' H) (regex_with_q3 Q E))

@[reducible] noncomputable def regex_with_p6 : Code := sI regex_with_p5

@[reducible] noncomputable def regex_with_p7 : Code := sB regex_with_p6

def regex_with_3 (nx19 : Int → HP) (Q : QT) (E : ET) (x2 : Int) (x3 : OA) (x6 : OA) (x7 : Int) (H : Heap) : Prop :=
 (64 : Int) ≠ 0 ∧ ptr x3 fun q20 =>
 (0 ≤ ((IntKind.wrap .i64 (Int.tdiv x7 64)) : Int) ∧ ((IntKind.wrap .i64 (Int.tdiv x7 64)) : Int) < ((4 : Nat) : Int)) ∧ ldI .u64 (Addr.add q20 (((IntKind.wrap .i64 (Int.tdiv x7 64)) : Int).toNat * 1)) H fun n21 =>
 (64 : Int) ≠ 0 ∧ 0 ≤ ((Int.tmod x7 64) : Int) ∧ ptr x3 fun q22 =>
 (0 ≤ ((IntKind.wrap .i64 (Int.tdiv x7 64)) : Int) ∧ ((IntKind.wrap .i64 (Int.tdiv x7 64)) : Int) < ((4 : Nat) : Int)) ∧ wr (Addr.add q22 (((IntKind.wrap .i64 (Int.tdiv x7 64)) : Int).toNat * 1)) [(.int .u64 (IntKind.wrap .u64 (BitVec.ofInt (IntKind.bits .u64) n21 ||| BitVec.ofInt (IntKind.bits .u64) (IntKind.wrap .u64 (1 * 2 ^ min ((Int.tmod x7 64) : Int).toNat (IntKind.bits .u64)))).toNat))] H fun H23 =>
 nx19 (IntKind.wrap .i64 (x7 + 1)) H23

def regex_with_3_M (nx19 : Int → HP) (Q : QT) (E : ET) (τ : Tau) (H : Heap) : Prop := mI .u8 (τ 2) fun x2 => mP (τ 3) fun x3 => mP (τ 6) fun x6 => mI .i64 (τ 7) fun x7 => regex_with_3 nx19 Q E x2 x3 x6 x7 H

theorem regex_with_4ok (nx19 : Int → HP) (Q : QT) (E : ET) (τ : Tau) (H : Heap) (h : regex_with_3_M nx19 Q E τ H) : vc Pr regex_with_p7 τ (regex_with_q4 nx19 Q E) E H :=
  vI (i := 2) h (fun x2 h => vP (i := 3) h (fun x3 h => vP (i := 6) h (fun x6 h => vI (i := 7) h (fun x7 h => (conv (by kernel_rfl) h)))))

@[reducible] noncomputable def regex_with_q5 (nx19 : Int → HP) (Q : QT) (E : ET) : Exit → Tau → Heap → Prop := (xthen (regex_with_3_M nx19 Q E) (regex_with_q4 nx19 Q E))

@[reducible] noncomputable def regex_with_p8 : Code := sA regex_with_p6

def regex_with_5 (nx19 : Int → HP) (Q : QT) (E : ET) (x2 : Int) (x3 : OA) (x6 : OA) (x7 : Int) (H : Heap) : Prop :=
 sel (decide ((x7 : Int) ≤ (IntKind.wrap .i64 x2)))
 (regex_with_3 nx19 Q E x2 x3 x6 x7 H)
 (regex_with_1 Q E x3 x6 H)

def regex_with_5_M (nx19 : Int → HP) (Q : QT) (E : ET) (τ : Tau) (H : Heap) : Prop := mI .u8 (τ 2) fun x2 => mP (τ 3) fun x3 => mP (τ 6) fun x6 => mI .i64 (τ 7) fun x7 => regex_with_5 nx19 Q E x2 x3 x6 x7 H

theorem regex_with_6ok (nx19 : Int → HP) (Q : QT) (E : ET) (τ : Tau) (H : Heap) (h : regex_with_5_M nx19 Q E τ H) : vc Pr regex_with_p8 τ (regex_with_q5 nx19 Q E) E H :=
  vI (i := 2) h (fun x2 h => vP (i := 3) h (fun x3 h => vP (i := 6) h (fun x6 h => vI (i := 7) h (fun x7 h => (conv (by kernel_rfl) h)))))

theorem regex_with_7ok (nx19 : Int → HP) (Q : QT) (E : ET) (τ : Tau) (H : Heap) (h : regex_with_5_M nx19 Q E τ H) : vc Pr regex_with_p6 τ (regex_with_q4 nx19 Q E) E H :=
  (conv (B := vc Pr regex_with_p6 τ (regex_with_q4 nx19 Q E) E H) (by kernel_rfl) (vc_seq (K := (regex_with_3_M nx19 Q E)) (regex_with_6ok nx19 Q E τ H h) (regex_with_4ok nx19 Q E)))

def regex_with_8 (Q : QT) (E : ET) (x2 : Int) (x3 : OA) (x6 : OA) (x7 : Int) (H : Heap) : Prop :=
 ∃ (I : Int → HP) (μ : Int → Heap → Nat), I x7 H ∧ ∀ (x7 : Int) (H : Heap), I x7 H →
 regex_with_5 (fun x7' H1 => I x7' H1 ∧ μ x7' H1 < μ x7 H) Q E x2 x3 x6 x7 H

def regex_with_8_M (Q : QT) (E : ET) (τ : Tau) (H : Heap) : Prop := mI .u8 (τ 2) fun x2 => mP (τ 3) fun x3 => mP (τ 6) fun x6 => mI .i64 (τ 7) fun x7 => regex_with_8 Q E x2 x3 x6 x7 H

theorem regex_with_9ok (Q : QT) (E : ET) (τ : Tau) (H : Heap) (h : regex_with_8_M Q E τ H) : vc Pr regex_with_p5 τ (regex_with_q3 Q E) E H :=
  vI (i := 2) h (fun x2 h => vP (i := 3) h (fun x3 h => vP (i := 6) h (fun x6 h => vI (i := 7) h (fun x7 h => match h with | ⟨I, μ, h0, hr⟩ => (conv (B := vc Pr regex_with_p5 (Tau.upd (Tau.upd (Tau.upd (Tau.upd τ 2 (.int .u8 x2)) 3 (.pointer x3)) 6 (.pointer x6)) 7 (.int .i64 x7)) (regex_with_q3 Q E) E H) (by kernel_rfl) (vc_loop (c := sI regex_with_p5) (τ := (Tau.upd (Tau.upd (Tau.upd (Tau.upd τ 2 (.int .u8 x2)) 3 (.pointer x3)) 6 (.pointer x6)) 7 (.int .i64 x7))) [2, 3, 6] (fun τ H => mI .i64 (τ 7) fun x7' => I x7' H) (fun τ H => μ (gI (τ 7)) H) (by kernel_rfl) h0 (fun τ1 H1 hf hI => fix_elim (τ := τ1) (i := 2) (v := (.int .u8 x2)) (G := fun τ => vc Pr (sI regex_with_p5) τ (xthen (fun τ2 H2 => (mI .i64 (τ2 7) fun x7' => I x7' H2) ∧ μ (gI (τ2 7)) H2 < μ (gI (τ 7)) H1) (regex_with_q3 Q E)) E H1) (hf 2 (by simp)) (fix_elim (τ := (Tau.upd τ1 2 (.int .u8 x2))) (i := 3) (v := (.pointer x3)) (G := fun τ => vc Pr (sI regex_with_p5) τ (xthen (fun τ2 H2 => (mI .i64 (τ2 7) fun x7' => I x7' H2) ∧ μ (gI (τ2 7)) H2 < μ (gI (τ 7)) H1) (regex_with_q3 Q E)) E H1) (hf 3 (by simp)) (fix_elim (τ := (Tau.upd (Tau.upd τ1 2 (.int .u8 x2)) 3 (.pointer x3))) (i := 6) (v := (.pointer x6)) (G := fun τ => vc Pr (sI regex_with_p5) τ (xthen (fun τ2 H2 => (mI .i64 (τ2 7) fun x7' => I x7' H2) ∧ μ (gI (τ2 7)) H2 < μ (gI (τ 7)) H1) (regex_with_q3 Q E)) E H1) (hf 6 (by simp)) (mI_elim (i := 7) (G := fun τ => vc Pr (sI regex_with_p5) τ (xthen (fun τ2 H2 => (mI .i64 (τ2 7) fun x7' => I x7' H2) ∧ μ (gI (τ2 7)) H2 < μ (gI (τ 7)) H1) (regex_with_q3 Q E)) E H1) hI (fun x7r h => (conv (B := vc Pr (sI regex_with_p5) (Tau.upd (Tau.upd (Tau.upd (Tau.upd τ1 2 (.int .u8 x2)) 3 (.pointer x3)) 6 (.pointer x6)) 7 (.int .i64 x7r)) (xthen (fun τ2 H2 => (mI .i64 (τ2 7) fun x7' => I x7' H2) ∧ μ (gI (τ2 7)) H2 < μ (gI ((Tau.upd (Tau.upd (Tau.upd (Tau.upd τ1 2 (.int .u8 x2)) 3 (.pointer x3)) 6 (.pointer x6)) 7 (.int .i64 x7r)) 7)) H1) (regex_with_q3 Q E)) E H1) (by kernel_rfl) (vc_xthen (regex_with_7ok (fun x7' H2 => I x7' H2 ∧ μ x7' H2 < μ x7r H1) Q E (Tau.upd (Tau.upd (Tau.upd (Tau.upd τ1 2 (.int .u8 x2)) 3 (.pointer x3)) 6 (.pointer x6)) 7 (.int .i64 x7r)) H1 (conv (B := regex_with_5_M (fun x7' H2 => I x7' H2 ∧ μ x7' H2 < μ x7r H1) Q E (Tau.upd (Tau.upd (Tau.upd (Tau.upd τ1 2 (.int .u8 x2)) 3 (.pointer x3)) 6 (.pointer x6)) 7 (.int .i64 x7r)) H1) (by kernel_rfl) (hr x7r H1 h))) (fun τ2 H2 hk => mI_elim (i := 7) (G := fun τ => (mI .i64 (τ 7) fun x7' => I x7' H2) ∧ μ (gI (τ 7)) H2 < μ x7r H1) hk (fun x7' h => h)))))))))))))))

theorem regex_with_10ok (Q : QT) (E : ET) (τ : Tau) (H : Heap) (h : regex_with_8_M Q E τ H) : vc Pr regex_with_p4 τ (regex_with_q2 Q E) E H :=
  (conv (B := vc Pr regex_with_p4 τ (regex_with_q2 Q E) E H) (by kernel_rfl) (regex_with_9ok Q E τ H h))

@[reducible] noncomputable def regex_with_q6 (Q : QT) (E : ET) : Exit → Tau → Heap → Prop := (xthen (regex_with_8_M Q E) (regex_with_q2 Q E))

@[reducible] noncomputable def regex_with_p9 : Code := sA regex_with_p3

def regex_with_11 (Q : QT) (E : ET) (x1 : Int) (x2 : Int) (x3 : OA) (x6 : OA) (H : Heap) : Prop :=
 regex_with_8 Q E x2 x3 x6 (IntKind.wrap .i64 x1) H

def regex_with_11_M (Q : QT) (E : ET) (τ : Tau) (H : Heap) : Prop := mI .u8 (τ 1) fun x1 => mI .u8 (τ 2) fun x2 => mP (τ 3) fun x3 => mP (τ 6) fun x6 => regex_with_11 Q E x1 x2 x3 x6 H

theorem regex_with_12ok (Q : QT) (E : ET) (τ : Tau) (H : Heap) (h : regex_with_11_M Q E τ H) : vc Pr regex_with_p9 τ (regex_with_q6 Q E) E H :=
  vI (i := 1) h (fun x1 h => vI (i := 2) h (fun x2 h => vP (i := 3) h (fun x3 h => vP (i := 6) h (fun x6 h => (conv (by kernel_rfl) h)))))

theorem regex_with_13ok (Q : QT) (E : ET) (τ : Tau) (H : Heap) (h : regex_with_11_M Q E τ H) : vc Pr regex_with_p3 τ (regex_with_q2 Q E) E H :=
  (conv (B := vc Pr regex_with_p3 τ (regex_with_q2 Q E) E H) (by kernel_rfl) (vc_seq (K := (regex_with_8_M Q E)) (regex_with_12ok Q E τ H h) (regex_with_10ok Q E)))

theorem regex_with_14ok (Q : QT) (E : ET) (τ : Tau) (H : Heap) (h : regex_with_11_M Q E τ H) : vc Pr regex_with_p1 τ (regex_with_q1 Q E) E H :=
  (conv (B := vc Pr regex_with_p1 τ (regex_with_q1 Q E) E H) (by kernel_rfl) (vc_seq (K := (regex_with_1_M Q E)) (regex_with_13ok Q E τ H h) (regex_with_2ok Q E)))

@[reducible] noncomputable def regex_with_q7 (Q : QT) (E : ET) : Exit → Tau → Heap → Prop := (xthen (regex_with_11_M Q E) (regex_with_q1 Q E))

@[reducible] noncomputable def regex_with_p10 : Code := sA regex_with_p0

def regex_with (Q : QT) (E : ET) (a0_0 : Int) (a0_1 : Int) (a0_2 : Int) (a0_3 : Int) (a1 : Int) (a2 : Int) (H : Heap) : Prop :=
 nw (.cells #[(.int .u64 a0_0), (.int .u64 a0_1), (.int .u64 a0_2), (.int .u64 a0_3)] 46 (0, 0)) H fun i24 H25 =>
 nw (.cells #[(.int .u64 0), (.int .u64 0), (.int .u64 0), (.int .u64 0)] 46 (0, 0)) H25 fun i26 H27 =>
 regex_with_11 Q E a1 a2 (some ⟨i24, 0, none⟩) (some ⟨i26, 0, none⟩) H27

theorem regex_with_fn (a0_0 : Int) (a0_1 : Int) (a0_2 : Int) (a0_3 : Int) (a1 : Int) (a2 : Int) (Q : QT) (E : ET) (H : Heap) (h : regex_with Q E a0_0 a0_1 a0_2 a0_3 a1 a2 H)   : Does Pr 115 #[(.agg #[(.int .u64 a0_0), (.int .u64 a0_1), (.int .u64 a0_2), (.int .u64 a0_3)]), (.int .u8 a1), (.int .u8 a2)] H Q E :=
  Fn_of_vc (fn := Try.f115) (c := regex_with_p0) (args := [(.agg #[(.int .u64 a0_0), (.int .u64 a0_1), (.int .u64 a0_2), (.int .u64 a0_3)]), (.int .u8 a1), (.int .u8 a2)]) mixed (by kernel_rfl) (by kernel_rfl) (by kernel_rfl) (by kernel_rfl) (by kernel_rfl) ((conv (B := vc Pr regex_with_p0 (argT [(.agg #[(.int .u64 a0_0), (.int .u64 a0_1), (.int .u64 a0_2), (.int .u64 a0_3)]), (.int .u8 a1), (.int .u8 a2)]) (regex_with_q1 Q E) E H) (by kernel_rfl) (vc_seq (K := (regex_with_11_M Q E)) (conv (B := vc Pr regex_with_p10 (argT [(.agg #[(.int .u64 a0_0), (.int .u64 a0_1), (.int .u64 a0_2), (.int .u64 a0_3)]), (.int .u8 a1), (.int .u8 a2)]) (regex_with_q7 Q E) E H) (by kernel_rfl) h) (regex_with_14ok Q E))))

/-! (*jobmux/regex.parser).member -/
@[reducible] noncomputable def regex_parser_member_q1 (Q : QT) (E : ET) : Exit → Tau → Heap → Prop := (retQ Pr (Try.f119).results.toList Q)

@[reducible] noncomputable def regex_parser_member_p0 : Code := bodyOf Try.f119

@[reducible] noncomputable def regex_parser_member_p1 : Code := sB regex_parser_member_p0

@[reducible] noncomputable def regex_parser_member_p2 : Code := sB regex_parser_member_p1

@[reducible] noncomputable def regex_parser_member_p3 : Code := sB regex_parser_member_p2

def regex_parser_member_1 (Q : QT) (E : ET) (x0 : OA) (x3 : OA) (x5 : Int) (H : Heap) : Prop :=
 ptr x0 fun q20 =>
 ldI .i64 (Addr.add q20 1) H fun n21 =>
 ptr x0 fun q22 =>
 wr (Addr.add q22 1) [(.int .i64 (IntKind.wrap .i64 (n21 + 1)))] H fun H23 =>
 Does Pr 115 #[(.agg #[(.int .u64 0), (.int .u64 0), (.int .u64 0), (.int .u64 0)]), (.int .u8 x5), (.int .u8 x5)] H23 (fun v24 H25 =>
 ∃ n26 n27 n28 n29 : Int, v24 = (.agg #[(.int .u64 n26), (.int .u64 n27), (.int .u64 n28), (.int .u64 n29)]) ∧ ptr x3 fun q31 =>
 wr q31 [(.int .u64 n26), (.int .u64 n27), (.int .u64 n28), (.int .u64 n29)] H25 fun H30 =>
 ptr x3 fun q32 =>
 ∃ n33 n34 n35 n36 : Int, Heap.rd H30 q32 0 [(.int .u64 n33), (.int .u64 n34), (.int .u64 n35), (.int .u64 n36)] ∧ Q (.tuple #[(.int .u8 x5), (.agg #[(.int .u64 n33), (.int .u64 n34), (.int .u64 n35), (.int .u64 n36)]), (.bool false)]) H30) E

def regex_parser_member_1_M (Q : QT) (E : ET) (τ : Tau) (H : Heap) : Prop := mP (τ 0) fun x0 => mP (τ 3) fun x3 => mI .u8 (τ 5) fun x5 => regex_parser_member_1 Q E x0 x3 x5 H

theorem regex_parser_member_2ok (Q : QT) (E : ET) (τ : Tau) (H : Heap) (h : regex_parser_member_1_M Q E τ H) : vc Pr regex_parser_member_p3 τ (regex_parser_member_q1 Q E) E H :=
  vP (i := 0) h (fun x0 h => vP (i := 3) h (fun x3 h => vI (i := 5) h (fun x5 h => (conv (by kernel_rfl) h))))

@[reducible] noncomputable def regex_parser_member_q2 (Q : QT) (E : ET) : Exit → Tau → Heap → Prop := (xthen (regex_parser_member_1_M Q E) (regex_parser_member_q1 Q E))

@[reducible] noncomputable def regex_parser_member_p4 : Code := sA regex_parser_member_p2

@[reducible] noncomputable def regex_parser_member_q3 (Q : QT) (E : ET) : Exit → Tau → Heap → Prop := (xblock 0 (regex_parser_member_q2 Q E))

@[reducible] noncomputable def regex_parser_member_p5 : Code := sI regex_parser_member_p4

@[reducible] noncomputable def regex_parser_member_p6 : Code := sB regex_parser_member_p5

def regex_parser_member_3 (Q : QT) (E : ET) (x0 : OA) (x3 : OA) (x5 : Int) (x12 : Bool) (H : Heap) : Prop :=
 sel x12
 (Does Pr 103 #[(.pointer x0), (.int .i64 80)] H (fun v37 H38 =>
 ∃ n39 : Int, v37 = (.int .i64 n39) ∧ ptr x3 fun q41 =>
 wr q41 [(.int .u64 0), (.int .u64 0), (.int .u64 0), (.int .u64 0)] H38 fun H40 =>
 ptr x3 fun q42 =>
 ∃ n43 n44 n45 n46 : Int, Heap.rd H40 q42 0 [(.int .u64 n43), (.int .u64 n44), (.int .u64 n45), (.int .u64 n46)] ∧ Q (.tuple #[(.int .u8 0), (.agg #[(.int .u64 n43), (.int .u64 n44), (.int .u64 n45), (.int .u64 n46)]), (.bool false)]) H40) E)
 (sel ((x5 : Int) == 92)
 (Does Pr 114 #[(.pointer x0)] H (fun v47 H48 =>
 ∃ n49 n50 n51 n52 n53 : Int, ∃ b54 : Bool, v47 = (.tuple #[(.int .u8 n49), (.agg #[(.int .u64 n50), (.int .u64 n51), (.int .u64 n52), (.int .u64 n53)]), (.bool b54)]) ∧ ptr x3 fun q56 =>
 wr q56 [(.int .u64 n50), (.int .u64 n51), (.int .u64 n52), (.int .u64 n53)] H48 fun H55 =>
 ptr x3 fun q57 =>
 ∃ n58 n59 n60 n61 : Int, Heap.rd H55 q57 0 [(.int .u64 n58), (.int .u64 n59), (.int .u64 n60), (.int .u64 n61)] ∧ Q (.tuple #[(.int .u8 n49), (.agg #[(.int .u64 n58), (.int .u64 n59), (.int .u64 n60), (.int .u64 n61)]), (.bool b54)]) H55) E)
 (regex_parser_member_1 Q E x0 x3 x5 H))

def regex_parser_member_3_M (Q : QT) (E : ET) (τ : Tau) (H : Heap) : Prop := mP (τ 0) fun x0 => mP (τ 3) fun x3 => mI .u8 (τ 5) fun x5 => mB (τ 12) fun x12 => regex_parser_member_3 Q E x0 x3 x5 x12 H

theorem regex_parser_member_4ok (Q : QT) (E : ET) (τ : Tau) (H : Heap) (h : regex_parser_member_3_M Q E τ H) : vc Pr regex_parser_member_p6 τ (regex_parser_member_q3 Q E) E H :=
  vP (i := 0) h (fun x0 h => vP (i := 3) h (fun x3 h => vI (i := 5) h (fun x5 h => vB (i := 12) h (fun x12 h => (conv (by kernel_rfl) h)))))

@[reducible] noncomputable def regex_parser_member_q4 (Q : QT) (E : ET) : Exit → Tau → Heap → Prop := (xthen (regex_parser_member_3_M Q E) (regex_parser_member_q3 Q E))

@[reducible] noncomputable def regex_parser_member_p7 : Code := sA regex_parser_member_p5

def regex_parser_member_5 (Q : QT) (E : ET) (x0 : OA) (x3 : OA) (x5 : Int) (x6 : Bool) (H : Heap) : Prop :=
 sel (!x6)
 (regex_parser_member_3 Q E x0 x3 x5 true H)
 (sel ((x5 : Int) == 93)
 (regex_parser_member_3 Q E x0 x3 x5 true H)
 (sel ((x5 : Int) == 94)
 (regex_parser_member_3 Q E x0 x3 x5 true H)
 (regex_parser_member_3 Q E x0 x3 x5 ((x5 : Int) == 45) H)))

def regex_parser_member_5_M (Q : QT) (E : ET) (τ : Tau) (H : Heap) : Prop := mP (τ 0) fun x0 => mP (τ 3) fun x3 => mI .u8 (τ 5) fun x5 => mB (τ 6) fun x6 => regex_parser_member_5 Q E x0 x3 x5 x6 H

theorem regex_parser_member_6ok (Q : QT) (E : ET) (τ : Tau) (H : Heap) (h : regex_parser_member_5_M Q E τ H) : vc Pr regex_parser_member_p7 τ (regex_parser_member_q4 Q E) E H :=
  vP (i := 0) h (fun x0 h => vP (i := 3) h (fun x3 h => vI (i := 5) h (fun x5 h => vB (i := 6) h (fun x6 h => (conv (by kernel_rfl) h)))))

theorem regex_parser_member_7ok (Q : QT) (E : ET) (τ : Tau) (H : Heap) (h : regex_parser_member_5_M Q E τ H) : vc Pr regex_parser_member_p5 τ (regex_parser_member_q3 Q E) E H :=
  (conv (B := vc Pr regex_parser_member_p5 τ (regex_parser_member_q3 Q E) E H) (by kernel_rfl) (vc_seq (K := (regex_parser_member_3_M Q E)) (regex_parser_member_6ok Q E τ H h) (regex_parser_member_4ok Q E)))

theorem regex_parser_member_8ok (Q : QT) (E : ET) (τ : Tau) (H : Heap) (h : regex_parser_member_5_M Q E τ H) : vc Pr regex_parser_member_p4 τ (regex_parser_member_q2 Q E) E H :=
  (conv (B := vc Pr regex_parser_member_p4 τ (regex_parser_member_q2 Q E) E H) (by kernel_rfl) (regex_parser_member_7ok Q E τ H h))

theorem regex_parser_member_9ok (Q : QT) (E : ET) (τ : Tau) (H : Heap) (h : regex_parser_member_5_M Q E τ H) : vc Pr regex_parser_member_p2 τ (regex_parser_member_q1 Q E) E H :=
  (conv (B := vc Pr regex_parser_member_p2 τ (regex_parser_member_q1 Q E) E H) (by kernel_rfl) (vc_seq (K := (regex_parser_member_1_M Q E)) (regex_parser_member_8ok Q E τ H h) (regex_parser_member_2ok Q E)))

@[reducible] noncomputable def regex_parser_member_q5 (Q : QT) (E : ET) : Exit → Tau → Heap → Prop := (xthen (regex_parser_member_5_M Q E) (regex_parser_member_q1 Q E))

@[reducible] noncomputable def regex_parser_member_p8 : Code := sA regex_parser_member_p1

def regex_parser_member_10 (Q : QT) (E : ET) (x0 : OA) (x3 : OA) (H : Heap) : Prop :=
 Does Pr 94 #[(.pointer x0)] H (fun v62 H63 =>
 ∃ n64 : Int, ∃ b65 : Bool, v62 = (.tuple #[(.int .u8 n64), (.bool b65)]) ∧ regex_parser_member_5 Q E x0 x3 n64 b65 H63) E

def regex_parser_member_10_M (Q : QT) (E : ET) (τ : Tau) (H : Heap) : Prop := mP (τ 0) fun x0 => mP (τ 3) fun x3 => regex_parser_member_10 Q E x0 x3 H

theorem regex_parser_member_11ok (Q : QT) (E : ET) (τ : Tau) (H : Heap) (h : regex_parser_member_10_M Q E τ H) : vc Pr regex_parser_member_p8 τ (regex_parser_member_q5 Q E) E H :=
  vP (i := 0) h (fun x0 h => vP (i := 3) h (fun x3 h => (conv (by kernel_rfl) h)))

theorem regex_parser_member_12ok (Q : QT) (E : ET) (τ : Tau) (H : Heap) (h : regex_parser_member_10_M Q E τ H) : vc Pr regex_parser_member_p1 τ (regex_parser_member_q1 Q E) E H :=
  (conv (B := vc Pr regex_parser_member_p1 τ (regex_parser_member_q1 Q E) E H) (by kernel_rfl) (vc_seq (K := (regex_parser_member_5_M Q E)) (regex_parser_member_11ok Q E τ H h) (regex_parser_member_9ok Q E)))

@[reducible] noncomputable def regex_parser_member_q6 (Q : QT) (E : ET) : Exit → Tau → Heap → Prop := (xthen (regex_parser_member_10_M Q E) (regex_parser_member_q1 Q E))

@[reducible] noncomputable def regex_parser_member_p9 : Code := sA regex_parser_member_p0

def regex_parser_member (Q : QT) (E : ET) (a0 : OA) (H : Heap) : Prop :=
 nw (.cells #[(.int .u64 0), (.int .u64 0), (.int .u64 0), (.int .u64 0)] 46 (0, 0)) H fun i66 H67 =>
 regex_parser_member_10 Q E a0 (some ⟨i66, 0, none⟩) H67

theorem regex_parser_member_fn (a0 : OA) (Q : QT) (E : ET) (H : Heap) (h : regex_parser_member Q E a0 H)   : Does Pr 119 #[(.pointer a0)] H Q E :=
  Fn_of_vc (fn := Try.f119) (c := regex_parser_member_p0) (args := [(.pointer a0)]) mixed (by kernel_rfl) (by kernel_rfl) (by kernel_rfl) (by kernel_rfl) (by kernel_rfl) ((conv (B := vc Pr regex_parser_member_p0 (argT [(.pointer a0)]) (regex_parser_member_q1 Q E) E H) (by kernel_rfl) (vc_seq (K := (regex_parser_member_10_M Q E)) (conv (B := vc Pr regex_parser_member_p9 (argT [(.pointer a0)]) (regex_parser_member_q6 Q E) E H) (by kernel_rfl) h) (regex_parser_member_12ok Q E))))

/-! jobmux/regex.named -/
@[reducible] noncomputable def regex_named_q1 (Q : QT) (E : ET) : Exit → Tau → Heap → Prop := (retQ Pr (Try.f120).results.toList Q)

@[reducible] noncomputable def regex_named_p0 : Code := bodyOf Try.f120

@[reducible] noncomputable def regex_named_p1 : Code := sB regex_named_p0

@[reducible] noncomputable def regex_named_p2 : Code := sB regex_named_p1

@[reducible] noncomputable def regex_named_p3 : Code := sB regex_named_p2

def regex_named_1 (Q : QT) (E : ET) (x2 : OA) (H : Heap) : Prop :=
 ptr x2 fun q48 =>
 wr q48 [(.int .u64 0), (.int .u64 0), (.int .u64 0), (.int .u64 0)] H fun H47 =>
 ptr x2 fun q49 =>
 ∃ n50 n51 n52 n53 : Int, Heap.rd H47 q49 0 [(.int .u64 n50), (.int .u64 n51), (.int .u64 n52), (.int .u64 n53)] ∧ Q (.tuple #[(.agg #[(.int .u64 n50), (.int .u64 n51), (.int .u64 n52), (.int .u64 n53)]), (.bool false)]) H47

def regex_named_1_M (Q : QT) (E : ET) (τ : Tau) (H : Heap) : Prop := mP (τ 2) fun x2 => regex_named_1 Q E x2 H

theorem regex_named_2ok (Q : QT) (E : ET) (τ : Tau) (H : Heap) (h : regex_named_1_M Q E τ H) : vc Pr regex_named_p3 τ (regex_named_q1 Q E) E H :=
  vP (i := 2) h (fun x2 h => (conv (by kernel_rfl) h))

@[reducible] noncomputable def regex_named_q2 (Q : QT) (E : ET) : Exit → Tau → Heap → Prop := (xthen (regex_named_1_M Q E) (regex_named_q1 Q E))

@[reducible] noncomputable def regex_named_p4 : Code := sA regex_named_p2

def regex_named_3 (Q : QT) (E : ET) (x0 : Int) (x2 : OA) (x4 : OA) (H : Heap) : Prop :=
 sel ((x0 : Int) == 100)
 (ptr x4 fun q54 =>
 ∃ n55 n56 n57 n58 : Int, Heap.rd H q54 0 [(.int .u64 n55), (.int .u64 n56), (.int .u64 n57), (.int .u64 n58)] ∧ ptr x2 fun q60 =>
 wr q60 [(.int .u64 n55), (.int .u64 n56), (.int .u64 n57), (.int .u64 n58)] H fun H59 =>
 ptr x2 fun q61 =>
 ∃ n62 n63 n64 n65 : Int, Heap.rd H59 q61 0 [(.int .u64 n62), (.int .u64 n63), (.int .u64 n64), (.int .u64 n65)] ∧ Q (.tuple #[(.agg #[(.int .u64 n62), (.int .u64 n63), (.int .u64 n64), (.int .u64 n65)]), (.bool true)]) H59)
 (sel ((x0 : Int) == 119)
 (ptr x4 fun q66 =>
 ∃ n67 n68 n69 n70 : Int, Heap.rd H q66 0 [(.int .u64 n67), (.int .u64 n68), (.int .u64 n69), (.int .u64 n70)] ∧ Does Pr 115 #[(.agg #[(.int .u64 n67), (.int .u64 n68), (.int .u64 n69), (.int .u64 n70)]), (.int .u8 97), (.int .u8 122)] H (fun v71 H72 =>
 ∃ n73 n74 n75 n76 : Int, v71 = (.agg #[(.int .u64 n73), (.int .u64 n74), (.int .u64 n75), (.int .u64 n76)]) ∧ Does Pr 115 #[(.agg #[(.int .u64 n73), (.int .u64 n74), (.int .u64 n75), (.int .u64 n76)]), (.int .u8 65), (.int .u8 90)] H72 (fun v77 H78 =>
 ∃ n79 n80 n81 n82 : Int, v77 = (.agg #[(.int .u64 n79), (.int .u64 n80), (.int .u64 n81), (.int .u64 n82)]) ∧ Does Pr 115 #[(.agg #[(.int .u64 n79), (.int .u64 n80), (.int .u64 n81), (.int .u64 n82)]), (.int .u8 95), (.int .u8 95)] H78 (fun v83 H84 =>
 ∃ n85 n86 n87 n88 : Int, v83 = (.agg #[(.int .u64 n85), (.int .u64 n86), (.int .u64 n87), (.int .u64 n88)]) ∧ ptr x2 fun q90 =>
 wr q90 [(.int .u64 n85), (.int .u64 n86), (.int .u64 n87), (.int .u64 n88)] H84 fun H89 =>
 ptr x2 fun q91 =>
 ∃ n92 n93 n94 n95 : Int, Heap.rd H89 q91 0 [(.int .u64 n92), (.int .u64 n93), (.int .u64 n94), (.int .u64 n95)] ∧ Q (.tuple #[(.agg #[(.int .u64 n92), (.int .u64 n93), (.int .u64 n94), (.int .u64 n95)]), (.bool true)]) H89) E) E) E)
 (sel ((x0 : Int) == 115)
 (Does Pr 112 #[(.string ⟨[32, 9, 13, 10].toArray⟩)] H (fun v96 H97 =>
 ∃ n98 n99 n100 n101 : Int, v96 = (.agg #[(.int .u64 n98), (.int .u64 n99), (.int .u64 n100), (.int .u64 n101)]) ∧ ptr x2 fun q103 =>
 wr q103 [(.int .u64 n98), (.int .u64 n99), (.int .u64 n100), (.int .u64 n101)] H97 fun H102 =>
 ptr x2 fun q104 =>
 ∃ n105 n106 n107 n108 : Int, Heap.rd H102 q104 0 [(.int .u64 n105), (.int .u64 n106), (.int .u64 n107), (.int .u64 n108)] ∧ Q (.tuple #[(.agg #[(.int .u64 n105), (.int .u64 n106), (.int .u64 n107), (.int .u64 n108)]), (.bool true)]) H102) E)
 (regex_named_1 Q E x2 H)))

def regex_named_3_M (Q : QT) (E : ET) (τ : Tau) (H : Heap) : Prop := mI .u8 (τ 0) fun x0 => mP (τ 2) fun x2 => mP (τ 4) fun x4 => regex_named_3 Q E x0 x2 x4 H

theorem regex_named_4ok (Q : QT) (E : ET) (τ : Tau) (H : Heap) (h : regex_named_3_M Q E τ H) : vc Pr regex_named_p4 τ (regex_named_q2 Q E) E H :=
  vI (i := 0) h (fun x0 h => vP (i := 2) h (fun x2 h => vP (i := 4) h (fun x4 h => (conv (by kernel_rfl) h))))

theorem regex_named_5ok (Q : QT) (E : ET) (τ : Tau) (H : Heap) (h : regex_named_3_M Q E τ H) : vc Pr regex_named_p2 τ (regex_named_q1 Q E) E H :=
  (conv (B := vc Pr regex_named_p2 τ (regex_named_q1 Q E) E H) (by kernel_rfl) (vc_seq (K := (regex_named_1_M Q E)) (regex_named_4ok Q E τ H h) (regex_named_2ok Q E)))

@[reducible] noncomputable def regex_named_q3 (Q : QT) (E : ET) : Exit → Tau → Heap → Prop := (xthen (regex_named_3_M Q E) (regex_named_q1 Q E))

@[reducible] noncomputable def regex_named_p5 : Code := sA regex_named_p1

def regex_named_6 (Q : QT) (E : ET) (x0 : Int) (x2 : OA) (H : Heap) : Prop :=
 Does Pr 115 #[(.agg #[(.int .u64 0), (.int .u64 0), (.int .u64 0), (.int .u64 0)]), (.int .u8 48), (.int .u8 57)] H (fun v109 H110 =>
 ∃ n111 n112 n113 n114 : Int, v109 = (.agg #[(.int .u64 n111), (.int .u64 n112), (.int .u64 n113), (.int .u64 n114)]) ∧ nw (.cells #[(.int .u64 0), (.int .u64 0), (.int .u64 0), (.int .u64 0)] 46 (0, 0)) H110 fun i115 H116 =>
 wr ⟨i115, 0, none⟩ [(.int .u64 n111), (.int .u64 n112), (.int .u64 n113), (.int .u64 n114)] H116 fun H117 =>
 regex_named_3 Q E x0 x2 (some ⟨i115, 0, none⟩) H117) E

def regex_named_6_M (Q : QT) (E : ET) (τ : Tau) (H : Heap) : Prop := mI .u8 (τ 0) fun x0 => mP (τ 2) fun x2 => regex_named_6 Q E x0 x2 H

theorem regex_named_7ok (Q : QT) (E : ET) (τ : Tau) (H : Heap) (h : regex_named_6_M Q E τ H) : vc Pr regex_named_p5 τ (regex_named_q3 Q E) E H :=
  vI (i := 0) h (fun x0 h => vP (i := 2) h (fun x2 h => (conv (by kernel_rfl) h)))

theorem regex_named_8ok (Q : QT) (E : ET) (τ : Tau) (H : Heap) (h : regex_named_6_M Q E τ H) : vc Pr regex_named_p1 τ (regex_named_q1 Q E) E H :=
  (conv (B := vc Pr regex_named_p1 τ (regex_named_q1 Q E) E H) (by kernel_rfl) (vc_seq (K := (regex_named_3_M Q E)) (regex_named_7ok Q E τ H h) (regex_named_5ok Q E)))

@[reducible] noncomputable def regex_named_q4 (Q : QT) (E : ET) : Exit → Tau → Heap → Prop := (xthen (regex_named_6_M Q E) (regex_named_q1 Q E))

@[reducible] noncomputable def regex_named_p6 : Code := sA regex_named_p0

def regex_named (Q : QT) (E : ET) (a0 : Int) (H : Heap) : Prop :=
 nw (.cells #[(.int .u64 0), (.int .u64 0), (.int .u64 0), (.int .u64 0)] 46 (0, 0)) H fun i118 H119 =>
 regex_named_6 Q E a0 (some ⟨i118, 0, none⟩) H119

theorem regex_named_fn (a0 : Int) (Q : QT) (E : ET) (H : Heap) (h : regex_named Q E a0 H)   : Does Pr 120 #[(.int .u8 a0)] H Q E :=
  Fn_of_vc (fn := Try.f120) (c := regex_named_p0) (args := [(.int .u8 a0)]) mixed (by kernel_rfl) (by kernel_rfl) (by kernel_rfl) (by kernel_rfl) (by kernel_rfl) ((conv (B := vc Pr regex_named_p0 (argT [(.int .u8 a0)]) (regex_named_q1 Q E) E H) (by kernel_rfl) (vc_seq (K := (regex_named_6_M Q E)) (conv (B := vc Pr regex_named_p6 (argT [(.int .u8 a0)]) (regex_named_q4 Q E) E H) (by kernel_rfl) h) (regex_named_8ok Q E))))

/-! jobmux/regex.single -/
@[reducible] noncomputable def regex_single_q1 (Q : QT) (E : ET) : Exit → Tau → Heap → Prop := (retQ Pr (Try.f121).results.toList Q)

@[reducible] noncomputable def regex_single_p0 : Code := bodyOf Try.f121

@[reducible] noncomputable def regex_single_p1 : Code := sB regex_single_p0

@[reducible] noncomputable def regex_single_p2 : Code := sB regex_single_p1

def regex_single_1 (Q : QT) (E : ET)  (H : Heap) : Prop :=
 Q (.tuple #[(.int .u8 0), (.bool false)]) H

def regex_single_1_M (Q : QT) (E : ET) (τ : Tau) (H : Heap) : Prop := regex_single_1 Q E  H

theorem regex_single_2ok (Q : QT) (E : ET) (τ : Tau) (H : Heap) (h : regex_single_1_M Q E τ H) : vc Pr regex_single_p2 τ (regex_single_q1 Q E) E H :=
  (conv (B := vc Pr regex_single_p2 τ (regex_single_q1 Q E) E H) (by kernel_rfl) h)

@[reducible] noncomputable def regex_single_q2 (Q : QT) (E : ET) : Exit → Tau → Heap → Prop := (xthen (regex_single_1_M Q E) (regex_single_q1 Q E))

@[reducible] noncomputable def regex_single_p3 : Code := sA regex_single_p1

@[reducible] noncomputable def regex_single_q3 (Q : QT) (E : ET) : Exit → Tau → Heap → Prop := (xblock 0 (regex_single_q2 Q E))

@[reducible] noncomputable def regex_single_p4 : Code := sI regex_single_p3

@[reducible] noncomputable def regex_single_p5 : Code := sB regex_single_p4

@[reducible] noncomputable def regex_single_p6 : Code := sT regex_single_p5

def regex_single_3 (Q : QT) (E : ET)  (H : Heap) : Prop :=
 Q (.tuple #[(.int .u8 10), (.bool true)]) H

def regex_single_3_M (Q : QT) (E : ET) (τ : Tau) (H : Heap) : Prop := regex_single_3 Q E  H

theorem regex_single_4ok (Q : QT) (E : ET) (τ : Tau) (H : Heap) (h : regex_single_3_M Q E τ H) : vc Pr regex_single_p6 τ (regex_single_q3 Q E) E H :=
  (conv (B := vc Pr regex_single_p6 τ (regex_single_q3 Q E) E H) (by kernel_rfl) h)

@[reducible] noncomputable def regex_single_p7 : Code := sE regex_single_p5

@[reducible] noncomputable def regex_single_p8 : Code := sB regex_single_p7

@[reducible] noncomputable def regex_single_p9 : Code := sT regex_single_p8

def regex_single_5 (Q : QT) (E : ET)  (H : Heap) : Prop :=
 Q (.tuple #[(.int .u8 9), (.bool true)]) H

def regex_single_5_M (Q : QT) (E : ET) (τ : Tau) (H : Heap) : Prop := regex_single_5 Q E  H

theorem regex_single_6ok (Q : QT) (E : ET) (τ : Tau) (H : Heap) (h : regex_single_5_M Q E τ H) : vc Pr regex_single_p9 τ (regex_single_q3 Q E) E H :=
  (conv (B := vc Pr regex_single_p9 τ (regex_single_q3 Q E) E H) (by kernel_rfl) h)

@[reducible] noncomputable def regex_single_p10 : Code := sE regex_single_p8

@[reducible] noncomputable def regex_single_p11 : Code := sB regex_single_p10

@[reducible] noncomputable def regex_single_p12 : Code := sT regex_single_p11

def regex_single_7 (Q : QT) (E : ET)  (H : Heap) : Prop :=
 Q (.tuple #[(.int .u8 13), (.bool true)]) H

def regex_single_7_M (Q : QT) (E : ET) (τ : Tau) (H : Heap) : Prop := regex_single_7 Q E  H

theorem regex_single_8ok (Q : QT) (E : ET) (τ : Tau) (H : Heap) (h : regex_single_7_M Q E τ H) : vc Pr regex_single_p12 τ (regex_single_q3 Q E) E H :=
  (conv (B := vc Pr regex_single_p12 τ (regex_single_q3 Q E) E H) (by kernel_rfl) h)

@[reducible] noncomputable def regex_single_p13 : Code := sE regex_single_p11

@[reducible] noncomputable def regex_single_p14 : Code := sB regex_single_p13

def regex_single_9 (Q : QT) (E : ET) (x0 : Int) (x13 : Bool) (H : Heap) : Prop :=
 sel x13
 (Q (.tuple #[(.int .u8 x0), (.bool true)]) H)
 (regex_single_1 Q E  H)

def regex_single_9_M (Q : QT) (E : ET) (τ : Tau) (H : Heap) : Prop := mI .u8 (τ 0) fun x0 => mB (τ 13) fun x13 => regex_single_9 Q E x0 x13 H

theorem regex_single_10ok (Q : QT) (E : ET) (τ : Tau) (H : Heap) (h : regex_single_9_M Q E τ H) : vc Pr regex_single_p14 τ (regex_single_q3 Q E) E H :=
  vI (i := 0) h (fun x0 h => vB (i := 13) h (fun x13 h => (conv (by kernel_rfl) h)))

@[reducible] noncomputable def regex_single_q4 (Q : QT) (E : ET) : Exit → Tau → Heap → Prop := (xthen (regex_single_9_M Q E) (regex_single_q3 Q E))

@[reducible] noncomputable def regex_single_p15 : Code := sA regex_single_p13

@[reducible] noncomputable def regex_single_p16 : Code := sB regex_single_p15

@[reducible] noncomputable def regex_single_p17 : Code := sT regex_single_p16

def regex_single_11 (Q : QT) (E : ET) (x0 : Int) (x13 : Bool) (H : Heap) : Prop :=
 regex_single_9 Q E x0 x13 H

def regex_single_11_M (Q : QT) (E : ET) (τ : Tau) (H : Heap) : Prop := mI .u8 (τ 0) fun x0 => mB (τ 13) fun x13 => regex_single_11 Q E x0 x13 H

theorem regex_single_12ok (Q : QT) (E : ET) (τ : Tau) (H : Heap) (h : regex_single_11_M Q E τ H) : vc Pr regex_single_p17 τ (regex_single_q4 Q E) E H :=
  vI (i := 0) h (fun x0 h => vB (i := 13) h (fun x13 h => (conv (by kernel_rfl) h)))

@[reducible] noncomputable def regex_single_p18 : Code := sE regex_single_p16

@[reducible] noncomputable def regex_single_p19 : Code := sB regex_single_p18

@[reducible] noncomputable def regex_single_p20 : Code := sT regex_single_p19

def regex_single_13 (Q : QT) (E : ET) (x0 : Int) (x13 : Bool) (H : Heap) : Prop :=
 regex_single_9 Q E x0 x13 H

def regex_single_13_M (Q : QT) (E : ET) (τ : Tau) (H : Heap) : Prop := mI .u8 (τ 0) fun x0 => mB (τ 13) fun x13 => regex_single_13 Q E x0 x13 H

theorem regex_single_14ok (Q : QT) (E : ET) (τ : Tau) (H : Heap) (h : regex_single_13_M Q E τ H) : vc Pr regex_single_p20 τ (regex_single_q4 Q E) E H :=
  vI (i := 0) h (fun x0 h => vB (i := 13) h (fun x13 h => (conv (by kernel_rfl) h)))

@[reducible] noncomputable def regex_single_p21 : Code := sE regex_single_p19

@[reducible] noncomputable def regex_single_p22 : Code := sB regex_single_p21

def regex_single_15 (Q : QT) (E : ET) (x0 : Int) (x13 : Bool) (H : Heap) : Prop :=
 sel x13
 (regex_single_9 Q E x0 x13 H)
 (sel (decide ((x0 : Int) ≥ 123))
 (regex_single_9 Q E x0 (decide ((x0 : Int) ≤ 126)) H)
 (regex_single_9 Q E x0 false H))

def regex_single_15_M (Q : QT) (E : ET) (τ : Tau) (H : Heap) : Prop := mI .u8 (τ 0) fun x0 => mB (τ 13) fun x13 => regex_single_15 Q E x0 x13 H

theorem regex_single_16ok (Q : QT) (E : ET) (τ : Tau) (H : Heap) (h : regex_single_15_M Q E τ H) : vc Pr regex_single_p22 τ (regex_single_q4 Q E) E H :=
  vI (i := 0) h (fun x0 h => vB (i := 13) h (fun x13 h => (conv (by kernel_rfl) h)))

@[reducible] noncomputable def regex_single_q5 (Q : QT) (E : ET) : Exit → Tau → Heap → Prop := (xthen (regex_single_15_M Q E) (regex_single_q4 Q E))

@[reducible] noncomputable def regex_single_p23 : Code := sA regex_single_p21

def regex_single_17 (Q : QT) (E : ET) (x0 : Int) (H : Heap) : Prop :=
 sel (decide ((x0 : Int) ≥ 91))
 (regex_single_15 Q E x0 (decide ((x0 : Int) ≤ 96)) H)
 (regex_single_15 Q E x0 false H)

def regex_single_17_M (Q : QT) (E : ET) (τ : Tau) (H : Heap) : Prop := mI .u8 (τ 0) fun x0 => regex_single_17 Q E x0 H

theorem regex_single_18ok (Q : QT) (E : ET) (τ : Tau) (H : Heap) (h : regex_single_17_M Q E τ H) : vc Pr regex_single_p23 τ (regex_single_q5 Q E) E H :=
  vI (i := 0) h (fun x0 h => (conv (by kernel_rfl) h))

theorem regex_single_19ok (Q : QT) (E : ET) (τ : Tau) (H : Heap) (h : regex_single_17_M Q E τ H) : vc Pr regex_single_p21 τ (regex_single_q4 Q E) E H :=
  (conv (B := vc Pr regex_single_p21 τ (regex_single_q4 Q E) E H) (by kernel_rfl) (vc_seq (K := (regex_single_15_M Q E)) (regex_single_18ok Q E τ H h) (regex_single_16ok Q E)))

def regex_single_20 (Q : QT) (E : ET) (x0 : Int) (x13 : Bool) (H : Heap) : Prop :=
 sel x13
 (regex_single_13 Q E x0 x13 H)
 (regex_single_17 Q E x0 H)

def regex_single_20_M (Q : QT) (E : ET) (τ : Tau) (H : Heap) : Prop := mI .u8 (τ 0) fun x0 => mB (τ 13) fun x13 => regex_single_20 Q E x0 x13 H

theorem regex_single_21ok (Q : QT) (E : ET) (τ : Tau) (H : Heap) (h : regex_single_20_M Q E τ H) : vc Pr regex_single_p19 τ (regex_single_q4 Q E) E H :=
  vI (i := 0) h (fun x0 h => vB (i := 13) h (fun x13 h => (conv (B := vc Pr regex_single_p19 (Tau.upd (Tau.upd τ 0 (.int .u8 x0)) 13 (.bool x13)) (regex_single_q4 Q E) E H) (by kernel_rfl) (sel_map (regex_single_14ok Q E (Tau.upd (Tau.upd τ 0 (.int .u8 x0)) 13 (.bool x13)) H) (regex_single_19ok Q E (Tau.upd (Tau.upd τ 0 (.int .u8 x0)) 13 (.bool x13)) H) (conv (B := sel x13 (regex_single_13_M Q E (Tau.upd (Tau.upd τ 0 (.int .u8 x0)) 13 (.bool x13)) H) (regex_single_17_M Q E (Tau.upd (Tau.upd τ 0 (.int .u8 x0)) 13 (.bool x13)) H)) (by kernel_rfl) h)))))

@[reducible] noncomputable def regex_single_q6 (Q : QT) (E : ET) : Exit → Tau → Heap → Prop := (xthen (regex_single_20_M Q E) (regex_single_q4 Q E))

@[reducible] noncomputable def regex_single_p24 : Code := sA regex_single_p18

def regex_single_22 (Q : QT) (E : ET) (x0 : Int) (H : Heap) : Prop :=
 sel (decide ((x0 : Int) ≥ 58))
 (regex_single_20 Q E x0 (decide ((x0 : Int) ≤ 64)) H)
 (regex_single_20 Q E x0 false H)

def regex_single_22_M (Q : QT) (E : ET) (τ : Tau) (H : Heap) : Prop := mI .u8 (τ 0) fun x0 => regex_single_22 Q E x0 H

theorem regex_single_23ok (Q : QT) (E : ET) (τ : Tau) (H : Heap) (h : regex_single_22_M Q E τ H) : vc Pr regex_single_p24 τ (regex_single_q6 Q E) E H :=
  vI (i := 0) h (fun x0 h => (conv (by kernel_rfl) h))

theorem regex_single_24ok (Q : QT) (E : ET) (τ : Tau) (H : Heap) (h : regex_single_22_M Q E τ H) : vc Pr regex_single_p18 τ (regex_single_q4 Q E) E H :=
  (conv (B := vc Pr regex_single_p18 τ (regex_single_q4 Q E) E H) (by kernel_rfl) (vc_seq (K := (regex_single_20_M Q E)) (regex_single_23ok Q E τ H h) (regex_single_21ok Q E)))

def regex_single_25 (Q : QT) (E : ET) (x0 : Int) (x13 : Bool) (H : Heap) : Prop :=
 sel x13
 (regex_single_11 Q E x0 x13 H)
 (regex_single_22 Q E x0 H)

def regex_single_25_M (Q : QT) (E : ET) (τ : Tau) (H : Heap) : Prop := mI .u8 (τ 0) fun x0 => mB (τ 13) fun x13 => regex_single_25 Q E x0 x13 H

theorem regex_single_26ok (Q : QT) (E : ET) (τ : Tau) (H : Heap) (h : regex_single_25_M Q E τ H) : vc Pr regex_single_p16 τ (regex_single_q4 Q E) E H :=
  vI (i := 0) h (fun x0 h => vB (i := 13) h (fun x13 h => (conv (B := vc Pr regex_single_p16 (Tau.upd (Tau.upd τ 0 (.int .u8 x0)) 13 (.bool x13)) (regex_single_q4 Q E) E H) (by kernel_rfl) (sel_map (regex_single_12ok Q E (Tau.upd (Tau.upd τ 0 (.int .u8 x0)) 13 (.bool x13)) H) (regex_single_24ok Q E (Tau.upd (Tau.upd τ 0 (.int .u8 x0)) 13 (.bool x13)) H) (conv (B := sel x13 (regex_single_11_M Q E (Tau.upd (Tau.upd τ 0 (.int .u8 x0)) 13 (.bool x13)) H) (regex_single_22_M Q E (Tau.upd (Tau.upd τ 0 (.int .u8 x0)) 13 (.bool x13)) H)) (by kernel_rfl) h)))))

@[reducible] noncomputable def regex_single_q7 (Q : QT) (E : ET) : Exit → Tau → Heap → Prop := (xthen (regex_single_25_M Q E) (regex_single_q4 Q E))

@[reducible] noncomputable def regex_single_p25 : Code := sA regex_single_p15

def regex_single_27 (Q : QT) (E : ET) (x0 : Int) (H : Heap) : Prop :=
 sel (decide ((x0 : Int) ≥ 33))
 (regex_single_25 Q E x0 (decide ((x0 : Int) ≤ 47)) H)
 (regex_single_25 Q E x0 false H)

def regex_single_27_M (Q : QT) (E : ET) (τ : Tau) (H : Heap) : Prop := mI .u8 (τ 0) fun x0 => regex_single_27 Q E x0 H

theorem regex_single_28ok (Q : QT) (E : ET) (τ : Tau) (H : Heap) (h : regex_single_27_M Q E τ H) : vc Pr regex_single_p25 τ (regex_single_q7 Q E) E H :=
  vI (i := 0) h (fun x0 h => (conv (by kernel_rfl) h))

theorem regex_single_29ok (Q : QT) (E : ET) (τ : Tau) (H : Heap) (h : regex_single_27_M Q E τ H) : vc Pr regex_single_p15 τ (regex_single_q4 Q E) E H :=
  (conv (B := vc Pr regex_single_p15 τ (regex_single_q4 Q E) E H) (by kernel_rfl) (vc_seq (K := (regex_single_25_M Q E)) (regex_single_28ok Q E τ H h) (regex_single_26ok Q E)))

theorem regex_single_30ok (Q : QT) (E : ET) (τ : Tau) (H : Heap) (h : regex_single_27_M Q E τ H) : vc Pr regex_single_p13 τ (regex_single_q3 Q E) E H :=
  (conv (B := vc Pr regex_single_p13 τ (regex_single_q3 Q E) E H) (by kernel_rfl) (vc_seq (K := (regex_single_9_M Q E)) (regex_single_29ok Q E τ H h) (regex_single_10ok Q E)))

def regex_single_31 (Q : QT) (E : ET) (x0 : Int) (x10 : Bool) (H : Heap) : Prop :=
 sel x10
 (regex_single_7 Q E  H)
 (regex_single_27 Q E x0 H)

def regex_single_31_M (Q : QT) (E : ET) (τ : Tau) (H : Heap) : Prop := mI .u8 (τ 0) fun x0 => mB (τ 10) fun x10 => regex_single_31 Q E x0 x10 H

theorem regex_single_32ok (Q : QT) (E : ET) (τ : Tau) (H : Heap) (h : regex_single_31_M Q E τ H) : vc Pr regex_single_p11 τ (regex_single_q3 Q E) E H :=
  vI (i := 0) h (fun x0 h => vB (i := 10) h (fun x10 h => (conv (B := vc Pr regex_single_p11 (Tau.upd (Tau.upd τ 0 (.int .u8 x0)) 10 (.bool x10)) (regex_single_q3 Q E) E H) (by kernel_rfl) (sel_map (regex_single_8ok Q E (Tau.upd (Tau.upd τ 0 (.int .u8 x0)) 10 (.bool x10)) H) (regex_single_30ok Q E (Tau.upd (Tau.upd τ 0 (.int .u8 x0)) 10 (.bool x10)) H) (conv (B := sel x10 (regex_single_7_M Q E (Tau.upd (Tau.upd τ 0 (.int .u8 x0)) 10 (.bool x10)) H) (regex_single_27_M Q E (Tau.upd (Tau.upd τ 0 (.int .u8 x0)) 10 (.bool x10)) H)) (by kernel_rfl) h)))))

@[reducible] noncomputable def regex_single_q8 (Q : QT) (E : ET) : Exit → Tau → Heap → Prop := (xthen (regex_single_31_M Q E) (regex_single_q3 Q E))

@[reducible] noncomputable def regex_single_p26 : Code := sA regex_single_p10

def regex_single_33 (Q : QT) (E : ET) (x0 : Int) (H : Heap) : Prop :=
 regex_single_31 Q E x0 ((x0 : Int) == 114) H

def regex_single_33_M (Q : QT) (E : ET) (τ : Tau) (H : Heap) : Prop := mI .u8 (τ 0) fun x0 => regex_single_33 Q E x0 H

theorem regex_single_34ok (Q : QT) (E : ET) (τ : Tau) (H : Heap) (h : regex_single_33_M Q E τ H) : vc Pr regex_single_p26 τ (regex_single_q8 Q E) E H :=
  vI (i := 0) h (fun x0 h => (conv (by kernel_rfl) h))

theorem regex_single_35ok (Q : QT) (E : ET) (τ : Tau) (H : Heap) (h : regex_single_33_M Q E τ H) : vc Pr regex_single_p10 τ (regex_single_q3 Q E) E H :=
  (conv (B := vc Pr regex_single_p10 τ (regex_single_q3 Q E) E H) (by kernel_rfl) (vc_seq (K := (regex_single_31_M Q E)) (regex_single_34ok Q E τ H h) (regex_single_32ok Q E)))

def regex_single_36 (Q : QT) (E : ET) (x0 : Int) (x7 : Bool) (H : Heap) : Prop :=
 sel x7
 (regex_single_5 Q E  H)
 (regex_single_33 Q E x0 H)

def regex_single_36_M (Q : QT) (E : ET) (τ : Tau) (H : Heap) : Prop := mI .u8 (τ 0) fun x0 => mB (τ 7) fun x7 => regex_single_36 Q E x0 x7 H

theorem regex_single_37ok (Q : QT) (E : ET) (τ : Tau) (H : Heap) (h : regex_single_36_M Q E τ H) : vc Pr regex_single_p8 τ (regex_single_q3 Q E) E H :=
  vI (i := 0) h (fun x0 h => vB (i := 7) h (fun x7 h => (conv (B := vc Pr regex_single_p8 (Tau.upd (Tau.upd τ 0 (.int .u8 x0)) 7 (.bool x7)) (regex_single_q3 Q E) E H) (by kernel_rfl) (sel_map (regex_single_6ok Q E (Tau.upd (Tau.upd τ 0 (.int .u8 x0)) 7 (.bool x7)) H) (regex_single_35ok Q E (Tau.upd (Tau.upd τ 0 (.int .u8 x0)) 7 (.bool x7)) H) (conv (B := sel x7 (regex_single_5_M Q E (Tau.upd (Tau.upd τ 0 (.int .u8 x0)) 7 (.bool x7)) H) (regex_single_33_M Q E (Tau.upd (Tau.upd τ 0 (.int .u8 x0)) 7 (.bool x7)) H)) (by kernel_rfl) h)))))

@[reducible] noncomputable def regex_single_q9 (Q : QT) (E : ET) : Exit → Tau → Heap → Prop := (xthen (regex_single_36_M Q E) (regex_single_q3 Q E))

@[reducible] noncomputable def regex_single_p27 : Code := sA regex_single_p7

def regex_single_38 (Q : QT) (E : ET) (x0 : Int) (H : Heap) : Prop :=
 regex_single_36 Q E x0 ((x0 : Int) == 116) H

def regex_single_38_M (Q : QT) (E : ET) (τ : Tau) (H : Heap) : Prop := mI .u8 (τ 0) fun x0 => regex_single_38 Q E x0 H

theorem regex_single_39ok (Q : QT) (E : ET) (τ : Tau) (H : Heap) (h : regex_single_38_M Q E τ H) : vc Pr regex_single_p27 τ (regex_single_q9 Q E) E H :=
  vI (i := 0) h (fun x0 h => (conv (by kernel_rfl) h))

theorem regex_single_40ok (Q : QT) (E : ET) (τ : Tau) (H : Heap) (h : regex_single_38_M Q E τ H) : vc Pr regex_single_p7 τ (regex_single_q3 Q E) E H :=
  (conv (B := vc Pr regex_single_p7 τ (regex_single_q3 Q E) E H) (by kernel_rfl) (vc_seq (K := (regex_single_36_M Q E)) (regex_single_39ok Q E τ H h) (regex_single_37ok Q E)))

def regex_single_41 (Q : QT) (E : ET) (x0 : Int) (x4 : Bool) (H : Heap) : Prop :=
 sel x4
 (regex_single_3 Q E  H)
 (regex_single_38 Q E x0 H)

def regex_single_41_M (Q : QT) (E : ET) (τ : Tau) (H : Heap) : Prop := mI .u8 (τ 0) fun x0 => mB (τ 4) fun x4 => regex_single_41 Q E x0 x4 H

theorem regex_single_42ok (Q : QT) (E : ET) (τ : Tau) (H : Heap) (h : regex_single_41_M Q E τ H) : vc Pr regex_single_p5 τ (regex_single_q3 Q E) E H :=
  vI (i := 0) h (fun x0 h => vB (i := 4) h (fun x4 h => (conv (B := vc Pr regex_single_p5 (Tau.upd (Tau.upd τ 0 (.int .u8 x0)) 4 (.bool x4)) (regex_single_q3 Q E) E H) (by kernel_rfl) (sel_map (regex_single_4ok Q E (Tau.upd (Tau.upd τ 0 (.int .u8 x0)) 4 (.bool x4)) H) (regex_single_40ok Q E (Tau.upd (Tau.upd τ 0 (.int .u8 x0)) 4 (.bool x4)) H) (conv (B := sel x4 (regex_single_3_M Q E (Tau.upd (Tau.upd τ 0 (.int .u8 x0)) 4 (.bool x4)) H) (regex_single_38_M Q E (Tau.upd (Tau.upd τ 0 (.int .u8 x0)) 4 (.bool x4)) H)) (by kernel_rfl) h)))))

@[reducible] noncomputable def regex_single_q10 (Q : QT) (E : ET) : Exit → Tau → Heap → Prop := (xthen (regex_single_41_M Q E) (regex_single_q3 Q E))

@[reducible] noncomputable def regex_single_p28 : Code := sA regex_single_p4

def regex_single_43 (Q : QT) (E : ET) (x0 : Int) (H : Heap) : Prop :=
 regex_single_41 Q E x0 ((x0 : Int) == 110) H

def regex_single_43_M (Q : QT) (E : ET) (τ : Tau) (H : Heap) : Prop := mI .u8 (τ 0) fun x0 => regex_single_43 Q E x0 H

theorem regex_single_44ok (Q : QT) (E : ET) (τ : Tau) (H : Heap) (h : regex_single_43_M Q E τ H) : vc Pr regex_single_p28 τ (regex_single_q10 Q E) E H :=
  vI (i := 0) h (fun x0 h => (conv (by kernel_rfl) h))

theorem regex_single_45ok (Q : QT) (E : ET) (τ : Tau) (H : Heap) (h : regex_single_43_M Q E τ H) : vc Pr regex_single_p4 τ (regex_single_q3 Q E) E H :=
  (conv (B := vc Pr regex_single_p4 τ (regex_single_q3 Q E) E H) (by kernel_rfl) (vc_seq (K := (regex_single_41_M Q E)) (regex_single_44ok Q E τ H h) (regex_single_42ok Q E)))

theorem regex_single_46ok (Q : QT) (E : ET) (τ : Tau) (H : Heap) (h : regex_single_43_M Q E τ H) : vc Pr regex_single_p3 τ (regex_single_q2 Q E) E H :=
  (conv (B := vc Pr regex_single_p3 τ (regex_single_q2 Q E) E H) (by kernel_rfl) (regex_single_45ok Q E τ H h))

theorem regex_single_47ok (Q : QT) (E : ET) (τ : Tau) (H : Heap) (h : regex_single_43_M Q E τ H) : vc Pr regex_single_p1 τ (regex_single_q1 Q E) E H :=
  (conv (B := vc Pr regex_single_p1 τ (regex_single_q1 Q E) E H) (by kernel_rfl) (vc_seq (K := (regex_single_1_M Q E)) (regex_single_46ok Q E τ H h) (regex_single_2ok Q E)))

@[reducible] noncomputable def regex_single_q11 (Q : QT) (E : ET) : Exit → Tau → Heap → Prop := (xthen (regex_single_43_M Q E) (regex_single_q1 Q E))

@[reducible] noncomputable def regex_single_p29 : Code := sA regex_single_p0

def regex_single (Q : QT) (E : ET) (a0 : Int) (H : Heap) : Prop :=
 regex_single_43 Q E a0 H

theorem regex_single_fn (a0 : Int) (Q : QT) (E : ET) (H : Heap) (h : regex_single Q E a0 H)   : Does Pr 121 #[(.int .u8 a0)] H Q E :=
  Fn_of_vc (fn := Try.f121) (c := regex_single_p0) (args := [(.int .u8 a0)]) mixed (by kernel_rfl) (by kernel_rfl) (by kernel_rfl) (by kernel_rfl) (by kernel_rfl) ((conv (B := vc Pr regex_single_p0 (argT [(.int .u8 a0)]) (regex_single_q1 Q E) E H) (by kernel_rfl) (vc_seq (K := (regex_single_43_M Q E)) (conv (B := vc Pr regex_single_p29 (argT [(.int .u8 a0)]) (regex_single_q11 Q E) E H) (by kernel_rfl) h) (regex_single_47ok Q E))))

end Go.Proofs.Ytaffcoiomggpfaa
