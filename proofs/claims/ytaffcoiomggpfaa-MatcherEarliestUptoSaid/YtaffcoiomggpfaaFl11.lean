import Derived.Test.YtaffcoiomggpfaaVPr
/- Printed by gen.py: the Go functions of package l11 over a heap view, and that the model does so. -/
namespace Go.Proofs.Ytaffcoiomggpfaa
open Go.V
set_option linter.unusedVariables false
set_option maxRecDepth 100000
/-! jobmux/jobmuxlaw11.MatcherEarliest -/
@[reducible] noncomputable def um2_q1 (Q : QT) (E : ET) : Exit → Tau → Heap → Prop := (retQ Pr (Try.f16).results.toList Q)

@[reducible] noncomputable def um2_p0 : Code := bodyOf Try.f16

@[reducible] noncomputable def um2_p1 : Code := sB um2_p0

@[reducible] noncomputable def um2_p2 : Code := sB um2_p1

@[reducible] noncomputable def um2_p3 : Code := sB um2_p2

@[reducible] noncomputable def um2_p4 : Code := sB um2_p3

@[reducible] noncomputable def um2_p5 : Code := sB um2_p4

@[reducible] noncomputable def um2_p6 : Code := sB um2_p5

@[reducible] noncomputable def um2_p7 : Code := sB um2_p6

def um2_1 (Q : QT) (E : ET) (x5 : OA) (l5 : Nat) (c5 : Nat) (x6 : ByteArray) (H : Heap) : Prop :=
 (((x6 : ByteArray).size + (⟨[40].toArray⟩ : ByteArray).size : Nat) : Int) ≤ 9223372036854775807 ∧ Does Pr 23 #[(.string (x6 ++ ⟨[40].toArray⟩))] H (fun v29 H30 =>
 ∃ (p31 : OA) (l32 c33 : Nat), ∃ n34 : Int, v29 = (.tuple #[(.slice p31 l32 c33), (.int .i64 n34)]) ∧ (((x6 : ByteArray).size + (⟨[40].toArray⟩ : ByteArray).size : Nat) : Int) ≤ 9223372036854775807 ∧ Does Pr 45 #[(.string (x6 ++ ⟨[40].toArray⟩)), (.slice x5 l5 c5)] H30 (fun v35 H36 =>
 ∃ n37 n38 n39 : Int, v35 = (.tuple #[(.int .i64 n37), (.int .i64 n38), (.int .i64 n39)]) ∧ Q (.bool ((n39 : Int) == n34)) H36) E) E

def um2_1_M (Q : QT) (E : ET) (τ : Tau) (H : Heap) : Prop := mSl (τ 5) fun x5 l5 c5 => mS (τ 6) fun x6 => um2_1 Q E x5 l5 c5 x6 H

theorem um2_2ok (Q : QT) (E : ET) (τ : Tau) (H : Heap) (h : um2_1_M Q E τ H) : vc Pr um2_p7 τ (um2_q1 Q E) E H :=
  vSl (i := 5) h (fun x5 l5 c5 h => vS (i := 6) h (fun x6 h => (conv (by kernel_rfl) h)))

@[reducible] noncomputable def um2_q2 (Q : QT) (E : ET) : Exit → Tau → Heap → Prop := (xthen (um2_1_M Q E) (um2_q1 Q E))

@[reducible] noncomputable def um2_p8 : Code := sA um2_p6

@[reducible] noncomputable def um2_p9 : Code := sB um2_p8

@[reducible] noncomputable def um2_q3 (Q : QT) (E : ET) : Exit → Tau → Heap → Prop := (xblock 0 (um2_q2 Q E))

@[reducible] noncomputable def um2_p10 : Code := sI um2_p9

@[reducible] noncomputable def um2_q4 (nx40 : Int → HP) (Q : QT) (E : ET) : Exit → Tau → Heap → Prop := (xthen (fun τ H => mI .i64 (τ 10) fun x10' => nx40 x10' H) (um2_q3 Q E))

@[reducible] noncomputable def um2_p11 : Code := sI um2_p10

@[reducible] noncomputable def um2_p12 : Code := sB um2_p11

@[reducible] noncomputable def um2_p13 : Code := sB um2_p12

def um2_3 (nx40 : Int → HP) (Q : QT) (E : ET) (x5 : OA) (l5 : Nat) (c5 : Nat) (x6 : ByteArray) (x7 : Int) (x8 : Int) (x10 : Int) (H : Heap) : Prop :=
 nx40 (IntKind.wrap .i64 (x10 + 1)) H

def um2_3_M (nx40 : Int → HP) (Q : QT) (E : ET) (τ : Tau) (H : Heap) : Prop := mSl (τ 5) fun x5 l5 c5 => mS (τ 6) fun x6 => mI .i64 (τ 7) fun x7 => mI .i64 (τ 8) fun x8 => mI .i64 (τ 10) fun x10 => um2_3 nx40 Q E x5 l5 c5 x6 x7 x8 x10 H

theorem um2_4ok (nx40 : Int → HP) (Q : QT) (E : ET) (τ : Tau) (H : Heap) (h : um2_3_M nx40 Q E τ H) : vc Pr um2_p13 τ (um2_q4 nx40 Q E) E H :=
  vSl (i := 5) h (fun x5 l5 c5 h => vS (i := 6) h (fun x6 h => vI (i := 7) h (fun x7 h => vI (i := 8) h (fun x8 h => vI (i := 10) h (fun x10 h => (conv (by kernel_rfl) h))))))

@[reducible] noncomputable def um2_q5 (nx40 : Int → HP) (Q : QT) (E : ET) : Exit → Tau → Heap → Prop := (xthen (um2_3_M nx40 Q E) (um2_q4 nx40 Q E))

@[reducible] noncomputable def um2_p14 : Code := sA um2_p12

@[reducible] noncomputable def um2_q6 (nx40 : Int → HP) (Q : QT) (E : ET) : Exit → Tau → Heap → Prop := (xblock 1 (um2_q5 nx40 Q E))

@[reducible] noncomputable def um2_p15 : Code := sI um2_p14

@[reducible] noncomputable def um2_p16 : Code := sB um2_p15

@[reducible] noncomputable def um2_p17 : Code := sB um2_p16

def um2_5 (nx40 : Int → HP) (Q : QT) (E : ET) (x5 : OA) (l5 : Nat) (c5 : Nat) (x6 : ByteArray) (x7 : Int) (x8 : Int) (x10 : Int) (x92 : Bool) (H : Heap) : Prop :=
 sel x92
 (Q (.bool false) H)
 (um2_3 nx40 Q E x5 l5 c5 x6 x7 x8 x10 H)

def um2_5_M (nx40 : Int → HP) (Q : QT) (E : ET) (τ : Tau) (H : Heap) : Prop := mSl (τ 5) fun x5 l5 c5 => mS (τ 6) fun x6 => mI .i64 (τ 7) fun x7 => mI .i64 (τ 8) fun x8 => mI .i64 (τ 10) fun x10 => mB (τ 92) fun x92 => um2_5 nx40 Q E x5 l5 c5 x6 x7 x8 x10 x92 H

theorem um2_6ok (nx40 : Int → HP) (Q : QT) (E : ET) (τ : Tau) (H : Heap) (h : um2_5_M nx40 Q E τ H) : vc Pr um2_p17 τ (um2_q6 nx40 Q E) E H :=
  vSl (i := 5) h (fun x5 l5 c5 h => vS (i := 6) h (fun x6 h => vI (i := 7) h (fun x7 h => vI (i := 8) h (fun x8 h => vI (i := 10) h (fun x10 h => vB (i := 92) h (fun x92 h => (conv (by kernel_rfl) h)))))))

@[reducible] noncomputable def um2_q7 (nx40 : Int → HP) (Q : QT) (E : ET) : Exit → Tau → Heap → Prop := (xthen (um2_5_M nx40 Q E) (um2_q6 nx40 Q E))

@[reducible] noncomputable def um2_p18 : Code := sA um2_p16

def um2_7 (nx40 : Int → HP) (Q : QT) (E : ET) (x5 : OA) (l5 : Nat) (c5 : Nat) (x6 : ByteArray) (x7 : Int) (x8 : Int) (x10 : Int) (x11 : Int) (x12 : Int) (x13 : Int) (H : Heap) : Prop :=
 sel ((x13 : Int) != 0)
 (um2_5 nx40 Q E x5 l5 c5 x6 x7 x8 x10 true H)
 (sel (decide ((x10 : Int) > x7))
 (sel ((x11 : Int) != x7)
 (um2_5 nx40 Q E x5 l5 c5 x6 x7 x8 x10 true H)
 (sel ((x12 : Int) != x8)
 (um2_5 nx40 Q E x5 l5 c5 x6 x7 x8 x10 true H)
 (sel (decide ((x10 : Int) ≤ x7))
 (sel ((x11 : Int) != x10)
 (um2_5 nx40 Q E x5 l5 c5 x6 x7 x8 x10 true H)
 (um2_5 nx40 Q E x5 l5 c5 x6 x7 x8 x10 ((x12 : Int) != (-1)) H))
 (um2_5 nx40 Q E x5 l5 c5 x6 x7 x8 x10 false H))))
 (sel (decide ((x10 : Int) ≤ x7))
 (sel ((x11 : Int) != x10)
 (um2_5 nx40 Q E x5 l5 c5 x6 x7 x8 x10 true H)
 (um2_5 nx40 Q E x5 l5 c5 x6 x7 x8 x10 ((x12 : Int) != (-1)) H))
 (um2_5 nx40 Q E x5 l5 c5 x6 x7 x8 x10 false H)))

def um2_7_M (nx40 : Int → HP) (Q : QT) (E : ET) (τ : Tau) (H : Heap) : Prop := mSl (τ 5) fun x5 l5 c5 => mS (τ 6) fun x6 => mI .i64 (τ 7) fun x7 => mI .i64 (τ 8) fun x8 => mI .i64 (τ 10) fun x10 => mI .i64 (τ 11) fun x11 => mI .i64 (τ 12) fun x12 => mI .i64 (τ 13) fun x13 => um2_7 nx40 Q E x5 l5 c5 x6 x7 x8 x10 x11 x12 x13 H

theorem um2_8ok (nx40 : Int → HP) (Q : QT) (E : ET) (τ : Tau) (H : Heap) (h : um2_7_M nx40 Q E τ H) : vc Pr um2_p18 τ (um2_q7 nx40 Q E) E H :=
  vSl (i := 5) h (fun x5 l5 c5 h => vS (i := 6) h (fun x6 h => vI (i := 7) h (fun x7 h => vI (i := 8) h (fun x8 h => vI (i := 10) h (fun x10 h => vI (i := 11) h (fun x11 h => vI (i := 12) h (fun x12 h => vI (i := 13) h (fun x13 h => (conv (by kernel_rfl) h)))))))))

theorem um2_9ok (nx40 : Int → HP) (Q : QT) (E : ET) (τ : Tau) (H : Heap) (h : um2_7_M nx40 Q E τ H) : vc Pr um2_p16 τ (um2_q6 nx40 Q E) E H :=
  (conv (B := vc Pr um2_p16 τ (um2_q6 nx40 Q E) E H) (by kernel_rfl) (vc_seq (K := (um2_5_M nx40 Q E)) (um2_8ok nx40 Q E τ H h) (um2_6ok nx40 Q E)))

@[reducible] noncomputable def um2_q8 (nx40 : Int → HP) (Q : QT) (E : ET) : Exit → Tau → Heap → Prop := (xthen (um2_7_M nx40 Q E) (um2_q6 nx40 Q E))

@[reducible] noncomputable def um2_p19 : Code := sA um2_p15

def um2_10 (nx40 : Int → HP) (Q : QT) (E : ET) (x5 : OA) (l5 : Nat) (c5 : Nat) (x6 : ByteArray) (x7 : Int) (x8 : Int) (x10 : Int) (H : Heap) : Prop :=
 (0 ≤ (x10 : Int) ∧ (x10 : Int) ≤ ((c5 : Nat) : Int)) ∧ Does Pr 45 #[(.string x6), (.slice (if c5 = 0 then x5 else Option.map (fun a => Addr.add a (0 * 1)) x5) ((x10 : Int).toNat - 0) (c5 - 0))] H (fun v51 H52 =>
 ∃ n53 n54 n55 : Int, v51 = (.tuple #[(.int .i64 n53), (.int .i64 n54), (.int .i64 n55)]) ∧ um2_7 nx40 Q E x5 l5 c5 x6 x7 x8 x10 n53 n54 n55 H52) E

def um2_10_M (nx40 : Int → HP) (Q : QT) (E : ET) (τ : Tau) (H : Heap) : Prop := mSl (τ 5) fun x5 l5 c5 => mS (τ 6) fun x6 => mI .i64 (τ 7) fun x7 => mI .i64 (τ 8) fun x8 => mI .i64 (τ 10) fun x10 => um2_10 nx40 Q E x5 l5 c5 x6 x7 x8 x10 H

theorem um2_11ok (nx40 : Int → HP) (Q : QT) (E : ET) (τ : Tau) (H : Heap) (h : um2_10_M nx40 Q E τ H) : vc Pr um2_p19 τ (um2_q8 nx40 Q E) E H :=
  vSl (i := 5) h (fun x5 l5 c5 h => vS (i := 6) h (fun x6 h => vI (i := 7) h (fun x7 h => vI (i := 8) h (fun x8 h => vI (i := 10) h (fun x10 h => (conv (by kernel_rfl) h))))))

theorem um2_12ok (nx40 : Int → HP) (Q : QT) (E : ET) (τ : Tau) (H : Heap) (h : um2_10_M nx40 Q E τ H) : vc Pr um2_p15 τ (um2_q6 nx40 Q E) E H :=
  (conv (B := vc Pr um2_p15 τ (um2_q6 nx40 Q E) E H) (by kernel_rfl) (vc_seq (K := (um2_7_M nx40 Q E)) (um2_11ok nx40 Q E τ H h) (um2_9ok nx40 Q E)))

theorem um2_13ok (nx40 : Int → HP) (Q : QT) (E : ET) (τ : Tau) (H : Heap) (h : um2_10_M nx40 Q E τ H) : vc Pr um2_p14 τ (um2_q5 nx40 Q E) E H :=
  (conv (B := vc Pr um2_p14 τ (um2_q5 nx40 Q E) E H) (by kernel_rfl) (um2_12ok nx40 Q E τ H h))

theorem um2_14ok (nx40 : Int → HP) (Q : QT) (E : ET) (τ : Tau) (H : Heap) (h : um2_10_M nx40 Q E τ H) : vc Pr um2_p12 τ (um2_q4 nx40 Q E) E H :=
  (conv (B := vc Pr um2_p12 τ (um2_q4 nx40 Q E) E H) (by kernel_rfl) (vc_seq (K := (um2_3_M nx40 Q E)) (um2_13ok nx40 Q E τ H h) (um2_4ok nx40 Q E)))

@[reducible] noncomputable def um2_q9 (nx40 : Int → HP) (Q : QT) (E : ET) : Exit → Tau → Heap → Prop := (xthen (um2_10_M nx40 Q E) (um2_q4 nx40 Q E))

@[reducible] noncomputable def um2_p20 : Code := sA um2_p11

def um2_15 (nx40 : Int → HP) (Q : QT) (E : ET) (x5 : OA) (l5 : Nat) (c5 : Nat) (x6 : ByteArray) (x7 : Int) (x8 : Int) (x10 : Int) (H : Heap) : Prop :=
 sel (decide ((x10 : Int) ≤ ((l5 : Nat) : Int)))
 (um2_10 nx40 Q E x5 l5 c5 x6 x7 x8 x10 H)
 (um2_1 Q E x5 l5 c5 x6 H)

def um2_15_M (nx40 : Int → HP) (Q : QT) (E : ET) (τ : Tau) (H : Heap) : Prop := mSl (τ 5) fun x5 l5 c5 => mS (τ 6) fun x6 => mI .i64 (τ 7) fun x7 => mI .i64 (τ 8) fun x8 => mI .i64 (τ 10) fun x10 => um2_15 nx40 Q E x5 l5 c5 x6 x7 x8 x10 H

theorem um2_16ok (nx40 : Int → HP) (Q : QT) (E : ET) (τ : Tau) (H : Heap) (h : um2_15_M nx40 Q E τ H) : vc Pr um2_p20 τ (um2_q9 nx40 Q E) E H :=
  vSl (i := 5) h (fun x5 l5 c5 h => vS (i := 6) h (fun x6 h => vI (i := 7) h (fun x7 h => vI (i := 8) h (fun x8 h => vI (i := 10) h (fun x10 h => (conv (by kernel_rfl) h))))))

theorem um2_17ok (nx40 : Int → HP) (Q : QT) (E : ET) (τ : Tau) (H : Heap) (h : um2_15_M nx40 Q E τ H) : vc Pr um2_p11 τ (um2_q4 nx40 Q E) E H :=
  (conv (B := vc Pr um2_p11 τ (um2_q4 nx40 Q E) E H) (by kernel_rfl) (vc_seq (K := (um2_10_M nx40 Q E)) (um2_16ok nx40 Q E τ H h) (um2_14ok nx40 Q E)))

def um2_18 (Q : QT) (E : ET) (x5 : OA) (l5 : Nat) (c5 : Nat) (x6 : ByteArray) (x7 : Int) (x8 : Int) (x10 : Int) (H : Heap) : Prop :=
 ∃ (I : Int → HP) (μ : Int → Heap → Nat), I x10 H ∧ ∀ (x10 : Int) (H : Heap), I x10 H →
 um2_15 (fun x10' H1 => I x10' H1 ∧ μ x10' H1 < μ x10 H) Q E x5 l5 c5 x6 x7 x8 x10 H

def um2_18_M (Q : QT) (E : ET) (τ : Tau) (H : Heap) : Prop := mSl (τ 5) fun x5 l5 c5 => mS (τ 6) fun x6 => mI .i64 (τ 7) fun x7 => mI .i64 (τ 8) fun x8 => mI .i64 (τ 10) fun x10 => um2_18 Q E x5 l5 c5 x6 x7 x8 x10 H

theorem um2_19ok (Q : QT) (E : ET) (τ : Tau) (H : Heap) (h : um2_18_M Q E τ H) : vc Pr um2_p10 τ (um2_q3 Q E) E H :=
  vSl (i := 5) h (fun x5 l5 c5 h => vS (i := 6) h (fun x6 h => vI (i := 7) h (fun x7 h => vI (i := 8) h (fun x8 h => vI (i := 10) h (fun x10 h => match h with | ⟨I, μ, h0, hr⟩ => (conv (B := vc Pr um2_p10 (Tau.upd (Tau.upd (Tau.upd (Tau.upd (Tau.upd τ 5 (.slice x5 l5 c5)) 6 (.string x6)) 7 (.int .i64 x7)) 8 (.int .i64 x8)) 10 (.int .i64 x10)) (um2_q3 Q E) E H) (by kernel_rfl) (vc_loop (c := sI um2_p10) (τ := (Tau.upd (Tau.upd (Tau.upd (Tau.upd (Tau.upd τ 5 (.slice x5 l5 c5)) 6 (.string x6)) 7 (.int .i64 x7)) 8 (.int .i64 x8)) 10 (.int .i64 x10))) [5, 6, 7, 8] (fun τ H => mI .i64 (τ 10) fun x10' => I x10' H) (fun τ H => μ (gI (τ 10)) H) (by kernel_rfl) h0 (fun τ1 H1 hf hI => fix_elim (τ := τ1) (i := 5) (v := (.slice x5 l5 c5)) (G := fun τ => vc Pr (sI um2_p10) τ (xthen (fun τ2 H2 => (mI .i64 (τ2 10) fun x10' => I x10' H2) ∧ μ (gI (τ2 10)) H2 < μ (gI (τ 10)) H1) (um2_q3 Q E)) E H1) (hf 5 (by simp)) (fix_elim (τ := (Tau.upd τ1 5 (.slice x5 l5 c5))) (i := 6) (v := (.string x6)) (G := fun τ => vc Pr (sI um2_p10) τ (xthen (fun τ2 H2 => (mI .i64 (τ2 10) fun x10' => I x10' H2) ∧ μ (gI (τ2 10)) H2 < μ (gI (τ 10)) H1) (um2_q3 Q E)) E H1) (hf 6 (by simp)) (fix_elim (τ := (Tau.upd (Tau.upd τ1 5 (.slice x5 l5 c5)) 6 (.string x6))) (i := 7) (v := (.int .i64 x7)) (G := fun τ => vc Pr (sI um2_p10) τ (xthen (fun τ2 H2 => (mI .i64 (τ2 10) fun x10' => I x10' H2) ∧ μ (gI (τ2 10)) H2 < μ (gI (τ 10)) H1) (um2_q3 Q E)) E H1) (hf 7 (by simp)) (fix_elim (τ := (Tau.upd (Tau.upd (Tau.upd τ1 5 (.slice x5 l5 c5)) 6 (.string x6)) 7 (.int .i64 x7))) (i := 8) (v := (.int .i64 x8)) (G := fun τ => vc Pr (sI um2_p10) τ (xthen (fun τ2 H2 => (mI .i64 (τ2 10) fun x10' => I x10' H2) ∧ μ (gI (τ2 10)) H2 < μ (gI (τ 10)) H1) (um2_q3 Q E)) E H1) (hf 8 (by simp)) (mI_elim (i := 10) (G := fun τ => vc Pr (sI um2_p10) τ (xthen (fun τ2 H2 => (mI .i64 (τ2 10) fun x10' => I x10' H2) ∧ μ (gI (τ2 10)) H2 < μ (gI (τ 10)) H1) (um2_q3 Q E)) E H1) hI (fun x10r h => (conv (B := vc Pr (sI um2_p10) (Tau.upd (Tau.upd (Tau.upd (Tau.upd (Tau.upd τ1 5 (.slice x5 l5 c5)) 6 (.string x6)) 7 (.int .i64 x7)) 8 (.int .i64 x8)) 10 (.int .i64 x10r)) (xthen (fun τ2 H2 => (mI .i64 (τ2 10) fun x10' => I x10' H2) ∧ μ (gI (τ2 10)) H2 < μ (gI ((Tau.upd (Tau.upd (Tau.upd (Tau.upd (Tau.upd τ1 5 (.slice x5 l5 c5)) 6 (.string x6)) 7 (.int .i64 x7)) 8 (.int .i64 x8)) 10 (.int .i64 x10r)) 10)) H1) (um2_q3 Q E)) E H1) (by kernel_rfl) (vc_xthen (um2_17ok (fun x10' H2 => I x10' H2 ∧ μ x10' H2 < μ x10r H1) Q E (Tau.upd (Tau.upd (Tau.upd (Tau.upd (Tau.upd τ1 5 (.slice x5 l5 c5)) 6 (.string x6)) 7 (.int .i64 x7)) 8 (.int .i64 x8)) 10 (.int .i64 x10r)) H1 (conv (B := um2_15_M (fun x10' H2 => I x10' H2 ∧ μ x10' H2 < μ x10r H1) Q E (Tau.upd (Tau.upd (Tau.upd (Tau.upd (Tau.upd τ1 5 (.slice x5 l5 c5)) 6 (.string x6)) 7 (.int .i64 x7)) 8 (.int .i64 x8)) 10 (.int .i64 x10r)) H1) (by kernel_rfl) (hr x10r H1 h))) (fun τ2 H2 hk => mI_elim (i := 10) (G := fun τ => (mI .i64 (τ 10) fun x10' => I x10' H2) ∧ μ (gI (τ 10)) H2 < μ x10r H1) hk (fun x10' h => h)))))))))))))))))

theorem um2_20ok (Q : QT) (E : ET) (τ : Tau) (H : Heap) (h : um2_18_M Q E τ H) : vc Pr um2_p9 τ (um2_q2 Q E) E H :=
  (conv (B := vc Pr um2_p9 τ (um2_q2 Q E) E H) (by kernel_rfl) (um2_19ok Q E τ H h))

@[reducible] noncomputable def um2_q10 (Q : QT) (E : ET) : Exit → Tau → Heap → Prop := (xthen (um2_18_M Q E) (um2_q2 Q E))

@[reducible] noncomputable def um2_p21 : Code := sA um2_p8

def um2_21 (Q : QT) (E : ET) (x5 : OA) (l5 : Nat) (c5 : Nat) (x6 : ByteArray) (x7 : Int) (x8 : Int) (H : Heap) : Prop :=
 um2_18 Q E x5 l5 c5 x6 x7 x8 0 H

def um2_21_M (Q : QT) (E : ET) (τ : Tau) (H : Heap) : Prop := mSl (τ 5) fun x5 l5 c5 => mS (τ 6) fun x6 => mI .i64 (τ 7) fun x7 => mI .i64 (τ 8) fun x8 => um2_21 Q E x5 l5 c5 x6 x7 x8 H

theorem um2_22ok (Q : QT) (E : ET) (τ : Tau) (H : Heap) (h : um2_21_M Q E τ H) : vc Pr um2_p21 τ (um2_q10 Q E) E H :=
  vSl (i := 5) h (fun x5 l5 c5 h => vS (i := 6) h (fun x6 h => vI (i := 7) h (fun x7 h => vI (i := 8) h (fun x8 h => (conv (by kernel_rfl) h)))))

theorem um2_23ok (Q : QT) (E : ET) (τ : Tau) (H : Heap) (h : um2_21_M Q E τ H) : vc Pr um2_p8 τ (um2_q2 Q E) E H :=
  (conv (B := vc Pr um2_p8 τ (um2_q2 Q E) E H) (by kernel_rfl) (vc_seq (K := (um2_18_M Q E)) (um2_22ok Q E τ H h) (um2_20ok Q E)))

theorem um2_24ok (Q : QT) (E : ET) (τ : Tau) (H : Heap) (h : um2_21_M Q E τ H) : vc Pr um2_p6 τ (um2_q1 Q E) E H :=
  (conv (B := vc Pr um2_p6 τ (um2_q1 Q E) E H) (by kernel_rfl) (vc_seq (K := (um2_1_M Q E)) (um2_23ok Q E τ H h) (um2_2ok Q E)))

@[reducible] noncomputable def um2_q11 (Q : QT) (E : ET) : Exit → Tau → Heap → Prop := (xthen (um2_21_M Q E) (um2_q1 Q E))

@[reducible] noncomputable def um2_p22 : Code := sA um2_p5

@[reducible] noncomputable def um2_p23 : Code := sB um2_p22

def um2_25 (Q : QT) (E : ET) (x5 : OA) (l5 : Nat) (c5 : Nat) (x6 : ByteArray) (x7 : Int) (x8 : Int) (x46 : Bool) (H : Heap) : Prop :=
 sel x46
 (Q (.bool false) H)
 (um2_21 Q E x5 l5 c5 x6 x7 x8 H)

def um2_25_M (Q : QT) (E : ET) (τ : Tau) (H : Heap) : Prop := mSl (τ 5) fun x5 l5 c5 => mS (τ 6) fun x6 => mI .i64 (τ 7) fun x7 => mI .i64 (τ 8) fun x8 => mB (τ 46) fun x46 => um2_25 Q E x5 l5 c5 x6 x7 x8 x46 H

theorem um2_26ok (Q : QT) (E : ET) (τ : Tau) (H : Heap) (h : um2_25_M Q E τ H) : vc Pr um2_p23 τ (um2_q11 Q E) E H :=
  vSl (i := 5) h (fun x5 l5 c5 h => vS (i := 6) h (fun x6 h => vI (i := 7) h (fun x7 h => vI (i := 8) h (fun x8 h => vB (i := 46) h (fun x46 h => (conv (by kernel_rfl) h))))))

@[reducible] noncomputable def um2_q12 (Q : QT) (E : ET) : Exit → Tau → Heap → Prop := (xthen (um2_25_M Q E) (um2_q11 Q E))

@[reducible] noncomputable def um2_p24 : Code := sA um2_p22

def um2_27 (Q : QT) (E : ET) (x5 : OA) (l5 : Nat) (c5 : Nat) (x6 : ByteArray) (x7 : Int) (x8 : Int) (x9 : Int) (H : Heap) : Prop :=
 sel ((x9 : Int) != 0)
 (um2_25 Q E x5 l5 c5 x6 x7 x8 true H)
 (sel (decide ((x7 : Int) < (-1)))
 (um2_25 Q E x5 l5 c5 x6 x7 x8 true H)
 (um2_25 Q E x5 l5 c5 x6 x7 x8 (decide ((x7 : Int) > ((l5 : Nat) : Int))) H))

def um2_27_M (Q : QT) (E : ET) (τ : Tau) (H : Heap) : Prop := mSl (τ 5) fun x5 l5 c5 => mS (τ 6) fun x6 => mI .i64 (τ 7) fun x7 => mI .i64 (τ 8) fun x8 => mI .i64 (τ 9) fun x9 => um2_27 Q E x5 l5 c5 x6 x7 x8 x9 H

theorem um2_28ok (Q : QT) (E : ET) (τ : Tau) (H : Heap) (h : um2_27_M Q E τ H) : vc Pr um2_p24 τ (um2_q12 Q E) E H :=
  vSl (i := 5) h (fun x5 l5 c5 h => vS (i := 6) h (fun x6 h => vI (i := 7) h (fun x7 h => vI (i := 8) h (fun x8 h => vI (i := 9) h (fun x9 h => (conv (by kernel_rfl) h))))))

theorem um2_29ok (Q : QT) (E : ET) (τ : Tau) (H : Heap) (h : um2_27_M Q E τ H) : vc Pr um2_p22 τ (um2_q11 Q E) E H :=
  (conv (B := vc Pr um2_p22 τ (um2_q11 Q E) E H) (by kernel_rfl) (vc_seq (K := (um2_25_M Q E)) (um2_28ok Q E τ H h) (um2_26ok Q E)))

theorem um2_30ok (Q : QT) (E : ET) (τ : Tau) (H : Heap) (h : um2_27_M Q E τ H) : vc Pr um2_p5 τ (um2_q1 Q E) E H :=
  (conv (B := vc Pr um2_p5 τ (um2_q1 Q E) E H) (by kernel_rfl) (vc_seq (K := (um2_21_M Q E)) (um2_29ok Q E τ H h) (um2_24ok Q E)))

@[reducible] noncomputable def um2_q13 (Q : QT) (E : ET) : Exit → Tau → Heap → Prop := (xthen (um2_27_M Q E) (um2_q1 Q E))

@[reducible] noncomputable def um2_p25 : Code := sA um2_p4

def um2_31 (Q : QT) (E : ET) (x5 : OA) (l5 : Nat) (c5 : Nat) (x6 : ByteArray) (H : Heap) : Prop :=
 Does Pr 45 #[(.string x6), (.slice x5 l5 c5)] H (fun v56 H57 =>
 ∃ n58 n59 n60 : Int, v56 = (.tuple #[(.int .i64 n58), (.int .i64 n59), (.int .i64 n60)]) ∧ um2_27 Q E x5 l5 c5 x6 n58 n59 n60 H57) E

def um2_31_M (Q : QT) (E : ET) (τ : Tau) (H : Heap) : Prop := mSl (τ 5) fun x5 l5 c5 => mS (τ 6) fun x6 => um2_31 Q E x5 l5 c5 x6 H

theorem um2_32ok (Q : QT) (E : ET) (τ : Tau) (H : Heap) (h : um2_31_M Q E τ H) : vc Pr um2_p25 τ (um2_q13 Q E) E H :=
  vSl (i := 5) h (fun x5 l5 c5 h => vS (i := 6) h (fun x6 h => (conv (by kernel_rfl) h)))

theorem um2_33ok (Q : QT) (E : ET) (τ : Tau) (H : Heap) (h : um2_31_M Q E τ H) : vc Pr um2_p4 τ (um2_q1 Q E) E H :=
  (conv (B := vc Pr um2_p4 τ (um2_q1 Q E) E H) (by kernel_rfl) (vc_seq (K := (um2_27_M Q E)) (um2_32ok Q E τ H h) (um2_30ok Q E)))

@[reducible] noncomputable def um2_q14 (Q : QT) (E : ET) : Exit → Tau → Heap → Prop := (xthen (um2_31_M Q E) (um2_q1 Q E))

@[reducible] noncomputable def um2_p26 : Code := sA um2_p3

def um2_34 (Q : QT) (E : ET) (x1 : Int) (x5 : OA) (l5 : Nat) (c5 : Nat) (H : Heap) : Prop :=
 Does Pr 21 #[] H (fun v61 H62 =>
 ∃ (p63 : OA) (l64 c65 : Nat), v61 = (.slice p63 l64 c65) ∧ Does Pr 22 #[(.int .i64 x1), (.int .i64 7)] H62 (fun v66 H67 =>
 ∃ n68 : Int, v66 = (.int .i64 n68) ∧ (0 ≤ (n68 : Int) ∧ (n68 : Int) < ((l64 : Nat) : Int)) ∧ ptr p63 fun q69 =>
 ldS (Addr.add q69 ((n68 : Int).toNat * 1)) H67 fun s70 =>
 um2_31 Q E x5 l5 c5 s70 H67) E) E

def um2_34_M (Q : QT) (E : ET) (τ : Tau) (H : Heap) : Prop := mI .i64 (τ 1) fun x1 => mSl (τ 5) fun x5 l5 c5 => um2_34 Q E x1 x5 l5 c5 H

theorem um2_35ok (Q : QT) (E : ET) (τ : Tau) (H : Heap) (h : um2_34_M Q E τ H) : vc Pr um2_p26 τ (um2_q14 Q E) E H :=
  vI (i := 1) h (fun x1 h => vSl (i := 5) h (fun x5 l5 c5 h => (conv (by kernel_rfl) h)))

theorem um2_36ok (Q : QT) (E : ET) (τ : Tau) (H : Heap) (h : um2_34_M Q E τ H) : vc Pr um2_p3 τ (um2_q1 Q E) E H :=
  (conv (B := vc Pr um2_p3 τ (um2_q1 Q E) E H) (by kernel_rfl) (vc_seq (K := (um2_31_M Q E)) (um2_35ok Q E τ H h) (um2_33ok Q E)))

@[reducible] noncomputable def um2_q15 (Q : QT) (E : ET) : Exit → Tau → Heap → Prop := (xthen (um2_34_M Q E) (um2_q1 Q E))

@[reducible] noncomputable def um2_p27 : Code := sA um2_p2

def um2_37 (Q : QT) (E : ET) (x0 : OA) (l0 : Nat) (c0 : Nat) (x1 : Int) (H : Heap) : Prop :=
 Does Pr 44 #[(.slice x0 l0 c0)] H (fun v71 H72 =>
 ∃ (p73 : OA) (l74 c75 : Nat), v71 = (.slice p73 l74 c75) ∧ um2_34 Q E x1 p73 l74 c75 H72) E

def um2_37_M (Q : QT) (E : ET) (τ : Tau) (H : Heap) : Prop := mSl (τ 0) fun x0 l0 c0 => mI .i64 (τ 1) fun x1 => um2_37 Q E x0 l0 c0 x1 H

theorem um2_38ok (Q : QT) (E : ET) (τ : Tau) (H : Heap) (h : um2_37_M Q E τ H) : vc Pr um2_p27 τ (um2_q15 Q E) E H :=
  vSl (i := 0) h (fun x0 l0 c0 h => vI (i := 1) h (fun x1 h => (conv (by kernel_rfl) h)))

theorem um2_39ok (Q : QT) (E : ET) (τ : Tau) (H : Heap) (h : um2_37_M Q E τ H) : vc Pr um2_p2 τ (um2_q1 Q E) E H :=
  (conv (B := vc Pr um2_p2 τ (um2_q1 Q E) E H) (by kernel_rfl) (vc_seq (K := (um2_34_M Q E)) (um2_38ok Q E τ H h) (um2_36ok Q E)))

@[reducible] noncomputable def um2_q16 (Q : QT) (E : ET) : Exit → Tau → Heap → Prop := (xthen (um2_37_M Q E) (um2_q1 Q E))

@[reducible] noncomputable def um2_p28 : Code := sA um2_p1

def um2_40 (Q : QT) (E : ET) (x0 : OA) (l0 : Nat) (c0 : Nat) (x1 : Int) (H : Heap) : Prop :=
 Does Pr 43 #[] H (fun v76 H77 =>
 ∃ b78 : Bool, v76 = (.bool b78) ∧ sel (!b78)
 (Q (.bool false) H77)
 (um2_37 Q E x0 l0 c0 x1 H77)) E

def um2_40_M (Q : QT) (E : ET) (τ : Tau) (H : Heap) : Prop := mSl (τ 0) fun x0 l0 c0 => mI .i64 (τ 1) fun x1 => um2_40 Q E x0 l0 c0 x1 H

theorem um2_41ok (Q : QT) (E : ET) (τ : Tau) (H : Heap) (h : um2_40_M Q E τ H) : vc Pr um2_p28 τ (um2_q16 Q E) E H :=
  vSl (i := 0) h (fun x0 l0 c0 h => vI (i := 1) h (fun x1 h => (conv (by kernel_rfl) h)))

theorem um2_42ok (Q : QT) (E : ET) (τ : Tau) (H : Heap) (h : um2_40_M Q E τ H) : vc Pr um2_p1 τ (um2_q1 Q E) E H :=
  (conv (B := vc Pr um2_p1 τ (um2_q1 Q E) E H) (by kernel_rfl) (vc_seq (K := (um2_37_M Q E)) (um2_41ok Q E τ H h) (um2_39ok Q E)))

@[reducible] noncomputable def um2_q17 (Q : QT) (E : ET) : Exit → Tau → Heap → Prop := (xthen (um2_40_M Q E) (um2_q1 Q E))

@[reducible] noncomputable def um2_p29 : Code := sA um2_p0

def um2 (Q : QT) (E : ET) (a0 : OA) (a0l : Nat) (a0c : Nat) (a1 : Int) (H : Heap) : Prop :=
 um2_40 Q E a0 a0l a0c a1 H

theorem um2_fn (a0 : OA) (a0l : Nat) (a0c : Nat) (a1 : Int) (Q : QT) (E : ET) (H : Heap) (h : um2 Q E a0 a0l a0c a1 H)   : Does Pr 16 #[(.slice a0 a0l a0c), (.int .i64 a1)] H Q E :=
  Fn_of_vc (fn := Try.f16) (c := um2_p0) (args := [(.slice a0 a0l a0c), (.int .i64 a1)]) mixed (by kernel_rfl) (by kernel_rfl) (by kernel_rfl) (by kernel_rfl) (by kernel_rfl) ((conv (B := vc Pr um2_p0 (argT [(.slice a0 a0l a0c), (.int .i64 a1)]) (um2_q1 Q E) E H) (by kernel_rfl) (vc_seq (K := (um2_40_M Q E)) (conv (B := vc Pr um2_p29 (argT [(.slice a0 a0l a0c), (.int .i64 a1)]) (um2_q17 Q E) E H) (by kernel_rfl) h) (um2_42ok Q E))))

/-! jobmux/jobmuxlaw11.sane -/
@[reducible] noncomputable def un2_q1 (Q : QT) (E : ET) : Exit → Tau → Heap → Prop := (retQ Pr (Try.f43).results.toList Q)

@[reducible] noncomputable def un2_p0 : Code := bodyOf Try.f43

def un2 (Q : QT) (E : ET)  (H : Heap) : Prop :=
 nw (.cells #[(.int .u8 97), (.int .u8 98)] 5 (0, 0)) H fun i1 H2 =>
 ∃ (cs3 : Array Value) (t4 : TypeId), H2 i1 = some (.cells cs3 t4 (0, 0)) ∧ (fun H5 =>
 nw (.cells #[(.int .u8 98)] 5 (0, 0)) H5 fun i6 H7 =>
 ∃ (cs8 : Array Value) (t9 : TypeId), H7 i6 = some (.cells cs8 t9 (0, 0)) ∧ (fun H10 =>
 nw (.cells #[(.int .u8 10), (.int .u8 120)] 5 (0, 0)) H10 fun i11 H12 =>
 ∃ (cs13 : Array Value) (t14 : TypeId), H12 i11 = some (.cells cs13 t14 (0, 0)) ∧ (fun H15 =>
 nw (.cells #[(.slice (some ⟨i1, 0, none⟩) 2 2), (.slice (some ⟨i6, 0, none⟩) 1 1), (.slice (some ⟨i11, 0, none⟩) 2 2)] 24 (0, 0)) H15 fun i16 H17 =>
 Does Pr 45 #[(.string ⟨[98, 36].toArray⟩), (.slice (some ⟨i16, 0, none⟩) 3 3)] H17 (fun v18 H19 =>
 ∃ n20 n21 n22 : Int, v18 = (.tuple #[(.int .i64 n20), (.int .i64 n21), (.int .i64 n22)]) ∧ Does Pr 45 #[(.string ⟨#[]⟩), (.slice none 0 0)] H19 (fun v23 H24 =>
 ∃ n25 n26 n27 : Int, v23 = (.tuple #[(.int .i64 n25), (.int .i64 n26), (.int .i64 n27)]) ∧ sel ((n22 : Int) == 0)
 (sel ((n20 : Int) == 2)
 (sel ((n21 : Int) == 4)
 (sel ((n25 : Int) == (-1))
 (Q (.bool ((n26 : Int) == 0)) H24)
 (Q (.bool false) H24))
 (Q (.bool false) H24))
 (Q (.bool false) H24))
 (Q (.bool false) H24)) E) E) (Heap.set H12 i11 (.cells cs13 t14 (cs13.size, cs13.size + 1)))) (Heap.set H7 i6 (.cells cs8 t9 (cs8.size, cs8.size + 1)))) (Heap.set H2 i1 (.cells cs3 t4 (cs3.size, cs3.size + 1)))

theorem un2_fn  (Q : QT) (E : ET) (H : Heap) (h : un2 Q E  H)   : Does Pr 43 #[] H Q E :=
  Fn_of_vc (fn := Try.f43) (c := un2_p0) (args := []) mixed (by kernel_rfl) (by kernel_rfl) (by kernel_rfl) (by kernel_rfl) (by kernel_rfl) ((conv (B := vc Pr un2_p0 (argT []) (un2_q1 Q E) E H) (by kernel_rfl) h))

/-! jobmux/jobmuxlaw11.pieces -/
@[reducible] noncomputable def uo2_q1 (Q : QT) (E : ET) : Exit → Tau → Heap → Prop := (retQ Pr (Try.f44).results.toList Q)

@[reducible] noncomputable def uo2_p0 : Code := bodyOf Try.f44

@[reducible] noncomputable def uo2_p1 : Code := sB uo2_p0

@[reducible] noncomputable def uo2_p2 : Code := sB uo2_p1

@[reducible] noncomputable def uo2_p3 : Code := sB uo2_p2

@[reducible] noncomputable def uo2_p4 : Code := sB uo2_p3

def uo2_1 (Q : QT) (E : ET) (x4 : OA) (l4 : Nat) (c4 : Nat) (H : Heap) : Prop :=
 Q (.slice x4 l4 c4) H

def uo2_1_M (Q : QT) (E : ET) (τ : Tau) (H : Heap) : Prop := mSl (τ 4) fun x4 l4 c4 => uo2_1 Q E x4 l4 c4 H

theorem uo2_2ok (Q : QT) (E : ET) (τ : Tau) (H : Heap) (h : uo2_1_M Q E τ H) : vc Pr uo2_p4 τ (uo2_q1 Q E) E H :=
  vSl (i := 4) h (fun x4 l4 c4 h => (conv (by kernel_rfl) h))

@[reducible] noncomputable def uo2_q2 (Q : QT) (E : ET) : Exit → Tau → Heap → Prop := (xthen (uo2_1_M Q E) (uo2_q1 Q E))

@[reducible] noncomputable def uo2_p5 : Code := sA uo2_p3

@[reducible] noncomputable def uo2_p6 : Code := sB uo2_p5

@[reducible] noncomputable def uo2_q3 (Q : QT) (E : ET) : Exit → Tau → Heap → Prop := (xblock 0 (uo2_q2 Q E))

@[reducible] noncomputable def uo2_p7 : Code := sI uo2_p6

@[reducible] noncomputable def uo2_q4 (nx21 : Option Addr → Nat → Nat → Int → HP) (Q : QT) (E : ET) : Exit → Tau → Heap → Prop := (xthen (fun τ H => mSl (τ 4) fun x4' l4' c4' => mI .i64 (τ 5) fun x5' => nx21 x4' l4' c4' x5' H) (uo2_q3 Q E))

@[reducible] noncomputable def uo2_p8 : Code := sI uo2_p7

@[reducible] noncomputable def uo2_p9 : Code := sB uo2_p8

def uo2_3 (nx21 : Option Addr → Nat → Nat → Int → HP) (Q : QT) (E : ET) (x3 : OA) (x4 : OA) (l4 : Nat) (c4 : Nat) (x5 : Int) (H : Heap) : Prop :=
 Does Pr 76 #[(.pointer x3)] H (fun v22 H23 =>
 ∃ (p24 : OA) (l25 c26 : Nat), v22 = (.slice p24 l25 c26) ∧ nw (.cells #[(.slice p24 l25 c26)] 24 (0, 0)) H23 fun i27 H28 =>
 app Pr 64 x4 l4 c4 (.slice (some ⟨i27, 0, none⟩) 1 1) H28 fun p29 l30 c31 H32 =>
 nx21 p29 l30 c31 (IntKind.wrap .i64 (x5 - 1)) H32) E

def uo2_3_M (nx21 : Option Addr → Nat → Nat → Int → HP) (Q : QT) (E : ET) (τ : Tau) (H : Heap) : Prop := mP (τ 3) fun x3 => mSl (τ 4) fun x4 l4 c4 => mI .i64 (τ 5) fun x5 => uo2_3 nx21 Q E x3 x4 l4 c4 x5 H

theorem uo2_4ok (nx21 : Option Addr → Nat → Nat → Int → HP) (Q : QT) (E : ET) (τ : Tau) (H : Heap) (h : uo2_3_M nx21 Q E τ H) : vc Pr uo2_p9 τ (uo2_q4 nx21 Q E) E H :=
  vP (i := 3) h (fun x3 h => vSl (i := 4) h (fun x4 l4 c4 h => vI (i := 5) h (fun x5 h => (conv (by kernel_rfl) h))))

@[reducible] noncomputable def uo2_q5 (nx21 : Option Addr → Nat → Nat → Int → HP) (Q : QT) (E : ET) : Exit → Tau → Heap → Prop := (xthen (uo2_3_M nx21 Q E) (uo2_q4 nx21 Q E))

@[reducible] noncomputable def uo2_p10 : Code := sA uo2_p8

def uo2_5 (nx21 : Option Addr → Nat → Nat → Int → HP) (Q : QT) (E : ET) (x3 : OA) (x4 : OA) (l4 : Nat) (c4 : Nat) (x5 : Int) (H : Heap) : Prop :=
 sel (decide ((x5 : Int) > 0))
 (uo2_3 nx21 Q E x3 x4 l4 c4 x5 H)
 (uo2_1 Q E x4 l4 c4 H)

def uo2_5_M (nx21 : Option Addr → Nat → Nat → Int → HP) (Q : QT) (E : ET) (τ : Tau) (H : Heap) : Prop := mP (τ 3) fun x3 => mSl (τ 4) fun x4 l4 c4 => mI .i64 (τ 5) fun x5 => uo2_5 nx21 Q E x3 x4 l4 c4 x5 H

theorem uo2_6ok (nx21 : Option Addr → Nat → Nat → Int → HP) (Q : QT) (E : ET) (τ : Tau) (H : Heap) (h : uo2_5_M nx21 Q E τ H) : vc Pr uo2_p10 τ (uo2_q5 nx21 Q E) E H :=
  vP (i := 3) h (fun x3 h => vSl (i := 4) h (fun x4 l4 c4 h => vI (i := 5) h (fun x5 h => (conv (by kernel_rfl) h))))

theorem uo2_7ok (nx21 : Option Addr → Nat → Nat → Int → HP) (Q : QT) (E : ET) (τ : Tau) (H : Heap) (h : uo2_5_M nx21 Q E τ H) : vc Pr uo2_p8 τ (uo2_q4 nx21 Q E) E H :=
  (conv (B := vc Pr uo2_p8 τ (uo2_q4 nx21 Q E) E H) (by kernel_rfl) (vc_seq (K := (uo2_3_M nx21 Q E)) (uo2_6ok nx21 Q E τ H h) (uo2_4ok nx21 Q E)))

def uo2_8 (Q : QT) (E : ET) (x3 : OA) (x4 : OA) (l4 : Nat) (c4 : Nat) (x5 : Int) (H : Heap) : Prop :=
 ∃ (I : Option Addr → Nat → Nat → Int → HP) (μ : Option Addr → Nat → Nat → Int → Heap → Nat), I x4 l4 c4 x5 H ∧ ∀ (x4 : OA) (l4 : Nat) (c4 : Nat) (x5 : Int) (H : Heap), I x4 l4 c4 x5 H →
 uo2_5 (fun x4' l4' c4' x5' H1 => I x4' l4' c4' x5' H1 ∧ μ x4' l4' c4' x5' H1 < μ x4 l4 c4 x5 H) Q E x3 x4 l4 c4 x5 H

def uo2_8_M (Q : QT) (E : ET) (τ : Tau) (H : Heap) : Prop := mP (τ 3) fun x3 => mSl (τ 4) fun x4 l4 c4 => mI .i64 (τ 5) fun x5 => uo2_8 Q E x3 x4 l4 c4 x5 H

theorem uo2_9ok (Q : QT) (E : ET) (τ : Tau) (H : Heap) (h : uo2_8_M Q E τ H) : vc Pr uo2_p7 τ (uo2_q3 Q E) E H :=
  vP (i := 3) h (fun x3 h => vSl (i := 4) h (fun x4 l4 c4 h => vI (i := 5) h (fun x5 h => match h with | ⟨I, μ, h0, hr⟩ => (conv (B := vc Pr uo2_p7 (Tau.upd (Tau.upd (Tau.upd τ 3 (.pointer x3)) 4 (.slice x4 l4 c4)) 5 (.int .i64 x5)) (uo2_q3 Q E) E H) (by kernel_rfl) (vc_loop (c := sI uo2_p7) (τ := (Tau.upd (Tau.upd (Tau.upd τ 3 (.pointer x3)) 4 (.slice x4 l4 c4)) 5 (.int .i64 x5))) [3] (fun τ H => mSl (τ 4) fun x4' l4' c4' => mI .i64 (τ 5) fun x5' => I x4' l4' c4' x5' H) (fun τ H => μ (gL1 (τ 4)) (gL2 (τ 4)) (gL3 (τ 4)) (gI (τ 5)) H) (by kernel_rfl) h0 (fun τ1 H1 hf hI => fix_elim (τ := τ1) (i := 3) (v := (.pointer x3)) (G := fun τ => vc Pr (sI uo2_p7) τ (xthen (fun τ2 H2 => (mSl (τ2 4) fun x4' l4' c4' => mI .i64 (τ2 5) fun x5' => I x4' l4' c4' x5' H2) ∧ μ (gL1 (τ2 4)) (gL2 (τ2 4)) (gL3 (τ2 4)) (gI (τ2 5)) H2 < μ (gL1 (τ 4)) (gL2 (τ 4)) (gL3 (τ 4)) (gI (τ 5)) H1) (uo2_q3 Q E)) E H1) (hf 3 (by simp)) (mSl_elim (i := 4) (G := fun τ => vc Pr (sI uo2_p7) τ (xthen (fun τ2 H2 => (mSl (τ2 4) fun x4' l4' c4' => mI .i64 (τ2 5) fun x5' => I x4' l4' c4' x5' H2) ∧ μ (gL1 (τ2 4)) (gL2 (τ2 4)) (gL3 (τ2 4)) (gI (τ2 5)) H2 < μ (gL1 (τ 4)) (gL2 (τ 4)) (gL3 (τ 4)) (gI (τ 5)) H1) (uo2_q3 Q E)) E H1) hI (fun x4r l4r c4r h => mI_elim (i := 5) (G := fun τ => vc Pr (sI uo2_p7) τ (xthen (fun τ2 H2 => (mSl (τ2 4) fun x4' l4' c4' => mI .i64 (τ2 5) fun x5' => I x4' l4' c4' x5' H2) ∧ μ (gL1 (τ2 4)) (gL2 (τ2 4)) (gL3 (τ2 4)) (gI (τ2 5)) H2 < μ (gL1 (τ 4)) (gL2 (τ 4)) (gL3 (τ 4)) (gI (τ 5)) H1) (uo2_q3 Q E)) E H1) h (fun x5r h => (conv (B := vc Pr (sI uo2_p7) (Tau.upd (Tau.upd (Tau.upd τ1 3 (.pointer x3)) 4 (.slice x4r l4r c4r)) 5 (.int .i64 x5r)) (xthen (fun τ2 H2 => (mSl (τ2 4) fun x4' l4' c4' => mI .i64 (τ2 5) fun x5' => I x4' l4' c4' x5' H2) ∧ μ (gL1 (τ2 4)) (gL2 (τ2 4)) (gL3 (τ2 4)) (gI (τ2 5)) H2 < μ (gL1 ((Tau.upd (Tau.upd (Tau.upd τ1 3 (.pointer x3)) 4 (.slice x4r l4r c4r)) 5 (.int .i64 x5r)) 4)) (gL2 ((Tau.upd (Tau.upd (Tau.upd τ1 3 (.pointer x3)) 4 (.slice x4r l4r c4r)) 5 (.int .i64 x5r)) 4)) (gL3 ((Tau.upd (Tau.upd (Tau.upd τ1 3 (.pointer x3)) 4 (.slice x4r l4r c4r)) 5 (.int .i64 x5r)) 4)) (gI ((Tau.upd (Tau.upd (Tau.upd τ1 3 (.pointer x3)) 4 (.slice x4r l4r c4r)) 5 (.int .i64 x5r)) 5)) H1) (uo2_q3 Q E)) E H1) (by kernel_rfl) (vc_xthen (uo2_7ok (fun x4' l4' c4' x5' H2 => I x4' l4' c4' x5' H2 ∧ μ x4' l4' c4' x5' H2 < μ x4r l4r c4r x5r H1) Q E (Tau.upd (Tau.upd (Tau.upd τ1 3 (.pointer x3)) 4 (.slice x4r l4r c4r)) 5 (.int .i64 x5r)) H1 (conv (B := uo2_5_M (fun x4' l4' c4' x5' H2 => I x4' l4' c4' x5' H2 ∧ μ x4' l4' c4' x5' H2 < μ x4r l4r c4r x5r H1) Q E (Tau.upd (Tau.upd (Tau.upd τ1 3 (.pointer x3)) 4 (.slice x4r l4r c4r)) 5 (.int .i64 x5r)) H1) (by kernel_rfl) (hr x4r l4r c4r x5r H1 h))) (fun τ2 H2 hk => mSl_elim (i := 4) (G := fun τ => (mSl (τ 4) fun x4' l4' c4' => mI .i64 (τ 5) fun x5' => I x4' l4' c4' x5' H2) ∧ μ (gL1 (τ 4)) (gL2 (τ 4)) (gL3 (τ 4)) (gI (τ 5)) H2 < μ x4r l4r c4r x5r H1) hk (fun x4' l4' c4' h => mI_elim (i := 5) (G := fun τ => (mSl (τ 4) fun x4' l4' c4' => mI .i64 (τ 5) fun x5' => I x4' l4' c4' x5' H2) ∧ μ (gL1 (τ 4)) (gL2 (τ 4)) (gL3 (τ 4)) (gI (τ 5)) H2 < μ x4r l4r c4r x5r H1) h (fun x5' h => h))))))))))))))

theorem uo2_10ok (Q : QT) (E : ET) (τ : Tau) (H : Heap) (h : uo2_8_M Q E τ H) : vc Pr uo2_p6 τ (uo2_q2 Q E) E H :=
  (conv (B := vc Pr uo2_p6 τ (uo2_q2 Q E) E H) (by kernel_rfl) (uo2_9ok Q E τ H h))

@[reducible] noncomputable def uo2_q6 (Q : QT) (E : ET) : Exit → Tau → Heap → Prop := (xthen (uo2_8_M Q E) (uo2_q2 Q E))

@[reducible] noncomputable def uo2_p11 : Code := sA uo2_p5

def uo2_11 (Q : QT) (E : ET) (x3 : OA) (x4 : OA) (l4 : Nat) (c4 : Nat) (H : Heap) : Prop :=
 Does Pr 49 #[(.pointer x3), (.int .i64 6)] H (fun v33 H34 =>
 ∃ n35 : Int, v33 = (.int .i64 n35) ∧ uo2_8 Q E x3 x4 l4 c4 n35 H34) E

def uo2_11_M (Q : QT) (E : ET) (τ : Tau) (H : Heap) : Prop := mP (τ 3) fun x3 => mSl (τ 4) fun x4 l4 c4 => uo2_11 Q E x3 x4 l4 c4 H

theorem uo2_12ok (Q : QT) (E : ET) (τ : Tau) (H : Heap) (h : uo2_11_M Q E τ H) : vc Pr uo2_p11 τ (uo2_q6 Q E) E H :=
  vP (i := 3) h (fun x3 h => vSl (i := 4) h (fun x4 l4 c4 h => (conv (by kernel_rfl) h)))

theorem uo2_13ok (Q : QT) (E : ET) (τ : Tau) (H : Heap) (h : uo2_11_M Q E τ H) : vc Pr uo2_p5 τ (uo2_q2 Q E) E H :=
  (conv (B := vc Pr uo2_p5 τ (uo2_q2 Q E) E H) (by kernel_rfl) (vc_seq (K := (uo2_8_M Q E)) (uo2_12ok Q E τ H h) (uo2_10ok Q E)))

theorem uo2_14ok (Q : QT) (E : ET) (τ : Tau) (H : Heap) (h : uo2_11_M Q E τ H) : vc Pr uo2_p3 τ (uo2_q1 Q E) E H :=
  (conv (B := vc Pr uo2_p3 τ (uo2_q1 Q E) E H) (by kernel_rfl) (vc_seq (K := (uo2_1_M Q E)) (uo2_13ok Q E τ H h) (uo2_2ok Q E)))

@[reducible] noncomputable def uo2_q7 (Q : QT) (E : ET) : Exit → Tau → Heap → Prop := (xthen (uo2_11_M Q E) (uo2_q1 Q E))

@[reducible] noncomputable def uo2_p12 : Code := sA uo2_p2

def uo2_15 (Q : QT) (E : ET) (x3 : OA) (H : Heap) : Prop :=
 uo2_11 Q E x3 none 0 0 H

def uo2_15_M (Q : QT) (E : ET) (τ : Tau) (H : Heap) : Prop := mP (τ 3) fun x3 => uo2_15 Q E x3 H

theorem uo2_16ok (Q : QT) (E : ET) (τ : Tau) (H : Heap) (h : uo2_15_M Q E τ H) : vc Pr uo2_p12 τ (uo2_q7 Q E) E H :=
  vP (i := 3) h (fun x3 h => (conv (by kernel_rfl) h))

theorem uo2_17ok (Q : QT) (E : ET) (τ : Tau) (H : Heap) (h : uo2_15_M Q E τ H) : vc Pr uo2_p2 τ (uo2_q1 Q E) E H :=
  (conv (B := vc Pr uo2_p2 τ (uo2_q1 Q E) E H) (by kernel_rfl) (vc_seq (K := (uo2_11_M Q E)) (uo2_16ok Q E τ H h) (uo2_14ok Q E)))

@[reducible] noncomputable def uo2_q8 (Q : QT) (E : ET) : Exit → Tau → Heap → Prop := (xthen (uo2_15_M Q E) (uo2_q1 Q E))

@[reducible] noncomputable def uo2_p13 : Code := sA uo2_p1

def uo2_18 (Q : QT) (E : ET) (x0 : OA) (l0 : Nat) (c0 : Nat) (H : Heap) : Prop :=
 Does Pr 47 #[(.slice x0 l0 c0)] H (fun v36 H37 =>
 ∃ p38 : Option Addr, v36 = (.pointer p38) ∧ uo2_15 Q E p38 H37) E

def uo2_18_M (Q : QT) (E : ET) (τ : Tau) (H : Heap) : Prop := mSl (τ 0) fun x0 l0 c0 => uo2_18 Q E x0 l0 c0 H

theorem uo2_19ok (Q : QT) (E : ET) (τ : Tau) (H : Heap) (h : uo2_18_M Q E τ H) : vc Pr uo2_p13 τ (uo2_q8 Q E) E H :=
  vSl (i := 0) h (fun x0 l0 c0 h => (conv (by kernel_rfl) h))

theorem uo2_20ok (Q : QT) (E : ET) (τ : Tau) (H : Heap) (h : uo2_18_M Q E τ H) : vc Pr uo2_p1 τ (uo2_q1 Q E) E H :=
  (conv (B := vc Pr uo2_p1 τ (uo2_q1 Q E) E H) (by kernel_rfl) (vc_seq (K := (uo2_15_M Q E)) (uo2_19ok Q E τ H h) (uo2_17ok Q E)))

@[reducible] noncomputable def uo2_q9 (Q : QT) (E : ET) : Exit → Tau → Heap → Prop := (xthen (uo2_18_M Q E) (uo2_q1 Q E))

@[reducible] noncomputable def uo2_p14 : Code := sA uo2_p0

def uo2 (Q : QT) (E : ET) (a0 : OA) (a0l : Nat) (a0c : Nat) (H : Heap) : Prop :=
 uo2_18 Q E a0 a0l a0c H

theorem uo2_fn (a0 : OA) (a0l : Nat) (a0c : Nat) (Q : QT) (E : ET) (H : Heap) (h : uo2 Q E a0 a0l a0c H)   : Does Pr 44 #[(.slice a0 a0l a0c)] H Q E :=
  Fn_of_vc (fn := Try.f44) (c := uo2_p0) (args := [(.slice a0 a0l a0c)]) mixed (by kernel_rfl) (by kernel_rfl) (by kernel_rfl) (by kernel_rfl) (by kernel_rfl) ((conv (B := vc Pr uo2_p0 (argT [(.slice a0 a0l a0c)]) (uo2_q1 Q E) E H) (by kernel_rfl) (vc_seq (K := (uo2_18_M Q E)) (conv (B := vc Pr uo2_p14 (argT [(.slice a0 a0l a0c)]) (uo2_q9 Q E) E H) (by kernel_rfl) h) (uo2_20ok Q E))))

end Go.Proofs.Ytaffcoiomggpfaa
