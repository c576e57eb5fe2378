import Derived.Test.YtaffcoiomggpfaaVPr
import Derived.Test.YtaffcoiomggpfaaFr09_1
/- Printed by gen.py: the Go functions of package r09 over a heap view, and that the model does so. -/
namespace Go.Proofs.Ytaffcoiomggpfaa
open Go.V
set_option linter.unusedVariables false
set_option maxRecDepth 100000
/-! jobmux/jobmuxref09.leaf -/
@[reducible] noncomputable def zqr_q1 (Q : QT) (E : ET) : Exit → Tau → Heap → Prop := (retQ Pr (Try.f88).results.toList Q)

@[reducible] noncomputable def zqr_p0 : Code := bodyOf Try.f88

@[reducible] noncomputable def zqr_p1 : Code := sB zqr_p0

@[reducible] noncomputable def zqr_p2 : Code := sB zqr_p1

@[reducible] noncomputable def zqr_p3 : Code := sB zqr_p2

@[reducible] noncomputable def zqr_p4 : Code := sB zqr_p3

def zqr_1 (Q : QT) (E : ET) (x6 : OA) (l6 : Nat) (c6 : Nat) (H : Heap) : Prop :=
 Q (.slice x6 l6 c6) H

def zqr_1_M (Q : QT) (E : ET) (τ : Tau) (H : Heap) : Prop := mSl (τ 6) fun x6 l6 c6 => zqr_1 Q E x6 l6 c6 H

theorem zqr_2ok (Q : QT) (E : ET) (τ : Tau) (H : Heap) (h : zqr_1_M Q E τ H) : vc Pr zqr_p4 τ (zqr_q1 Q E) E H :=
  vSl (i := 6) h (fun x6 l6 c6 h => (conv (by kernel_rfl) h))

@[reducible] noncomputable def zqr_q2 (Q : QT) (E : ET) : Exit → Tau → Heap → Prop := (xthen (zqr_1_M Q E) (zqr_q1 Q E))

@[reducible] noncomputable def zqr_p5 : Code := sA zqr_p3

@[reducible] noncomputable def zqr_p6 : Code := sB zqr_p5

@[reducible] noncomputable def zqr_q3 (Q : QT) (E : ET) : Exit → Tau → Heap → Prop := (xblock 0 (zqr_q2 Q E))

@[reducible] noncomputable def zqr_p7 : Code := sI zqr_p6

@[reducible] noncomputable def zqr_q4 (nx46 : Int → HP) (Q : QT) (E : ET) : Exit → Tau → Heap → Prop := (xthen (fun τ H => mI .i64 (τ 7) fun x7' => nx46 x7' H) (zqr_q3 Q E))

@[reducible] noncomputable def zqr_p8 : Code := sI zqr_p7

@[reducible] noncomputable def zqr_p9 : Code := sB zqr_p8

@[reducible] noncomputable def zqr_p10 : Code := sB zqr_p9

def zqr_3 (nx46 : Int → HP) (Q : QT) (E : ET) (x1 : OA) (l1 : Nat) (c1 : Nat) (x2 : OA) (x5 : Int) (x6 : OA) (l6 : Nat) (c6 : Nat) (x7 : Int) (H : Heap) : Prop :=
 nx46 (IntKind.wrap .i64 (x7 + 1)) H

def zqr_3_M (nx46 : Int → HP) (Q : QT) (E : ET) (τ : Tau) (H : Heap) : Prop := mSl (τ 1) fun x1 l1 c1 => mP (τ 2) fun x2 => mI .i64 (τ 5) fun x5 => mSl (τ 6) fun x6 l6 c6 => mI .i64 (τ 7) fun x7 => zqr_3 nx46 Q E x1 l1 c1 x2 x5 x6 l6 c6 x7 H

theorem zqr_4ok (nx46 : Int → HP) (Q : QT) (E : ET) (τ : Tau) (H : Heap) (h : zqr_3_M nx46 Q E τ H) : vc Pr zqr_p10 τ (zqr_q4 nx46 Q E) E H :=
  vSl (i := 1) h (fun x1 l1 c1 h => vP (i := 2) h (fun x2 h => vI (i := 5) h (fun x5 h => vSl (i := 6) h (fun x6 l6 c6 h => vI (i := 7) h (fun x7 h => (conv (by kernel_rfl) h))))))

@[reducible] noncomputable def zqr_q5 (nx46 : Int → HP) (Q : QT) (E : ET) : Exit → Tau → Heap → Prop := (xthen (zqr_3_M nx46 Q E) (zqr_q4 nx46 Q E))

@[reducible] noncomputable def zqr_p11 : Code := sA zqr_p9

@[reducible] noncomputable def zqr_q6 (nx46 : Int → HP) (Q : QT) (E : ET) : Exit → Tau → Heap → Prop := (xblock 1 (zqr_q5 nx46 Q E))

@[reducible] noncomputable def zqr_p12 : Code := sI zqr_p11

@[reducible] noncomputable def zqr_p13 : Code := sB zqr_p12

@[reducible] noncomputable def zqr_q7 (nx46 : Int → HP) (Q : QT) (E : ET) : Exit → Tau → Heap → Prop := (xblock 2 (zqr_q6 nx46 Q E))

@[reducible] noncomputable def zqr_p14 : Code := sI zqr_p13

@[reducible] noncomputable def zqr_p15 : Code := sB zqr_p14

@[reducible] noncomputable def zqr_p16 : Code := sT zqr_p15

def zqr_5 (nx46 : Int → HP) (Q : QT) (E : ET) (x1 : OA) (l1 : Nat) (c1 : Nat) (x2 : OA) (x5 : Int) (x6 : OA) (l6 : Nat) (c6 : Nat) (x7 : Int) (H : Heap) : Prop :=
 (0 ≤ (x7 : Int) ∧ (x7 : Int) < ((l6 : Nat) : Int)) ∧ ptr x6 fun q93 =>
 ldSl (Addr.add q93 ((x7 : Int).toNat * 1)) H fun p94 l95 c96 =>
 (0 ≤ (x7 : Int) ∧ (x7 : Int) < ((l95 : Nat) : Int)) ∧ ptr p94 fun q97 =>
 wr (Addr.add q97 ((x7 : Int).toNat * 1)) [(.bool true)] H fun H98 =>
 zqr_3 nx46 Q E x1 l1 c1 x2 x5 x6 l6 c6 x7 H98

def zqr_5_M (nx46 : Int → HP) (Q : QT) (E : ET) (τ : Tau) (H : Heap) : Prop := mSl (τ 1) fun x1 l1 c1 => mP (τ 2) fun x2 => mI .i64 (τ 5) fun x5 => mSl (τ 6) fun x6 l6 c6 => mI .i64 (τ 7) fun x7 => zqr_5 nx46 Q E x1 l1 c1 x2 x5 x6 l6 c6 x7 H

theorem zqr_6ok (nx46 : Int → HP) (Q : QT) (E : ET) (τ : Tau) (H : Heap) (h : zqr_5_M nx46 Q E τ H) : vc Pr zqr_p16 τ (zqr_q7 nx46 Q E) E H :=
  vSl (i := 1) h (fun x1 l1 c1 h => vP (i := 2) h (fun x2 h => vI (i := 5) h (fun x5 h => vSl (i := 6) h (fun x6 l6 c6 h => vI (i := 7) h (fun x7 h => (conv (by kernel_rfl) h))))))

@[reducible] noncomputable def zqr_p17 : Code := sE zqr_p15

@[reducible] noncomputable def zqr_p18 : Code := sB zqr_p17

@[reducible] noncomputable def zqr_p19 : Code := sT zqr_p18

def zqr_7 (nx46 : Int → HP) (Q : QT) (E : ET) (x1 : OA) (l1 : Nat) (c1 : Nat) (x2 : OA) (x5 : Int) (x6 : OA) (l6 : Nat) (c6 : Nat) (x7 : Int) (H : Heap) : Prop :=
 (0 ≤ (x7 : Int) ∧ (x7 : Int) < ((l6 : Nat) : Int)) ∧ ptr x6 fun q99 =>
 ldSl (Addr.add q99 ((x7 : Int).toNat * 1)) H fun p100 l101 c102 =>
 sel ((x7 : Int) == 0)
 ((0 ≤ (x7 : Int) ∧ (x7 : Int) < ((l101 : Nat) : Int)) ∧ ptr p100 fun q103 =>
 wr (Addr.add q103 ((x7 : Int).toNat * 1)) [(.bool true)] H fun H104 =>
 zqr_3 nx46 Q E x1 l1 c1 x2 x5 x6 l6 c6 x7 H104)
 ((0 ≤ ((IntKind.wrap .i64 (x7 - 1)) : Int) ∧ ((IntKind.wrap .i64 (x7 - 1)) : Int) < ((l1 : Nat) : Int)) ∧ ptr x1 fun q105 =>
 ldI .u8 (Addr.add q105 (((IntKind.wrap .i64 (x7 - 1)) : Int).toNat * 1)) H fun n106 =>
 (0 ≤ (x7 : Int) ∧ (x7 : Int) < ((l101 : Nat) : Int)) ∧ ptr p100 fun q107 =>
 wr (Addr.add q107 ((x7 : Int).toNat * 1)) [(.bool ((n106 : Int) == 10))] H fun H108 =>
 zqr_3 nx46 Q E x1 l1 c1 x2 x5 x6 l6 c6 x7 H108)

def zqr_7_M (nx46 : Int → HP) (Q : QT) (E : ET) (τ : Tau) (H : Heap) : Prop := mSl (τ 1) fun x1 l1 c1 => mP (τ 2) fun x2 => mI .i64 (τ 5) fun x5 => mSl (τ 6) fun x6 l6 c6 => mI .i64 (τ 7) fun x7 => zqr_7 nx46 Q E x1 l1 c1 x2 x5 x6 l6 c6 x7 H

theorem zqr_8ok (nx46 : Int → HP) (Q : QT) (E : ET) (τ : Tau) (H : Heap) (h : zqr_7_M nx46 Q E τ H) : vc Pr zqr_p19 τ (zqr_q7 nx46 Q E) E H :=
  vSl (i := 1) h (fun x1 l1 c1 h => vP (i := 2) h (fun x2 h => vI (i := 5) h (fun x5 h => vSl (i := 6) h (fun x6 l6 c6 h => vI (i := 7) h (fun x7 h => (conv (by kernel_rfl) h))))))

@[reducible] noncomputable def zqr_p20 : Code := sE zqr_p18

@[reducible] noncomputable def zqr_p21 : Code := sB zqr_p20

@[reducible] noncomputable def zqr_p22 : Code := sT zqr_p21

def zqr_9 (nx46 : Int → HP) (Q : QT) (E : ET) (x1 : OA) (l1 : Nat) (c1 : Nat) (x2 : OA) (x5 : Int) (x6 : OA) (l6 : Nat) (c6 : Nat) (x7 : Int) (H : Heap) : Prop :=
 (0 ≤ (x7 : Int) ∧ (x7 : Int) < ((l6 : Nat) : Int)) ∧ ptr x6 fun q109 =>
 ldSl (Addr.add q109 ((x7 : Int).toNat * 1)) H fun p110 l111 c112 =>
 sel (decide ((x7 : Int) < x5))
 ((0 ≤ (x7 : Int) ∧ (x7 : Int) < ((l1 : Nat) : Int)) ∧ ptr x1 fun q113 =>
 ldI .u8 (Addr.add q113 ((x7 : Int).toNat * 1)) H fun n114 =>
 (0 ≤ (x7 : Int) ∧ (x7 : Int) < ((l111 : Nat) : Int)) ∧ ptr p110 fun q115 =>
 wr (Addr.add q115 ((x7 : Int).toNat * 1)) [(.bool ((n114 : Int) == 10))] H fun H116 =>
 zqr_3 nx46 Q E x1 l1 c1 x2 x5 x6 l6 c6 x7 H116)
 ((0 ≤ (x7 : Int) ∧ (x7 : Int) < ((l111 : Nat) : Int)) ∧ ptr p110 fun q117 =>
 wr (Addr.add q117 ((x7 : Int).toNat * 1)) [(.bool false)] H fun H118 =>
 zqr_3 nx46 Q E x1 l1 c1 x2 x5 x6 l6 c6 x7 H118)

def zqr_9_M (nx46 : Int → HP) (Q : QT) (E : ET) (τ : Tau) (H : Heap) : Prop := mSl (τ 1) fun x1 l1 c1 => mP (τ 2) fun x2 => mI .i64 (τ 5) fun x5 => mSl (τ 6) fun x6 l6 c6 => mI .i64 (τ 7) fun x7 => zqr_9 nx46 Q E x1 l1 c1 x2 x5 x6 l6 c6 x7 H

theorem zqr_10ok (nx46 : Int → HP) (Q : QT) (E : ET) (τ : Tau) (H : Heap) (h : zqr_9_M nx46 Q E τ H) : vc Pr zqr_p22 τ (zqr_q7 nx46 Q E) E H :=
  vSl (i := 1) h (fun x1 l1 c1 h => vP (i := 2) h (fun x2 h => vI (i := 5) h (fun x5 h => vSl (i := 6) h (fun x6 l6 c6 h => vI (i := 7) h (fun x7 h => (conv (by kernel_rfl) h))))))

@[reducible] noncomputable def zqr_p23 : Code := sE zqr_p21

@[reducible] noncomputable def zqr_p24 : Code := sB zqr_p23

@[reducible] noncomputable def zqr_p25 : Code := sT zqr_p24

@[reducible] noncomputable def zqr_p26 : Code := sB zqr_p25

def zqr_11 (nx46 : Int → HP) (Q : QT) (E : ET) (x1 : OA) (l1 : Nat) (c1 : Nat) (x2 : OA) (x5 : Int) (x6 : OA) (l6 : Nat) (c6 : Nat) (x7 : Int) (x77 : Bool) (H : Heap) : Prop :=
 sel x77
 ((0 ≤ (x7 : Int) ∧ (x7 : Int) < ((l6 : Nat) : Int)) ∧ ptr x6 fun q129 =>
 ldSl (Addr.add q129 ((x7 : Int).toNat * 1)) H fun p130 l131 c132 =>
 (0 ≤ ((IntKind.wrap .i64 (x7 + 1)) : Int) ∧ ((IntKind.wrap .i64 (x7 + 1)) : Int) < ((l131 : Nat) : Int)) ∧ ptr p130 fun q133 =>
 wr (Addr.add q133 (((IntKind.wrap .i64 (x7 + 1)) : Int).toNat * 1)) [(.bool true)] H fun H134 =>
 zqr_3 nx46 Q E x1 l1 c1 x2 x5 x6 l6 c6 x7 H134)
 (zqr_3 nx46 Q E x1 l1 c1 x2 x5 x6 l6 c6 x7 H)

def zqr_11_M (nx46 : Int → HP) (Q : QT) (E : ET) (τ : Tau) (H : Heap) : Prop := mSl (τ 1) fun x1 l1 c1 => mP (τ 2) fun x2 => mI .i64 (τ 5) fun x5 => mSl (τ 6) fun x6 l6 c6 => mI .i64 (τ 7) fun x7 => mB (τ 77) fun x77 => zqr_11 nx46 Q E x1 l1 c1 x2 x5 x6 l6 c6 x7 x77 H

theorem zqr_12ok (nx46 : Int → HP) (Q : QT) (E : ET) (τ : Tau) (H : Heap) (h : zqr_11_M nx46 Q E τ H) : vc Pr zqr_p26 τ (zqr_q7 nx46 Q E) E H :=
  vSl (i := 1) h (fun x1 l1 c1 h => vP (i := 2) h (fun x2 h => vI (i := 5) h (fun x5 h => vSl (i := 6) h (fun x6 l6 c6 h => vI (i := 7) h (fun x7 h => vB (i := 77) h (fun x77 h => (conv (by kernel_rfl) h)))))))

@[reducible] noncomputable def zqr_q8 (nx46 : Int → HP) (Q : QT) (E : ET) : Exit → Tau → Heap → Prop := (xthen (zqr_11_M nx46 Q E) (zqr_q7 nx46 Q E))

@[reducible] noncomputable def zqr_p27 : Code := sA zqr_p25

def zqr_13 (nx46 : Int → HP) (Q : QT) (E : ET) (x1 : OA) (l1 : Nat) (c1 : Nat) (x2 : OA) (x5 : Int) (x6 : OA) (l6 : Nat) (c6 : Nat) (x7 : Int) (H : Heap) : Prop :=
 sel (decide ((x7 : Int) < x5))
 (ptr x2 fun q135 =>
 ∃ n136 n137 n138 n139 : Int, Heap.rd H (Addr.add q135 3) 0 [(.int .u64 n136), (.int .u64 n137), (.int .u64 n138), (.int .u64 n139)] ∧ (0 ≤ (x7 : Int) ∧ (x7 : Int) < ((l1 : Nat) : Int)) ∧ ptr x1 fun q140 =>
 ldI .u8 (Addr.add q140 ((x7 : Int).toNat * 1)) H fun n141 =>
 Does Pr 73 #[(.agg #[(.int .u64 n136), (.int .u64 n137), (.int .u64 n138), (.int .u64 n139)]), (.int .u8 n141)] H (fun v142 H143 =>
 ∃ b144 : Bool, v142 = (.bool b144) ∧ zqr_11 nx46 Q E x1 l1 c1 x2 x5 x6 l6 c6 x7 b144 H143) (fun _ _ => False))
 (zqr_11 nx46 Q E x1 l1 c1 x2 x5 x6 l6 c6 x7 false H)

def zqr_13_M (nx46 : Int → HP) (Q : QT) (E : ET) (τ : Tau) (H : Heap) : Prop := mSl (τ 1) fun x1 l1 c1 => mP (τ 2) fun x2 => mI .i64 (τ 5) fun x5 => mSl (τ 6) fun x6 l6 c6 => mI .i64 (τ 7) fun x7 => zqr_13 nx46 Q E x1 l1 c1 x2 x5 x6 l6 c6 x7 H

theorem zqr_14ok (nx46 : Int → HP) (Q : QT) (E : ET) (τ : Tau) (H : Heap) (h : zqr_13_M nx46 Q E τ H) : vc Pr zqr_p27 τ (zqr_q8 nx46 Q E) E H :=
  vSl (i := 1) h (fun x1 l1 c1 h => vP (i := 2) h (fun x2 h => vI (i := 5) h (fun x5 h => vSl (i := 6) h (fun x6 l6 c6 h => vI (i := 7) h (fun x7 h => (conv (by kernel_rfl) h))))))

theorem zqr_15ok (nx46 : Int → HP) (Q : QT) (E : ET) (τ : Tau) (H : Heap) (h : zqr_13_M nx46 Q E τ H) : vc Pr zqr_p25 τ (zqr_q7 nx46 Q E) E H :=
  (conv (B := vc Pr zqr_p25 τ (zqr_q7 nx46 Q E) E H) (by kernel_rfl) (vc_seq (K := (zqr_11_M nx46 Q E)) (zqr_14ok nx46 Q E τ H h) (zqr_12ok nx46 Q E)))

@[reducible] noncomputable def zqr_p28 : Code := sE zqr_p24

def zqr_16 (nx46 : Int → HP) (Q : QT) (E : ET) (x1 : OA) (l1 : Nat) (c1 : Nat) (x2 : OA) (x5 : Int) (x6 : OA) (l6 : Nat) (c6 : Nat) (x7 : Int) (H : Heap) : Prop :=
 zqr_3 nx46 Q E x1 l1 c1 x2 x5 x6 l6 c6 x7 H

def zqr_16_M (nx46 : Int → HP) (Q : QT) (E : ET) (τ : Tau) (H : Heap) : Prop := mSl (τ 1) fun x1 l1 c1 => mP (τ 2) fun x2 => mI .i64 (τ 5) fun x5 => mSl (τ 6) fun x6 l6 c6 => mI .i64 (τ 7) fun x7 => zqr_16 nx46 Q E x1 l1 c1 x2 x5 x6 l6 c6 x7 H

theorem zqr_17ok (nx46 : Int → HP) (Q : QT) (E : ET) (τ : Tau) (H : Heap) (h : zqr_16_M nx46 Q E τ H) : vc Pr zqr_p28 τ (zqr_q7 nx46 Q E) E H :=
  vSl (i := 1) h (fun x1 l1 c1 h => vP (i := 2) h (fun x2 h => vI (i := 5) h (fun x5 h => vSl (i := 6) h (fun x6 l6 c6 h => vI (i := 7) h (fun x7 h => (conv (by kernel_rfl) h))))))

def zqr_18 (nx46 : Int → HP) (Q : QT) (E : ET) (x1 : OA) (l1 : Nat) (c1 : Nat) (x2 : OA) (x5 : Int) (x6 : OA) (l6 : Nat) (c6 : Nat) (x7 : Int) (x64 : Bool) (H : Heap) : Prop :=
 sel x64
 (zqr_13 nx46 Q E x1 l1 c1 x2 x5 x6 l6 c6 x7 H)
 (zqr_16 nx46 Q E x1 l1 c1 x2 x5 x6 l6 c6 x7 H)

def zqr_18_M (nx46 : Int → HP) (Q : QT) (E : ET) (τ : Tau) (H : Heap) : Prop := mSl (τ 1) fun x1 l1 c1 => mP (τ 2) fun x2 => mI .i64 (τ 5) fun x5 => mSl (τ 6) fun x6 l6 c6 => mI .i64 (τ 7) fun x7 => mB (τ 64) fun x64 => zqr_18 nx46 Q E x1 l1 c1 x2 x5 x6 l6 c6 x7 x64 H

theorem zqr_19ok (nx46 : Int → HP) (Q : QT) (E : ET) (τ : Tau) (H : Heap) (h : zqr_18_M nx46 Q E τ H) : vc Pr zqr_p24 τ (zqr_q7 nx46 Q E) E H :=
  vSl (i := 1) h (fun x1 l1 c1 h => vP (i := 2) h (fun x2 h => vI (i := 5) h (fun x5 h => vSl (i := 6) h (fun x6 l6 c6 h => vI (i := 7) h (fun x7 h => vB (i := 64) h (fun x64 h => (conv (B := vc Pr zqr_p24 (Tau.upd (Tau.upd (Tau.upd (Tau.upd (Tau.upd (Tau.upd τ 1 (.slice x1 l1 c1)) 2 (.pointer x2)) 5 (.int .i64 x5)) 6 (.slice x6 l6 c6)) 7 (.int .i64 x7)) 64 (.bool x64)) (zqr_q7 nx46 Q E) E H) (by kernel_rfl) (sel_map (zqr_15ok nx46 Q E (Tau.upd (Tau.upd (Tau.upd (Tau.upd (Tau.upd (Tau.upd τ 1 (.slice x1 l1 c1)) 2 (.pointer x2)) 5 (.int .i64 x5)) 6 (.slice x6 l6 c6)) 7 (.int .i64 x7)) 64 (.bool x64)) H) (zqr_17ok nx46 Q E (Tau.upd (Tau.upd (Tau.upd (Tau.upd (Tau.upd (Tau.upd τ 1 (.slice x1 l1 c1)) 2 (.pointer x2)) 5 (.int .i64 x5)) 6 (.slice x6 l6 c6)) 7 (.int .i64 x7)) 64 (.bool x64)) H) (conv (B := sel x64 (zqr_13_M nx46 Q E (Tau.upd (Tau.upd (Tau.upd (Tau.upd (Tau.upd (Tau.upd τ 1 (.slice x1 l1 c1)) 2 (.pointer x2)) 5 (.int .i64 x5)) 6 (.slice x6 l6 c6)) 7 (.int .i64 x7)) 64 (.bool x64)) H) (zqr_16_M nx46 Q E (Tau.upd (Tau.upd (Tau.upd (Tau.upd (Tau.upd (Tau.upd τ 1 (.slice x1 l1 c1)) 2 (.pointer x2)) 5 (.int .i64 x5)) 6 (.slice x6 l6 c6)) 7 (.int .i64 x7)) 64 (.bool x64)) H)) (by kernel_rfl) h)))))))))

@[reducible] noncomputable def zqr_q9 (nx46 : Int → HP) (Q : QT) (E : ET) : Exit → Tau → Heap → Prop := (xthen (zqr_18_M nx46 Q E) (zqr_q7 nx46 Q E))

@[reducible] noncomputable def zqr_p29 : Code := sA zqr_p23

def zqr_20 (nx46 : Int → HP) (Q : QT) (E : ET) (x1 : OA) (l1 : Nat) (c1 : Nat) (x2 : OA) (x5 : Int) (x6 : OA) (l6 : Nat) (c6 : Nat) (x7 : Int) (x19 : Int) (H : Heap) : Prop :=
 zqr_18 nx46 Q E x1 l1 c1 x2 x5 x6 l6 c6 x7 ((x19 : Int) == 2) H

def zqr_20_M (nx46 : Int → HP) (Q : QT) (E : ET) (τ : Tau) (H : Heap) : Prop := mSl (τ 1) fun x1 l1 c1 => mP (τ 2) fun x2 => mI .i64 (τ 5) fun x5 => mSl (τ 6) fun x6 l6 c6 => mI .i64 (τ 7) fun x7 => mI .i64 (τ 19) fun x19 => zqr_20 nx46 Q E x1 l1 c1 x2 x5 x6 l6 c6 x7 x19 H

theorem zqr_21ok (nx46 : Int → HP) (Q : QT) (E : ET) (τ : Tau) (H : Heap) (h : zqr_20_M nx46 Q E τ H) : vc Pr zqr_p29 τ (zqr_q9 nx46 Q E) E H :=
  vSl (i := 1) h (fun x1 l1 c1 h => vP (i := 2) h (fun x2 h => vI (i := 5) h (fun x5 h => vSl (i := 6) h (fun x6 l6 c6 h => vI (i := 7) h (fun x7 h => vI (i := 19) h (fun x19 h => (conv (by kernel_rfl) h)))))))

theorem zqr_22ok (nx46 : Int → HP) (Q : QT) (E : ET) (τ : Tau) (H : Heap) (h : zqr_20_M nx46 Q E τ H) : vc Pr zqr_p23 τ (zqr_q7 nx46 Q E) E H :=
  (conv (B := vc Pr zqr_p23 τ (zqr_q7 nx46 Q E) E H) (by kernel_rfl) (vc_seq (K := (zqr_18_M nx46 Q E)) (zqr_21ok nx46 Q E τ H h) (zqr_19ok nx46 Q E)))

def zqr_23 (nx46 : Int → HP) (Q : QT) (E : ET) (x1 : OA) (l1 : Nat) (c1 : Nat) (x2 : OA) (x5 : Int) (x6 : OA) (l6 : Nat) (c6 : Nat) (x7 : Int) (x19 : Int) (x46 : Bool) (H : Heap) : Prop :=
 sel x46
 (zqr_9 nx46 Q E x1 l1 c1 x2 x5 x6 l6 c6 x7 H)
 (zqr_20 nx46 Q E x1 l1 c1 x2 x5 x6 l6 c6 x7 x19 H)

def zqr_23_M (nx46 : Int → HP) (Q : QT) (E : ET) (τ : Tau) (H : Heap) : Prop := mSl (τ 1) fun x1 l1 c1 => mP (τ 2) fun x2 => mI .i64 (τ 5) fun x5 => mSl (τ 6) fun x6 l6 c6 => mI .i64 (τ 7) fun x7 => mI .i64 (τ 19) fun x19 => mB (τ 46) fun x46 => zqr_23 nx46 Q E x1 l1 c1 x2 x5 x6 l6 c6 x7 x19 x46 H

theorem zqr_24ok (nx46 : Int → HP) (Q : QT) (E : ET) (τ : Tau) (H : Heap) (h : zqr_23_M nx46 Q E τ H) : vc Pr zqr_p21 τ (zqr_q7 nx46 Q E) E H :=
  vSl (i := 1) h (fun x1 l1 c1 h => vP (i := 2) h (fun x2 h => vI (i := 5) h (fun x5 h => vSl (i := 6) h (fun x6 l6 c6 h => vI (i := 7) h (fun x7 h => vI (i := 19) h (fun x19 h => vB (i := 46) h (fun x46 h => (conv (B := vc Pr zqr_p21 (Tau.upd (Tau.upd (Tau.upd (Tau.upd (Tau.upd (Tau.upd (Tau.upd τ 1 (.slice x1 l1 c1)) 2 (.pointer x2)) 5 (.int .i64 x5)) 6 (.slice x6 l6 c6)) 7 (.int .i64 x7)) 19 (.int .i64 x19)) 46 (.bool x46)) (zqr_q7 nx46 Q E) E H) (by kernel_rfl) (sel_map (zqr_10ok nx46 Q E (Tau.upd (Tau.upd (Tau.upd (Tau.upd (Tau.upd (Tau.upd (Tau.upd τ 1 (.slice x1 l1 c1)) 2 (.pointer x2)) 5 (.int .i64 x5)) 6 (.slice x6 l6 c6)) 7 (.int .i64 x7)) 19 (.int .i64 x19)) 46 (.bool x46)) H) (zqr_22ok nx46 Q E (Tau.upd (Tau.upd (Tau.upd (Tau.upd (Tau.upd (Tau.upd (Tau.upd τ 1 (.slice x1 l1 c1)) 2 (.pointer x2)) 5 (.int .i64 x5)) 6 (.slice x6 l6 c6)) 7 (.int .i64 x7)) 19 (.int .i64 x19)) 46 (.bool x46)) H) (conv (B := sel x46 (zqr_9_M nx46 Q E (Tau.upd (Tau.upd (Tau.upd (Tau.upd (Tau.upd (Tau.upd (Tau.upd τ 1 (.slice x1 l1 c1)) 2 (.pointer x2)) 5 (.int .i64 x5)) 6 (.slice x6 l6 c6)) 7 (.int .i64 x7)) 19 (.int .i64 x19)) 46 (.bool x46)) H) (zqr_20_M nx46 Q E (Tau.upd (Tau.upd (Tau.upd (Tau.upd (Tau.upd (Tau.upd (Tau.upd τ 1 (.slice x1 l1 c1)) 2 (.pointer x2)) 5 (.int .i64 x5)) 6 (.slice x6 l6 c6)) 7 (.int .i64 x7)) 19 (.int .i64 x19)) 46 (.bool x46)) H)) (by kernel_rfl) h))))))))))

@[reducible] noncomputable def zqr_q10 (nx46 : Int → HP) (Q : QT) (E : ET) : Exit → Tau → Heap → Prop := (xthen (zqr_23_M nx46 Q E) (zqr_q7 nx46 Q E))

@[reducible] noncomputable def zqr_p30 : Code := sA zqr_p20

def zqr_25 (nx46 : Int → HP) (Q : QT) (E : ET) (x1 : OA) (l1 : Nat) (c1 : Nat) (x2 : OA) (x5 : Int) (x6 : OA) (l6 : Nat) (c6 : Nat) (x7 : Int) (x19 : Int) (H : Heap) : Prop :=
 zqr_23 nx46 Q E x1 l1 c1 x2 x5 x6 l6 c6 x7 x19 ((x19 : Int) == 9) H

def zqr_25_M (nx46 : Int → HP) (Q : QT) (E : ET) (τ : Tau) (H : Heap) : Prop := mSl (τ 1) fun x1 l1 c1 => mP (τ 2) fun x2 => mI .i64 (τ 5) fun x5 => mSl (τ 6) fun x6 l6 c6 => mI .i64 (τ 7) fun x7 => mI .i64 (τ 19) fun x19 => zqr_25 nx46 Q E x1 l1 c1 x2 x5 x6 l6 c6 x7 x19 H

theorem zqr_26ok (nx46 : Int → HP) (Q : QT) (E : ET) (τ : Tau) (H : Heap) (h : zqr_25_M nx46 Q E τ H) : vc Pr zqr_p30 τ (zqr_q10 nx46 Q E) E H :=
  vSl (i := 1) h (fun x1 l1 c1 h => vP (i := 2) h (fun x2 h => vI (i := 5) h (fun x5 h => vSl (i := 6) h (fun x6 l6 c6 h => vI (i := 7) h (fun x7 h => vI (i := 19) h (fun x19 h => (conv (by kernel_rfl) h)))))))

theorem zqr_27ok (nx46 : Int → HP) (Q : QT) (E : ET) (τ : Tau) (H : Heap) (h : zqr_25_M nx46 Q E τ H) : vc Pr zqr_p20 τ (zqr_q7 nx46 Q E) E H :=
  (conv (B := vc Pr zqr_p20 τ (zqr_q7 nx46 Q E) E H) (by kernel_rfl) (vc_seq (K := (zqr_23_M nx46 Q E)) (zqr_26ok nx46 Q E τ H h) (zqr_24ok nx46 Q E)))

def zqr_28 (nx46 : Int → HP) (Q : QT) (E : ET) (x1 : OA) (l1 : Nat) (c1 : Nat) (x2 : OA) (x5 : Int) (x6 : OA) (l6 : Nat) (c6 : Nat) (x7 : Int) (x19 : Int) (x28 : Bool) (H : Heap) : Prop :=
 sel x28
 (zqr_7 nx46 Q E x1 l1 c1 x2 x5 x6 l6 c6 x7 H)
 (zqr_25 nx46 Q E x1 l1 c1 x2 x5 x6 l6 c6 x7 x19 H)

def zqr_28_M (nx46 : Int → HP) (Q : QT) (E : ET) (τ : Tau) (H : Heap) : Prop := mSl (τ 1) fun x1 l1 c1 => mP (τ 2) fun x2 => mI .i64 (τ 5) fun x5 => mSl (τ 6) fun x6 l6 c6 => mI .i64 (τ 7) fun x7 => mI .i64 (τ 19) fun x19 => mB (τ 28) fun x28 => zqr_28 nx46 Q E x1 l1 c1 x2 x5 x6 l6 c6 x7 x19 x28 H

theorem zqr_29ok (nx46 : Int → HP) (Q : QT) (E : ET) (τ : Tau) (H : Heap) (h : zqr_28_M nx46 Q E τ H) : vc Pr zqr_p18 τ (zqr_q7 nx46 Q E) E H :=
  vSl (i := 1) h (fun x1 l1 c1 h => vP (i := 2) h (fun x2 h => vI (i := 5) h (fun x5 h => vSl (i := 6) h (fun x6 l6 c6 h => vI (i := 7) h (fun x7 h => vI (i := 19) h (fun x19 h => vB (i := 28) h (fun x28 h => (conv (B := vc Pr zqr_p18 (Tau.upd (Tau.upd (Tau.upd (Tau.upd (Tau.upd (Tau.upd (Tau.upd τ 1 (.slice x1 l1 c1)) 2 (.pointer x2)) 5 (.int .i64 x5)) 6 (.slice x6 l6 c6)) 7 (.int .i64 x7)) 19 (.int .i64 x19)) 28 (.bool x28)) (zqr_q7 nx46 Q E) E H) (by kernel_rfl) (sel_map (zqr_8ok nx46 Q E (Tau.upd (Tau.upd (Tau.upd (Tau.upd (Tau.upd (Tau.upd (Tau.upd τ 1 (.slice x1 l1 c1)) 2 (.pointer x2)) 5 (.int .i64 x5)) 6 (.slice x6 l6 c6)) 7 (.int .i64 x7)) 19 (.int .i64 x19)) 28 (.bool x28)) H) (zqr_27ok nx46 Q E (Tau.upd (Tau.upd (Tau.upd (Tau.upd (Tau.upd (Tau.upd (Tau.upd τ 1 (.slice x1 l1 c1)) 2 (.pointer x2)) 5 (.int .i64 x5)) 6 (.slice x6 l6 c6)) 7 (.int .i64 x7)) 19 (.int .i64 x19)) 28 (.bool x28)) H) (conv (B := sel x28 (zqr_7_M nx46 Q E (Tau.upd (Tau.upd (Tau.upd (Tau.upd (Tau.upd (Tau.upd (Tau.upd τ 1 (.slice x1 l1 c1)) 2 (.pointer x2)) 5 (.int .i64 x5)) 6 (.slice x6 l6 c6)) 7 (.int .i64 x7)) 19 (.int .i64 x19)) 28 (.bool x28)) H) (zqr_25_M nx46 Q E (Tau.upd (Tau.upd (Tau.upd (Tau.upd (Tau.upd (Tau.upd (Tau.upd τ 1 (.slice x1 l1 c1)) 2 (.pointer x2)) 5 (.int .i64 x5)) 6 (.slice x6 l6 c6)) 7 (.int .i64 x7)) 19 (.int .i64 x19)) 28 (.bool x28)) H)) (by kernel_rfl) h))))))))))

@[reducible] noncomputable def zqr_q11 (nx46 : Int → HP) (Q : QT) (E : ET) : Exit → Tau → Heap → Prop := (xthen (zqr_28_M nx46 Q E) (zqr_q7 nx46 Q E))

@[reducible] noncomputable def zqr_p31 : Code := sA zqr_p17

def zqr_30 (nx46 : Int → HP) (Q : QT) (E : ET) (x1 : OA) (l1 : Nat) (c1 : Nat) (x2 : OA) (x5 : Int) (x6 : OA) (l6 : Nat) (c6 : Nat) (x7 : Int) (x19 : Int) (H : Heap) : Prop :=
 zqr_28 nx46 Q E x1 l1 c1 x2 x5 x6 l6 c6 x7 x19 ((x19 : Int) == 8) H

def zqr_30_M (nx46 : Int → HP) (Q : QT) (E : ET) (τ : Tau) (H : Heap) : Prop := mSl (τ 1) fun x1 l1 c1 => mP (τ 2) fun x2 => mI .i64 (τ 5) fun x5 => mSl (τ 6) fun x6 l6 c6 => mI .i64 (τ 7) fun x7 => mI .i64 (τ 19) fun x19 => zqr_30 nx46 Q E x1 l1 c1 x2 x5 x6 l6 c6 x7 x19 H

theorem zqr_31ok (nx46 : Int → HP) (Q : QT) (E : ET) (τ : Tau) (H : Heap) (h : zqr_30_M nx46 Q E τ H) : vc Pr zqr_p31 τ (zqr_q11 nx46 Q E) E H :=
  vSl (i := 1) h (fun x1 l1 c1 h => vP (i := 2) h (fun x2 h => vI (i := 5) h (fun x5 h => vSl (i := 6) h (fun x6 l6 c6 h => vI (i := 7) h (fun x7 h => vI (i := 19) h (fun x19 h => (conv (by kernel_rfl) h)))))))

theorem zqr_32ok (nx46 : Int → HP) (Q : QT) (E : ET) (τ : Tau) (H : Heap) (h : zqr_30_M nx46 Q E τ H) : vc Pr zqr_p17 τ (zqr_q7 nx46 Q E) E H :=
  (conv (B := vc Pr zqr_p17 τ (zqr_q7 nx46 Q E) E H) (by kernel_rfl) (vc_seq (K := (zqr_28_M nx46 Q E)) (zqr_31ok nx46 Q E τ H h) (zqr_29ok nx46 Q E)))

def zqr_33 (nx46 : Int → HP) (Q : QT) (E : ET) (x1 : OA) (l1 : Nat) (c1 : Nat) (x2 : OA) (x5 : Int) (x6 : OA) (l6 : Nat) (c6 : Nat) (x7 : Int) (x19 : Int) (x20 : Bool) (H : Heap) : Prop :=
 sel x20
 (zqr_5 nx46 Q E x1 l1 c1 x2 x5 x6 l6 c6 x7 H)
 (zqr_30 nx46 Q E x1 l1 c1 x2 x5 x6 l6 c6 x7 x19 H)

def zqr_33_M (nx46 : Int → HP) (Q : QT) (E : ET) (τ : Tau) (H : Heap) : Prop := mSl (τ 1) fun x1 l1 c1 => mP (τ 2) fun x2 => mI .i64 (τ 5) fun x5 => mSl (τ 6) fun x6 l6 c6 => mI .i64 (τ 7) fun x7 => mI .i64 (τ 19) fun x19 => mB (τ 20) fun x20 => zqr_33 nx46 Q E x1 l1 c1 x2 x5 x6 l6 c6 x7 x19 x20 H

theorem zqr_34ok (nx46 : Int → HP) (Q : QT) (E : ET) (τ : Tau) (H : Heap) (h : zqr_33_M nx46 Q E τ H) : vc Pr zqr_p15 τ (zqr_q7 nx46 Q E) E H :=
  vSl (i := 1) h (fun x1 l1 c1 h => vP (i := 2) h (fun x2 h => vI (i := 5) h (fun x5 h => vSl (i := 6) h (fun x6 l6 c6 h => vI (i := 7) h (fun x7 h => vI (i := 19) h (fun x19 h => vB (i := 20) h (fun x20 h => (conv (B := vc Pr zqr_p15 (Tau.upd (Tau.upd (Tau.upd (Tau.upd (Tau.upd (Tau.upd (Tau.upd τ 1 (.slice x1 l1 c1)) 2 (.pointer x2)) 5 (.int .i64 x5)) 6 (.slice x6 l6 c6)) 7 (.int .i64 x7)) 19 (.int .i64 x19)) 20 (.bool x20)) (zqr_q7 nx46 Q E) E H) (by kernel_rfl) (sel_map (zqr_6ok nx46 Q E (Tau.upd (Tau.upd (Tau.upd (Tau.upd (Tau.upd (Tau.upd (Tau.upd τ 1 (.slice x1 l1 c1)) 2 (.pointer x2)) 5 (.int .i64 x5)) 6 (.slice x6 l6 c6)) 7 (.int .i64 x7)) 19 (.int .i64 x19)) 20 (.bool x20)) H) (zqr_32ok nx46 Q E (Tau.upd (Tau.upd (Tau.upd (Tau.upd (Tau.upd (Tau.upd (Tau.upd τ 1 (.slice x1 l1 c1)) 2 (.pointer x2)) 5 (.int .i64 x5)) 6 (.slice x6 l6 c6)) 7 (.int .i64 x7)) 19 (.int .i64 x19)) 20 (.bool x20)) H) (conv (B := sel x20 (zqr_5_M nx46 Q E (Tau.upd (Tau.upd (Tau.upd (Tau.upd (Tau.upd (Tau.upd (Tau.upd τ 1 (.slice x1 l1 c1)) 2 (.pointer x2)) 5 (.int .i64 x5)) 6 (.slice x6 l6 c6)) 7 (.int .i64 x7)) 19 (.int .i64 x19)) 20 (.bool x20)) H) (zqr_30_M nx46 Q E (Tau.upd (Tau.upd (Tau.upd (Tau.upd (Tau.upd (Tau.upd (Tau.upd τ 1 (.slice x1 l1 c1)) 2 (.pointer x2)) 5 (.int .i64 x5)) 6 (.slice x6 l6 c6)) 7 (.int .i64 x7)) 19 (.int .i64 x19)) 20 (.bool x20)) H)) (by kernel_rfl) h))))))))))

@[reducible] noncomputable def zqr_q12 (nx46 : Int → HP) (Q : QT) (E : ET) : Exit → Tau → Heap → Prop := (xthen (zqr_33_M nx46 Q E) (zqr_q7 nx46 Q E))

@[reducible] noncomputable def zqr_p32 : Code := sA zqr_p14

def zqr_35 (nx46 : Int → HP) (Q : QT) (E : ET) (x1 : OA) (l1 : Nat) (c1 : Nat) (x2 : OA) (x5 : Int) (x6 : OA) (l6 : Nat) (c6 : Nat) (x7 : Int) (x19 : Int) (H : Heap) : Prop :=
 zqr_33 nx46 Q E x1 l1 c1 x2 x5 x6 l6 c6 x7 x19 ((x19 : Int) == 1) H

def zqr_35_M (nx46 : Int → HP) (Q : QT) (E : ET) (τ : Tau) (H : Heap) : Prop := mSl (τ 1) fun x1 l1 c1 => mP (τ 2) fun x2 => mI .i64 (τ 5) fun x5 => mSl (τ 6) fun x6 l6 c6 => mI .i64 (τ 7) fun x7 => mI .i64 (τ 19) fun x19 => zqr_35 nx46 Q E x1 l1 c1 x2 x5 x6 l6 c6 x7 x19 H

theorem zqr_36ok (nx46 : Int → HP) (Q : QT) (E : ET) (τ : Tau) (H : Heap) (h : zqr_35_M nx46 Q E τ H) : vc Pr zqr_p32 τ (zqr_q12 nx46 Q E) E H :=
  vSl (i := 1) h (fun x1 l1 c1 h => vP (i := 2) h (fun x2 h => vI (i := 5) h (fun x5 h => vSl (i := 6) h (fun x6 l6 c6 h => vI (i := 7) h (fun x7 h => vI (i := 19) h (fun x19 h => (conv (by kernel_rfl) h)))))))

theorem zqr_37ok (nx46 : Int → HP) (Q : QT) (E : ET) (τ : Tau) (H : Heap) (h : zqr_35_M nx46 Q E τ H) : vc Pr zqr_p14 τ (zqr_q7 nx46 Q E) E H :=
  (conv (B := vc Pr zqr_p14 τ (zqr_q7 nx46 Q E) E H) (by kernel_rfl) (vc_seq (K := (zqr_33_M nx46 Q E)) (zqr_36ok nx46 Q E τ H h) (zqr_34ok nx46 Q E)))

theorem zqr_38ok (nx46 : Int → HP) (Q : QT) (E : ET) (τ : Tau) (H : Heap) (h : zqr_35_M nx46 Q E τ H) : vc Pr zqr_p13 τ (zqr_q6 nx46 Q E) E H :=
  (conv (B := vc Pr zqr_p13 τ (zqr_q6 nx46 Q E) E H) (by kernel_rfl) (zqr_37ok nx46 Q E τ H h))

@[reducible] noncomputable def zqr_q13 (nx46 : Int → HP) (Q : QT) (E : ET) : Exit → Tau → Heap → Prop := (xthen (zqr_35_M nx46 Q E) (zqr_q6 nx46 Q E))

@[reducible] noncomputable def zqr_p33 : Code := sA zqr_p12

def zqr_39 (nx46 : Int → HP) (Q : QT) (E : ET) (x1 : OA) (l1 : Nat) (c1 : Nat) (x2 : OA) (x5 : Int) (x6 : OA) (l6 : Nat) (c6 : Nat) (x7 : Int) (H : Heap) : Prop :=
 ptr x2 fun q145 =>
 ldI .i64 q145 H fun n146 =>
 zqr_35 nx46 Q E x1 l1 c1 x2 x5 x6 l6 c6 x7 n146 H

def zqr_39_M (nx46 : Int → HP) (Q : QT) (E : ET) (τ : Tau) (H : Heap) : Prop := mSl (τ 1) fun x1 l1 c1 => mP (τ 2) fun x2 => mI .i64 (τ 5) fun x5 => mSl (τ 6) fun x6 l6 c6 => mI .i64 (τ 7) fun x7 => zqr_39 nx46 Q E x1 l1 c1 x2 x5 x6 l6 c6 x7 H

theorem zqr_40ok (nx46 : Int → HP) (Q : QT) (E : ET) (τ : Tau) (H : Heap) (h : zqr_39_M nx46 Q E τ H) : vc Pr zqr_p33 τ (zqr_q13 nx46 Q E) E H :=
  vSl (i := 1) h (fun x1 l1 c1 h => vP (i := 2) h (fun x2 h => vI (i := 5) h (fun x5 h => vSl (i := 6) h (fun x6 l6 c6 h => vI (i := 7) h (fun x7 h => (conv (by kernel_rfl) h))))))

theorem zqr_41ok (nx46 : Int → HP) (Q : QT) (E : ET) (τ : Tau) (H : Heap) (h : zqr_39_M nx46 Q E τ H) : vc Pr zqr_p12 τ (zqr_q6 nx46 Q E) E H :=
  (conv (B := vc Pr zqr_p12 τ (zqr_q6 nx46 Q E) E H) (by kernel_rfl) (vc_seq (K := (zqr_35_M nx46 Q E)) (zqr_40ok nx46 Q E τ H h) (zqr_38ok nx46 Q E)))

theorem zqr_42ok (nx46 : Int → HP) (Q : QT) (E : ET) (τ : Tau) (H : Heap) (h : zqr_39_M nx46 Q E τ H) : vc Pr zqr_p11 τ (zqr_q5 nx46 Q E) E H :=
  (conv (B := vc Pr zqr_p11 τ (zqr_q5 nx46 Q E) E H) (by kernel_rfl) (zqr_41ok nx46 Q E τ H h))

theorem zqr_43ok (nx46 : Int → HP) (Q : QT) (E : ET) (τ : Tau) (H : Heap) (h : zqr_39_M nx46 Q E τ H) : vc Pr zqr_p9 τ (zqr_q4 nx46 Q E) E H :=
  (conv (B := vc Pr zqr_p9 τ (zqr_q4 nx46 Q E) E H) (by kernel_rfl) (vc_seq (K := (zqr_3_M nx46 Q E)) (zqr_42ok nx46 Q E τ H h) (zqr_4ok nx46 Q E)))

@[reducible] noncomputable def zqr_q14 (nx46 : Int → HP) (Q : QT) (E : ET) : Exit → Tau → Heap → Prop := (xthen (zqr_39_M nx46 Q E) (zqr_q4 nx46 Q E))

@[reducible] noncomputable def zqr_p34 : Code := sA zqr_p8

def zqr_44 (nx46 : Int → HP) (Q : QT) (E : ET) (x1 : OA) (l1 : Nat) (c1 : Nat) (x2 : OA) (x5 : Int) (x6 : OA) (l6 : Nat) (c6 : Nat) (x7 : Int) (H : Heap) : Prop :=
 sel (decide ((x7 : Int) ≤ x5))
 (zqr_39 nx46 Q E x1 l1 c1 x2 x5 x6 l6 c6 x7 H)
 (zqr_1 Q E x6 l6 c6 H)

def zqr_44_M (nx46 : Int → HP) (Q : QT) (E : ET) (τ : Tau) (H : Heap) : Prop := mSl (τ 1) fun x1 l1 c1 => mP (τ 2) fun x2 => mI .i64 (τ 5) fun x5 => mSl (τ 6) fun x6 l6 c6 => mI .i64 (τ 7) fun x7 => zqr_44 nx46 Q E x1 l1 c1 x2 x5 x6 l6 c6 x7 H

theorem zqr_45ok (nx46 : Int → HP) (Q : QT) (E : ET) (τ : Tau) (H : Heap) (h : zqr_44_M nx46 Q E τ H) : vc Pr zqr_p34 τ (zqr_q14 nx46 Q E) E H :=
  vSl (i := 1) h (fun x1 l1 c1 h => vP (i := 2) h (fun x2 h => vI (i := 5) h (fun x5 h => vSl (i := 6) h (fun x6 l6 c6 h => vI (i := 7) h (fun x7 h => (conv (by kernel_rfl) h))))))

theorem zqr_46ok (nx46 : Int → HP) (Q : QT) (E : ET) (τ : Tau) (H : Heap) (h : zqr_44_M nx46 Q E τ H) : vc Pr zqr_p8 τ (zqr_q4 nx46 Q E) E H :=
  (conv (B := vc Pr zqr_p8 τ (zqr_q4 nx46 Q E) E H) (by kernel_rfl) (vc_seq (K := (zqr_39_M nx46 Q E)) (zqr_45ok nx46 Q E τ H h) (zqr_43ok nx46 Q E)))

def zqr_47 (Q : QT) (E : ET) (x1 : OA) (l1 : Nat) (c1 : Nat) (x2 : OA) (x5 : Int) (x6 : OA) (l6 : Nat) (c6 : Nat) (x7 : Int) (H : Heap) : Prop :=
 ∃ (I : Int → HP) (μ : Int → Heap → Nat), I x7 H ∧ ∀ (x7 : Int) (H : Heap), I x7 H →
 zqr_44 (fun x7' H1 => I x7' H1 ∧ μ x7' H1 < μ x7 H) Q E x1 l1 c1 x2 x5 x6 l6 c6 x7 H

def zqr_47_M (Q : QT) (E : ET) (τ : Tau) (H : Heap) : Prop := mSl (τ 1) fun x1 l1 c1 => mP (τ 2) fun x2 => mI .i64 (τ 5) fun x5 => mSl (τ 6) fun x6 l6 c6 => mI .i64 (τ 7) fun x7 => zqr_47 Q E x1 l1 c1 x2 x5 x6 l6 c6 x7 H

theorem zqr_48ok (Q : QT) (E : ET) (τ : Tau) (H : Heap) (h : zqr_47_M Q E τ H) : vc Pr zqr_p7 τ (zqr_q3 Q E) E H :=
  vSl (i := 1) h (fun x1 l1 c1 h => vP (i := 2) h (fun x2 h => vI (i := 5) h (fun x5 h => vSl (i := 6) h (fun x6 l6 c6 h => vI (i := 7) h (fun x7 h => match h with | ⟨I, μ, h0, hr⟩ => (conv (B := vc Pr zqr_p7 (Tau.upd (Tau.upd (Tau.upd (Tau.upd (Tau.upd τ 1 (.slice x1 l1 c1)) 2 (.pointer x2)) 5 (.int .i64 x5)) 6 (.slice x6 l6 c6)) 7 (.int .i64 x7)) (zqr_q3 Q E) E H) (by kernel_rfl) (vc_loop (c := sI zqr_p7) (τ := (Tau.upd (Tau.upd (Tau.upd (Tau.upd (Tau.upd τ 1 (.slice x1 l1 c1)) 2 (.pointer x2)) 5 (.int .i64 x5)) 6 (.slice x6 l6 c6)) 7 (.int .i64 x7))) [1, 2, 5, 6] (fun τ H => mI .i64 (τ 7) fun x7' => I x7' H) (fun τ H => μ (gI (τ 7)) H) (by kernel_rfl) h0 (fun τ1 H1 hf hI => fix_elim (τ := τ1) (i := 1) (v := (.slice x1 l1 c1)) (G := fun τ => vc Pr (sI zqr_p7) τ (xthen (fun τ2 H2 => (mI .i64 (τ2 7) fun x7' => I x7' H2) ∧ μ (gI (τ2 7)) H2 < μ (gI (τ 7)) H1) (zqr_q3 Q E)) E H1) (hf 1 (by simp)) (fix_elim (τ := (Tau.upd τ1 1 (.slice x1 l1 c1))) (i := 2) (v := (.pointer x2)) (G := fun τ => vc Pr (sI zqr_p7) τ (xthen (fun τ2 H2 => (mI .i64 (τ2 7) fun x7' => I x7' H2) ∧ μ (gI (τ2 7)) H2 < μ (gI (τ 7)) H1) (zqr_q3 Q E)) E H1) (hf 2 (by simp)) (fix_elim (τ := (Tau.upd (Tau.upd τ1 1 (.slice x1 l1 c1)) 2 (.pointer x2))) (i := 5) (v := (.int .i64 x5)) (G := fun τ => vc Pr (sI zqr_p7) τ (xthen (fun τ2 H2 => (mI .i64 (τ2 7) fun x7' => I x7' H2) ∧ μ (gI (τ2 7)) H2 < μ (gI (τ 7)) H1) (zqr_q3 Q E)) E H1) (hf 5 (by simp)) (fix_elim (τ := (Tau.upd (Tau.upd (Tau.upd τ1 1 (.slice x1 l1 c1)) 2 (.pointer x2)) 5 (.int .i64 x5))) (i := 6) (v := (.slice x6 l6 c6)) (G := fun τ => vc Pr (sI zqr_p7) τ (xthen (fun τ2 H2 => (mI .i64 (τ2 7) fun x7' => I x7' H2) ∧ μ (gI (τ2 7)) H2 < μ (gI (τ 7)) H1) (zqr_q3 Q E)) E H1) (hf 6 (by simp)) (mI_elim (i := 7) (G := fun τ => vc Pr (sI zqr_p7) τ (xthen (fun τ2 H2 => (mI .i64 (τ2 7) fun x7' => I x7' H2) ∧ μ (gI (τ2 7)) H2 < μ (gI (τ 7)) H1) (zqr_q3 Q E)) E H1) hI (fun x7r h => (conv (B := vc Pr (sI zqr_p7) (Tau.upd (Tau.upd (Tau.upd (Tau.upd (Tau.upd τ1 1 (.slice x1 l1 c1)) 2 (.pointer x2)) 5 (.int .i64 x5)) 6 (.slice x6 l6 c6)) 7 (.int .i64 x7r)) (xthen (fun τ2 H2 => (mI .i64 (τ2 7) fun x7' => I x7' H2) ∧ μ (gI (τ2 7)) H2 < μ (gI ((Tau.upd (Tau.upd (Tau.upd (Tau.upd (Tau.upd τ1 1 (.slice x1 l1 c1)) 2 (.pointer x2)) 5 (.int .i64 x5)) 6 (.slice x6 l6 c6)) 7 (.int .i64 x7r)) 7)) H1) (zqr_q3 Q E)) E H1) (by kernel_rfl) (vc_xthen (zqr_46ok (fun x7' H2 => I x7' H2 ∧ μ x7' H2 < μ x7r H1) Q E (Tau.upd (Tau.upd (Tau.upd (Tau.upd (Tau.upd τ1 1 (.slice x1 l1 c1)) 2 (.pointer x2)) 5 (.int .i64 x5)) 6 (.slice x6 l6 c6)) 7 (.int .i64 x7r)) H1 (conv (B := zqr_44_M (fun x7' H2 => I x7' H2 ∧ μ x7' H2 < μ x7r H1) Q E (Tau.upd (Tau.upd (Tau.upd (Tau.upd (Tau.upd τ1 1 (.slice x1 l1 c1)) 2 (.pointer x2)) 5 (.int .i64 x5)) 6 (.slice x6 l6 c6)) 7 (.int .i64 x7r)) H1) (by kernel_rfl) (hr x7r H1 h))) (fun τ2 H2 hk => mI_elim (i := 7) (G := fun τ => (mI .i64 (τ 7) fun x7' => I x7' H2) ∧ μ (gI (τ 7)) H2 < μ x7r H1) hk (fun x7' h => h)))))))))))))))))

theorem zqr_49ok (Q : QT) (E : ET) (τ : Tau) (H : Heap) (h : zqr_47_M Q E τ H) : vc Pr zqr_p6 τ (zqr_q2 Q E) E H :=
  (conv (B := vc Pr zqr_p6 τ (zqr_q2 Q E) E H) (by kernel_rfl) (zqr_48ok Q E τ H h))

@[reducible] noncomputable def zqr_q15 (Q : QT) (E : ET) : Exit → Tau → Heap → Prop := (xthen (zqr_47_M Q E) (zqr_q2 Q E))

@[reducible] noncomputable def zqr_p35 : Code := sA zqr_p5

def zqr_50 (Q : QT) (E : ET) (x1 : OA) (l1 : Nat) (c1 : Nat) (x2 : OA) (x5 : Int) (x6 : OA) (l6 : Nat) (c6 : Nat) (H : Heap) : Prop :=
 zqr_47 Q E x1 l1 c1 x2 x5 x6 l6 c6 0 H

def zqr_50_M (Q : QT) (E : ET) (τ : Tau) (H : Heap) : Prop := mSl (τ 1) fun x1 l1 c1 => mP (τ 2) fun x2 => mI .i64 (τ 5) fun x5 => mSl (τ 6) fun x6 l6 c6 => zqr_50 Q E x1 l1 c1 x2 x5 x6 l6 c6 H

theorem zqr_51ok (Q : QT) (E : ET) (τ : Tau) (H : Heap) (h : zqr_50_M Q E τ H) : vc Pr zqr_p35 τ (zqr_q15 Q E) E H :=
  vSl (i := 1) h (fun x1 l1 c1 h => vP (i := 2) h (fun x2 h => vI (i := 5) h (fun x5 h => vSl (i := 6) h (fun x6 l6 c6 h => (conv (by kernel_rfl) h)))))

theorem zqr_52ok (Q : QT) (E : ET) (τ : Tau) (H : Heap) (h : zqr_50_M Q E τ H) : vc Pr zqr_p5 τ (zqr_q2 Q E) E H :=
  (conv (B := vc Pr zqr_p5 τ (zqr_q2 Q E) E H) (by kernel_rfl) (vc_seq (K := (zqr_47_M Q E)) (zqr_51ok Q E τ H h) (zqr_49ok Q E)))

theorem zqr_53ok (Q : QT) (E : ET) (τ : Tau) (H : Heap) (h : zqr_50_M Q E τ H) : vc Pr zqr_p3 τ (zqr_q1 Q E) E H :=
  (conv (B := vc Pr zqr_p3 τ (zqr_q1 Q E) E H) (by kernel_rfl) (vc_seq (K := (zqr_1_M Q E)) (zqr_52ok Q E τ H h) (zqr_2ok Q E)))

@[reducible] noncomputable def zqr_q16 (Q : QT) (E : ET) : Exit → Tau → Heap → Prop := (xthen (zqr_50_M Q E) (zqr_q1 Q E))

@[reducible] noncomputable def zqr_p36 : Code := sA zqr_p2

def zqr_54 (Q : QT) (E : ET) (x1 : OA) (l1 : Nat) (c1 : Nat) (x2 : OA) (x5 : Int) (H : Heap) : Prop :=
 Does Pr 99 #[(.int .i64 (IntKind.wrap .i64 (x5 + 1)))] H (fun v147 H148 =>
 ∃ (p149 : OA) (l150 c151 : Nat), v147 = (.slice p149 l150 c151) ∧ zqr_50 Q E x1 l1 c1 x2 x5 p149 l150 c151 H148) E

def zqr_54_M (Q : QT) (E : ET) (τ : Tau) (H : Heap) : Prop := mSl (τ 1) fun x1 l1 c1 => mP (τ 2) fun x2 => mI .i64 (τ 5) fun x5 => zqr_54 Q E x1 l1 c1 x2 x5 H

theorem zqr_55ok (Q : QT) (E : ET) (τ : Tau) (H : Heap) (h : zqr_54_M Q E τ H) : vc Pr zqr_p36 τ (zqr_q16 Q E) E H :=
  vSl (i := 1) h (fun x1 l1 c1 h => vP (i := 2) h (fun x2 h => vI (i := 5) h (fun x5 h => (conv (by kernel_rfl) h))))

theorem zqr_56ok (Q : QT) (E : ET) (τ : Tau) (H : Heap) (h : zqr_54_M Q E τ H) : vc Pr zqr_p2 τ (zqr_q1 Q E) E H :=
  (conv (B := vc Pr zqr_p2 τ (zqr_q1 Q E) E H) (by kernel_rfl) (vc_seq (K := (zqr_50_M Q E)) (zqr_55ok Q E τ H h) (zqr_53ok Q E)))

@[reducible] noncomputable def zqr_q17 (Q : QT) (E : ET) : Exit → Tau → Heap → Prop := (xthen (zqr_54_M Q E) (zqr_q1 Q E))

@[reducible] noncomputable def zqr_p37 : Code := sA zqr_p1

def zqr_57 (Q : QT) (E : ET) (x1 : OA) (l1 : Nat) (c1 : Nat) (x2 : OA) (H : Heap) : Prop :=
 zqr_54 Q E x1 l1 c1 x2 ((l1 : Nat) : Int) H

def zqr_57_M (Q : QT) (E : ET) (τ : Tau) (H : Heap) : Prop := mSl (τ 1) fun x1 l1 c1 => mP (τ 2) fun x2 => zqr_57 Q E x1 l1 c1 x2 H

theorem zqr_58ok (Q : QT) (E : ET) (τ : Tau) (H : Heap) (h : zqr_57_M Q E τ H) : vc Pr zqr_p37 τ (zqr_q17 Q E) E H :=
  vSl (i := 1) h (fun x1 l1 c1 h => vP (i := 2) h (fun x2 h => (conv (by kernel_rfl) h)))

theorem zqr_59ok (Q : QT) (E : ET) (τ : Tau) (H : Heap) (h : zqr_57_M Q E τ H) : vc Pr zqr_p1 τ (zqr_q1 Q E) E H :=
  (conv (B := vc Pr zqr_p1 τ (zqr_q1 Q E) E H) (by kernel_rfl) (vc_seq (K := (zqr_54_M Q E)) (zqr_58ok Q E τ H h) (zqr_56ok Q E)))

@[reducible] noncomputable def zqr_q18 (Q : QT) (E : ET) : Exit → Tau → Heap → Prop := (xthen (zqr_57_M Q E) (zqr_q1 Q E))

@[reducible] noncomputable def zqr_p38 : Code := sA zqr_p0

def zqr (Q : QT) (E : ET) (a0_0 : Int) (a0_1 : Int) (a0_2 : Int) (a0_3 : Int) (a0_4 : Int) (a0_5 : Int) (a0_6 : Int) (a1 : OA) (a1l : Nat) (a1c : Nat) (H : Heap) : Prop :=
 nw (.cells #[(.int .i64 a0_0), (.int .i64 a0_1), (.int .i64 a0_2), (.int .u64 a0_3), (.int .u64 a0_4), (.int .u64 a0_5), (.int .u64 a0_6)] 48 (0, 0)) H fun i152 H153 =>
 zqr_57 Q E a1 a1l a1c (some ⟨i152, 0, none⟩) H153

theorem zqr_fn (a0_0 : Int) (a0_1 : Int) (a0_2 : Int) (a0_3 : Int) (a0_4 : Int) (a0_5 : Int) (a0_6 : Int) (a1 : OA) (a1l : Nat) (a1c : Nat) (Q : QT) (E : ET) (H : Heap) (h : zqr Q E a0_0 a0_1 a0_2 a0_3 a0_4 a0_5 a0_6 a1 a1l a1c H)   : Does Pr 88 #[(.agg #[(.int .i64 a0_0), (.int .i64 a0_1), (.int .i64 a0_2), (.int .u64 a0_3), (.int .u64 a0_4), (.int .u64 a0_5), (.int .u64 a0_6)]), (.slice a1 a1l a1c)] H Q E :=
  Fn_of_vc (fn := Try.f88) (c := zqr_p0) (args := [(.agg #[(.int .i64 a0_0), (.int .i64 a0_1), (.int .i64 a0_2), (.int .u64 a0_3), (.int .u64 a0_4), (.int .u64 a0_5), (.int .u64 a0_6)]), (.slice a1 a1l a1c)]) mixed (by kernel_rfl) (by kernel_rfl) (by kernel_rfl) (by kernel_rfl) (by kernel_rfl) ((conv (B := vc Pr zqr_p0 (argT [(.agg #[(.int .i64 a0_0), (.int .i64 a0_1), (.int .i64 a0_2), (.int .u64 a0_3), (.int .u64 a0_4), (.int .u64 a0_5), (.int .u64 a0_6)]), (.slice a1 a1l a1c)]) (zqr_q1 Q E) E H) (by kernel_rfl) (vc_seq (K := (zqr_57_M Q E)) (conv (B := vc Pr zqr_p38 (argT [(.agg #[(.int .i64 a0_0), (.int .i64 a0_1), (.int .i64 a0_2), (.int .u64 a0_3), (.int .u64 a0_4), (.int .u64 a0_5), (.int .u64 a0_6)]), (.slice a1 a1l a1c)]) (zqr_q18 Q E) E H) (by kernel_rfl) h) (zqr_59ok Q E))))

/-! jobmux/jobmuxref09.empty -/
@[reducible] noncomputable def zqs_q1 (Q : QT) (E : ET) : Exit → Tau → Heap → Prop := (retQ Pr (Try.f99).results.toList Q)

@[reducible] noncomputable def zqs_p0 : Code := bodyOf Try.f99

@[reducible] noncomputable def zqs_p1 : Code := sB zqs_p0

@[reducible] noncomputable def zqs_p2 : Code := sB zqs_p1

@[reducible] noncomputable def zqs_p3 : Code := sB zqs_p2

def zqs_1 (Q : QT) (E : ET) (x3 : OA) (l3 : Nat) (c3 : Nat) (H : Heap) : Prop :=
 Q (.slice x3 l3 c3) H

def zqs_1_M (Q : QT) (E : ET) (τ : Tau) (H : Heap) : Prop := mSl (τ 3) fun x3 l3 c3 => zqs_1 Q E x3 l3 c3 H

theorem zqs_2ok (Q : QT) (E : ET) (τ : Tau) (H : Heap) (h : zqs_1_M Q E τ H) : vc Pr zqs_p3 τ (zqs_q1 Q E) E H :=
  vSl (i := 3) h (fun x3 l3 c3 h => (conv (by kernel_rfl) h))

@[reducible] noncomputable def zqs_q2 (Q : QT) (E : ET) : Exit → Tau → Heap → Prop := (xthen (zqs_1_M Q E) (zqs_q1 Q E))

@[reducible] noncomputable def zqs_p4 : Code := sA zqs_p2

@[reducible] noncomputable def zqs_p5 : Code := sB zqs_p4

@[reducible] noncomputable def zqs_q3 (Q : QT) (E : ET) : Exit → Tau → Heap → Prop := (xblock 0 (zqs_q2 Q E))

@[reducible] noncomputable def zqs_p6 : Code := sI zqs_p5

@[reducible] noncomputable def zqs_q4 (nx9 : Option Addr → Nat → Nat → Int → HP) (Q : QT) (E : ET) : Exit → Tau → Heap → Prop := (xthen (fun τ H => mSl (τ 3) fun x3' l3' c3' => mI .i64 (τ 4) fun x4' => nx9 x3' l3' c3' x4' H) (zqs_q3 Q E))

@[reducible] noncomputable def zqs_p7 : Code := sI zqs_p6

@[reducible] noncomputable def zqs_p8 : Code := sB zqs_p7

def zqs_3 (nx9 : Option Addr → Nat → Nat → Int → HP) (Q : QT) (E : ET) (x0 : Int) (x3 : OA) (l3 : Nat) (c3 : Nat) (x4 : Int) (H : Heap) : Prop :=
 (0 ≤ (x0 : Int) ∧ (x0 : Int) ≤ x0 ∧ (x0 : Int) ≤ 281474976710656 ∧ ((1 : Nat) : Int) * x0 ≤ 281474976710656) ∧ nw (.cells (rep (x0 : Int).toNat [(.bool false)]).toArray 4 (0, 0)) H fun i10 H11 =>
 nw (.cells #[(.slice (some ⟨i10, 0, none⟩) (x0 : Int).toNat (x0 : Int).toNat)] 111 (0, 0)) H11 fun i12 H13 =>
 app Pr 79 x3 l3 c3 (.slice (some ⟨i12, 0, none⟩) 1 1) H13 fun p14 l15 c16 H17 =>
 nx9 p14 l15 c16 (IntKind.wrap .i64 (x4 + 1)) H17

def zqs_3_M (nx9 : Option Addr → Nat → Nat → Int → HP) (Q : QT) (E : ET) (τ : Tau) (H : Heap) : Prop := mI .i64 (τ 0) fun x0 => mSl (τ 3) fun x3 l3 c3 => mI .i64 (τ 4) fun x4 => zqs_3 nx9 Q E x0 x3 l3 c3 x4 H

theorem zqs_4ok (nx9 : Option Addr → Nat → Nat → Int → HP) (Q : QT) (E : ET) (τ : Tau) (H : Heap) (h : zqs_3_M nx9 Q E τ H) : vc Pr zqs_p8 τ (zqs_q4 nx9 Q E) E H :=
  vI (i := 0) h (fun x0 h => vSl (i := 3) h (fun x3 l3 c3 h => vI (i := 4) h (fun x4 h => (conv (by kernel_rfl) h))))

@[reducible] noncomputable def zqs_q5 (nx9 : Option Addr → Nat → Nat → Int → HP) (Q : QT) (E : ET) : Exit → Tau → Heap → Prop := (xthen (zqs_3_M nx9 Q E) (zqs_q4 nx9 Q E))

@[reducible] noncomputable def zqs_p9 : Code := sA zqs_p7

def zqs_5 (nx9 : Option Addr → Nat → Nat → Int → HP) (Q : QT) (E : ET) (x0 : Int) (x3 : OA) (l3 : Nat) (c3 : Nat) (x4 : Int) (H : Heap) : Prop :=
 sel (decide ((x4 : Int) < x0))
 (zqs_3 nx9 Q E x0 x3 l3 c3 x4 H)
 (zqs_1 Q E x3 l3 c3 H)

def zqs_5_M (nx9 : Option Addr → Nat → Nat → Int → HP) (Q : QT) (E : ET) (τ : Tau) (H : Heap) : Prop := mI .i64 (τ 0) fun x0 => mSl (τ 3) fun x3 l3 c3 => mI .i64 (τ 4) fun x4 => zqs_5 nx9 Q E x0 x3 l3 c3 x4 H

theorem zqs_6ok (nx9 : Option Addr → Nat → Nat → Int → HP) (Q : QT) (E : ET) (τ : Tau) (H : Heap) (h : zqs_5_M nx9 Q E τ H) : vc Pr zqs_p9 τ (zqs_q5 nx9 Q E) E H :=
  vI (i := 0) h (fun x0 h => vSl (i := 3) h (fun x3 l3 c3 h => vI (i := 4) h (fun x4 h => (conv (by kernel_rfl) h))))

theorem zqs_7ok (nx9 : Option Addr → Nat → Nat → Int → HP) (Q : QT) (E : ET) (τ : Tau) (H : Heap) (h : zqs_5_M nx9 Q E τ H) : vc Pr zqs_p7 τ (zqs_q4 nx9 Q E) E H :=
  (conv (B := vc Pr zqs_p7 τ (zqs_q4 nx9 Q E) E H) (by kernel_rfl) (vc_seq (K := (zqs_3_M nx9 Q E)) (zqs_6ok nx9 Q E τ H h) (zqs_4ok nx9 Q E)))

def zqs_8 (Q : QT) (E : ET) (x0 : Int) (x3 : OA) (l3 : Nat) (c3 : Nat) (x4 : Int) (H : Heap) : Prop :=
 ∃ (I : Option Addr → Nat → Nat → Int → HP) (μ : Option Addr → Nat → Nat → Int → Heap → Nat), I x3 l3 c3 x4 H ∧ ∀ (x3 : OA) (l3 : Nat) (c3 : Nat) (x4 : Int) (H : Heap), I x3 l3 c3 x4 H →
 zqs_5 (fun x3' l3' c3' x4' H1 => I x3' l3' c3' x4' H1 ∧ μ x3' l3' c3' x4' H1 < μ x3 l3 c3 x4 H) Q E x0 x3 l3 c3 x4 H

def zqs_8_M (Q : QT) (E : ET) (τ : Tau) (H : Heap) : Prop := mI .i64 (τ 0) fun x0 => mSl (τ 3) fun x3 l3 c3 => mI .i64 (τ 4) fun x4 => zqs_8 Q E x0 x3 l3 c3 x4 H

theorem zqs_9ok (Q : QT) (E : ET) (τ : Tau) (H : Heap) (h : zqs_8_M Q E τ H) : vc Pr zqs_p6 τ (zqs_q3 Q E) E H :=
  vI (i := 0) h (fun x0 h => vSl (i := 3) h (fun x3 l3 c3 h => vI (i := 4) h (fun x4 h => match h with | ⟨I, μ, h0, hr⟩ => (conv (B := vc Pr zqs_p6 (Tau.upd (Tau.upd (Tau.upd τ 0 (.int .i64 x0)) 3 (.slice x3 l3 c3)) 4 (.int .i64 x4)) (zqs_q3 Q E) E H) (by kernel_rfl) (vc_loop (c := sI zqs_p6) (τ := (Tau.upd (Tau.upd (Tau.upd τ 0 (.int .i64 x0)) 3 (.slice x3 l3 c3)) 4 (.int .i64 x4))) [0] (fun τ H => mSl (τ 3) fun x3' l3' c3' => mI .i64 (τ 4) fun x4' => I x3' l3' c3' x4' H) (fun τ H => μ (gL1 (τ 3)) (gL2 (τ 3)) (gL3 (τ 3)) (gI (τ 4)) H) (by kernel_rfl) h0 (fun τ1 H1 hf hI => fix_elim (τ := τ1) (i := 0) (v := (.int .i64 x0)) (G := fun τ => vc Pr (sI zqs_p6) τ (xthen (fun τ2 H2 => (mSl (τ2 3) fun x3' l3' c3' => mI .i64 (τ2 4) fun x4' => I x3' l3' c3' x4' H2) ∧ μ (gL1 (τ2 3)) (gL2 (τ2 3)) (gL3 (τ2 3)) (gI (τ2 4)) H2 < μ (gL1 (τ 3)) (gL2 (τ 3)) (gL3 (τ 3)) (gI (τ 4)) H1) (zqs_q3 Q E)) E H1) (hf 0 (by simp)) (mSl_elim (i := 3) (G := fun τ => vc Pr (sI zqs_p6) τ (xthen (fun τ2 H2 => (mSl (τ2 3) fun x3' l3' c3' => mI .i64 (τ2 4) fun x4' => I x3' l3' c3' x4' H2) ∧ μ (gL1 (τ2 3)) (gL2 (τ2 3)) (gL3 (τ2 3)) (gI (τ2 4)) H2 < μ (gL1 (τ 3)) (gL2 (τ 3)) (gL3 (τ 3)) (gI (τ 4)) H1) (zqs_q3 Q E)) E H1) hI (fun x3r l3r c3r h => mI_elim (i := 4) (G := fun τ => vc Pr (sI zqs_p6) τ (xthen (fun τ2 H2 => (mSl (τ2 3) fun x3' l3' c3' => mI .i64 (τ2 4) fun x4' => I x3' l3' c3' x4' H2) ∧ μ (gL1 (τ2 3)) (gL2 (τ2 3)) (gL3 (τ2 3)) (gI (τ2 4)) H2 < μ (gL1 (τ 3)) (gL2 (τ 3)) (gL3 (τ 3)) (gI (τ 4)) H1) (zqs_q3 Q E)) E H1) h (fun x4r h => (conv (B := vc Pr (sI zqs_p6) (Tau.upd (Tau.upd (Tau.upd τ1 0 (.int .i64 x0)) 3 (.slice x3r l3r c3r)) 4 (.int .i64 x4r)) (xthen (fun τ2 H2 => (mSl (τ2 3) fun x3' l3' c3' => mI .i64 (τ2 4) fun x4' => I x3' l3' c3' x4' H2) ∧ μ (gL1 (τ2 3)) (gL2 (τ2 3)) (gL3 (τ2 3)) (gI (τ2 4)) H2 < μ (gL1 ((Tau.upd (Tau.upd (Tau.upd τ1 0 (.int .i64 x0)) 3 (.slice x3r l3r c3r)) 4 (.int .i64 x4r)) 3)) (gL2 ((Tau.upd (Tau.upd (Tau.upd τ1 0 (.int .i64 x0)) 3 (.slice x3r l3r c3r)) 4 (.int .i64 x4r)) 3)) (gL3 ((Tau.upd (Tau.upd (Tau.upd τ1 0 (.int .i64 x0)) 3 (.slice x3r l3r c3r)) 4 (.int .i64 x4r)) 3)) (gI ((Tau.upd (Tau.upd (Tau.upd τ1 0 (.int .i64 x0)) 3 (.slice x3r l3r c3r)) 4 (.int .i64 x4r)) 4)) H1) (zqs_q3 Q E)) E H1) (by kernel_rfl) (vc_xthen (zqs_7ok (fun x3' l3' c3' x4' H2 => I x3' l3' c3' x4' H2 ∧ μ x3' l3' c3' x4' H2 < μ x3r l3r c3r x4r H1) Q E (Tau.upd (Tau.upd (Tau.upd τ1 0 (.int .i64 x0)) 3 (.slice x3r l3r c3r)) 4 (.int .i64 x4r)) H1 (conv (B := zqs_5_M (fun x3' l3' c3' x4' H2 => I x3' l3' c3' x4' H2 ∧ μ x3' l3' c3' x4' H2 < μ x3r l3r c3r x4r H1) Q E (Tau.upd (Tau.upd (Tau.upd τ1 0 (.int .i64 x0)) 3 (.slice x3r l3r c3r)) 4 (.int .i64 x4r)) H1) (by kernel_rfl) (hr x3r l3r c3r x4r H1 h))) (fun τ2 H2 hk => mSl_elim (i := 3) (G := fun τ => (mSl (τ 3) fun x3' l3' c3' => mI .i64 (τ 4) fun x4' => I x3' l3' c3' x4' H2) ∧ μ (gL1 (τ 3)) (gL2 (τ 3)) (gL3 (τ 3)) (gI (τ 4)) H2 < μ x3r l3r c3r x4r H1) hk (fun x3' l3' c3' h => mI_elim (i := 4) (G := fun τ => (mSl (τ 3) fun x3' l3' c3' => mI .i64 (τ 4) fun x4' => I x3' l3' c3' x4' H2) ∧ μ (gL1 (τ 3)) (gL2 (τ 3)) (gL3 (τ 3)) (gI (τ 4)) H2 < μ x3r l3r c3r x4r H1) h (fun x4' h => h))))))))))))))

theorem zqs_10ok (Q : QT) (E : ET) (τ : Tau) (H : Heap) (h : zqs_8_M Q E τ H) : vc Pr zqs_p5 τ (zqs_q2 Q E) E H :=
  (conv (B := vc Pr zqs_p5 τ (zqs_q2 Q E) E H) (by kernel_rfl) (zqs_9ok Q E τ H h))

@[reducible] noncomputable def zqs_q6 (Q : QT) (E : ET) : Exit → Tau → Heap → Prop := (xthen (zqs_8_M Q E) (zqs_q2 Q E))

@[reducible] noncomputable def zqs_p10 : Code := sA zqs_p4

def zqs_11 (Q : QT) (E : ET) (x0 : Int) (x3 : OA) (l3 : Nat) (c3 : Nat) (H : Heap) : Prop :=
 zqs_8 Q E x0 x3 l3 c3 0 H

def zqs_11_M (Q : QT) (E : ET) (τ : Tau) (H : Heap) : Prop := mI .i64 (τ 0) fun x0 => mSl (τ 3) fun x3 l3 c3 => zqs_11 Q E x0 x3 l3 c3 H

theorem zqs_12ok (Q : QT) (E : ET) (τ : Tau) (H : Heap) (h : zqs_11_M Q E τ H) : vc Pr zqs_p10 τ (zqs_q6 Q E) E H :=
  vI (i := 0) h (fun x0 h => vSl (i := 3) h (fun x3 l3 c3 h => (conv (by kernel_rfl) h)))

theorem zqs_13ok (Q : QT) (E : ET) (τ : Tau) (H : Heap) (h : zqs_11_M Q E τ H) : vc Pr zqs_p4 τ (zqs_q2 Q E) E H :=
  (conv (B := vc Pr zqs_p4 τ (zqs_q2 Q E) E H) (by kernel_rfl) (vc_seq (K := (zqs_8_M Q E)) (zqs_12ok Q E τ H h) (zqs_10ok Q E)))

theorem zqs_14ok (Q : QT) (E : ET) (τ : Tau) (H : Heap) (h : zqs_11_M Q E τ H) : vc Pr zqs_p2 τ (zqs_q1 Q E) E H :=
  (conv (B := vc Pr zqs_p2 τ (zqs_q1 Q E) E H) (by kernel_rfl) (vc_seq (K := (zqs_1_M Q E)) (zqs_13ok Q E τ H h) (zqs_2ok Q E)))

@[reducible] noncomputable def zqs_q7 (Q : QT) (E : ET) : Exit → Tau → Heap → Prop := (xthen (zqs_11_M Q E) (zqs_q1 Q E))

@[reducible] noncomputable def zqs_p11 : Code := sA zqs_p1

def zqs_15 (Q : QT) (E : ET) (x0 : Int) (H : Heap) : Prop :=
 zqs_11 Q E x0 none 0 0 H

def zqs_15_M (Q : QT) (E : ET) (τ : Tau) (H : Heap) : Prop := mI .i64 (τ 0) fun x0 => zqs_15 Q E x0 H

theorem zqs_16ok (Q : QT) (E : ET) (τ : Tau) (H : Heap) (h : zqs_15_M Q E τ H) : vc Pr zqs_p11 τ (zqs_q7 Q E) E H :=
  vI (i := 0) h (fun x0 h => (conv (by kernel_rfl) h))

theorem zqs_17ok (Q : QT) (E : ET) (τ : Tau) (H : Heap) (h : zqs_15_M Q E τ H) : vc Pr zqs_p1 τ (zqs_q1 Q E) E H :=
  (conv (B := vc Pr zqs_p1 τ (zqs_q1 Q E) E H) (by kernel_rfl) (vc_seq (K := (zqs_11_M Q E)) (zqs_16ok Q E τ H h) (zqs_14ok Q E)))

@[reducible] noncomputable def zqs_q8 (Q : QT) (E : ET) : Exit → Tau → Heap → Prop := (xthen (zqs_15_M Q E) (zqs_q1 Q E))

@[reducible] noncomputable def zqs_p12 : Code := sA zqs_p0

def zqs (Q : QT) (E : ET) (a0 : Int) (H : Heap) : Prop :=
 zqs_15 Q E a0 H

theorem zqs_fn (a0 : Int) (Q : QT) (E : ET) (H : Heap) (h : zqs Q E a0 H)   : Does Pr 99 #[(.int .i64 a0)] H Q E :=
  Fn_of_vc (fn := Try.f99) (c := zqs_p0) (args := [(.int .i64 a0)]) mixed (by kernel_rfl) (by kernel_rfl) (by kernel_rfl) (by kernel_rfl) (by kernel_rfl) ((conv (B := vc Pr zqs_p0 (argT [(.int .i64 a0)]) (zqs_q1 Q E) E H) (by kernel_rfl) (vc_seq (K := (zqs_15_M Q E)) (conv (B := vc Pr zqs_p12 (argT [(.int .i64 a0)]) (zqs_q8 Q E) E H) (by kernel_rfl) h) (zqs_17ok Q E))))

end Go.Proofs.Ytaffcoiomggpfaa
