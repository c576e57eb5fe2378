import Derived.Test.YtaffcoiomggpfaaVPr
import Derived.Test.YtaffcoiomggpfaaFr08_1
/- Printed by gen.py: the Go functions of package r08 over a heap view, and that the model does so. -/
namespace Go.Proofs.Ytaffcoiomggpfaa
open Go.V
set_option linter.unusedVariables false
set_option maxRecDepth 100000
/-! (*jobmux/jobmuxref08.parser).class -/
@[reducible] noncomputable def zqa2_q1 (Q : QT) (E : ET) : Exit → Tau → Heap → Prop := (retQ Pr (Try.f110).results.toList Q)

@[reducible] noncomputable def zqa2_p0 : Code := bodyOf Try.f110

@[reducible] noncomputable def zqa2_p1 : Code := sB zqa2_p0

@[reducible] noncomputable def zqa2_p2 : Code := sB zqa2_p1

@[reducible] noncomputable def zqa2_p3 : Code := sB zqa2_p2

@[reducible] noncomputable def zqa2_p4 : Code := sB zqa2_p3

@[reducible] noncomputable def zqa2_p5 : Code := sB zqa2_p4

def zqa2_1 (Q : QT) (E : ET) (x0 : OA) (x2 : OA) (x3 : OA) (H : Heap) : Prop :=
 Does Pr 57 #[(.pointer x0), (.int .i64 80)] H (fun v63 H64 =>
 ptr x3 fun q65 =>
 ∃ n66 n67 n68 n69 : Int, Heap.rd H64 q65 0 [(.int .u64 n66), (.int .u64 n67), (.int .u64 n68), (.int .u64 n69)] ∧ ptr x2 fun q71 =>
 wr q71 [(.int .u64 n66), (.int .u64 n67), (.int .u64 n68), (.int .u64 n69)] H64 fun H70 =>
 ptr x2 fun q72 =>
 ∃ n73 n74 n75 n76 : Int, Heap.rd H70 q72 0 [(.int .u64 n73), (.int .u64 n74), (.int .u64 n75), (.int .u64 n76)] ∧ Q (.agg #[(.int .u64 n73), (.int .u64 n74), (.int .u64 n75), (.int .u64 n76)]) H70) E

def zqa2_1_M (Q : QT) (E : ET) (τ : Tau) (H : Heap) : Prop := mP (τ 0) fun x0 => mP (τ 2) fun x2 => mP (τ 3) fun x3 => zqa2_1 Q E x0 x2 x3 H

theorem zqa2_2ok (Q : QT) (E : ET) (τ : Tau) (H : Heap) (h : zqa2_1_M Q E τ H) : vc Pr zqa2_p5 τ (zqa2_q1 Q E) E H :=
  vP (i := 0) h (fun x0 h => vP (i := 2) h (fun x2 h => vP (i := 3) h (fun x3 h => (conv (by kernel_rfl) h))))

@[reducible] noncomputable def zqa2_q2 (Q : QT) (E : ET) : Exit → Tau → Heap → Prop := (xthen (zqa2_1_M Q E) (zqa2_q1 Q E))

@[reducible] noncomputable def zqa2_p6 : Code := sA zqa2_p4

@[reducible] noncomputable def zqa2_p7 : Code := sB zqa2_p6

@[reducible] noncomputable def zqa2_q3 (Q : QT) (E : ET) : Exit → Tau → Heap → Prop := (xblock 0 (zqa2_q2 Q E))

@[reducible] noncomputable def zqa2_p8 : Code := sI zqa2_p7

@[reducible] noncomputable def zqa2_q4 (nx77 : Int → HP) (Q : QT) (E : ET) : Exit → Tau → Heap → Prop := (xthen (fun τ H => mI .i64 (τ 5) fun x5' => nx77 x5' H) (zqa2_q3 Q E))

@[reducible] noncomputable def zqa2_p9 : Code := sI zqa2_p8

@[reducible] noncomputable def zqa2_p10 : Code := sB zqa2_p9

@[reducible] noncomputable def zqa2_p11 : Code := sB zqa2_p10

def zqa2_3 (nx77 : Int → HP) (Q : QT) (E : ET) (x0 : OA) (x2 : OA) (x3 : OA) (x4 : Bool) (x5 : Int) (H : Heap) : Prop :=
 nx77 (IntKind.wrap .i64 (x5 + 1)) H

def zqa2_3_M (nx77 : Int → HP) (Q : QT) (E : ET) (τ : Tau) (H : Heap) : Prop := mP (τ 0) fun x0 => mP (τ 2) fun x2 => mP (τ 3) fun x3 => mB (τ 4) fun x4 => mI .i64 (τ 5) fun x5 => zqa2_3 nx77 Q E x0 x2 x3 x4 x5 H

theorem zqa2_4ok (nx77 : Int → HP) (Q : QT) (E : ET) (τ : Tau) (H : Heap) (h : zqa2_3_M nx77 Q E τ H) : vc Pr zqa2_p11 τ (zqa2_q4 nx77 Q E) E H :=
  vP (i := 0) h (fun x0 h => vP (i := 2) h (fun x2 h => vP (i := 3) h (fun x3 h => vB (i := 4) h (fun x4 h => vI (i := 5) h (fun x5 h => (conv (by kernel_rfl) h))))))

@[reducible] noncomputable def zqa2_q5 (nx77 : Int → HP) (Q : QT) (E : ET) : Exit → Tau → Heap → Prop := (xthen (zqa2_3_M nx77 Q E) (zqa2_q4 nx77 Q E))

@[reducible] noncomputable def zqa2_p12 : Code := sA zqa2_p10

@[reducible] noncomputable def zqa2_q6 (nx77 : Int → HP) (Q : QT) (E : ET) : Exit → Tau → Heap → Prop := (xblock 1 (zqa2_q5 nx77 Q E))

@[reducible] noncomputable def zqa2_p13 : Code := sI zqa2_p12

@[reducible] noncomputable def zqa2_p14 : Code := sB zqa2_p13

def zqa2_5 (nx77 : Int → HP) (Q : QT) (E : ET) (x0 : OA) (x2 : OA) (x3 : OA) (x4 : Bool) (x5 : Int) (H : Heap) : Prop :=
 ∃ Z161 : Nat → Prop,
 (ptr x3 fun ad => Z161 (Addr.block ad)) ∧ ptr x3 fun q162 =>
 ∃ n163 n164 n165 n166 : Int, Heap.rd H q162 0 [(.int .u64 n163), (.int .u64 n164), (.int .u64 n165), (.int .u64 n166)] ∧ Does Pr 118 #[(.pointer x0)] H (fun v167 H168 =>
 ∃ n169 n170 n171 n172 : Int, v167 = (.agg #[(.int .u64 n169), (.int .u64 n170), (.int .u64 n171), (.int .u64 n172)]) ∧ (∀ z, Z161 z → H z ≠ none → H168 z = H z) ∧ Does Pr 117 #[(.agg #[(.int .u64 n163), (.int .u64 n164), (.int .u64 n165), (.int .u64 n166)]), (.agg #[(.int .u64 n169), (.int .u64 n170), (.int .u64 n171), (.int .u64 n172)])] H168 (fun v173 H174 =>
 ∃ n175 n176 n177 n178 : Int, v173 = (.agg #[(.int .u64 n175), (.int .u64 n176), (.int .u64 n177), (.int .u64 n178)]) ∧ ptr x3 fun q180 =>
 wr q180 [(.int .u64 n175), (.int .u64 n176), (.int .u64 n177), (.int .u64 n178)] H174 fun H179 =>
 zqa2_3 nx77 Q E x0 x2 x3 x4 x5 H179) (fun _ _ => False)) (fun _ _ => False)

def zqa2_5_M (nx77 : Int → HP) (Q : QT) (E : ET) (τ : Tau) (H : Heap) : Prop := mP (τ 0) fun x0 => mP (τ 2) fun x2 => mP (τ 3) fun x3 => mB (τ 4) fun x4 => mI .i64 (τ 5) fun x5 => zqa2_5 nx77 Q E x0 x2 x3 x4 x5 H

theorem zqa2_6ok (nx77 : Int → HP) (Q : QT) (E : ET) (τ : Tau) (H : Heap) (h : zqa2_5_M nx77 Q E τ H) : vc Pr zqa2_p14 τ (zqa2_q6 nx77 Q E) E H :=
  vP (i := 0) h (fun x0 h => vP (i := 2) h (fun x2 h => vP (i := 3) h (fun x3 h => vB (i := 4) h (fun x4 h => vI (i := 5) h (fun x5 h => (conv (by kernel_rfl) h))))))

@[reducible] noncomputable def zqa2_q7 (nx77 : Int → HP) (Q : QT) (E : ET) : Exit → Tau → Heap → Prop := (xthen (zqa2_5_M nx77 Q E) (zqa2_q6 nx77 Q E))

@[reducible] noncomputable def zqa2_p15 : Code := sA zqa2_p13

@[reducible] noncomputable def zqa2_p16 : Code := sB zqa2_p15

@[reducible] noncomputable def zqa2_p17 : Code := sT zqa2_p16

@[reducible] noncomputable def zqa2_p18 : Code := sB zqa2_p17

@[reducible] noncomputable def zqa2_p19 : Code := sB zqa2_p18

@[reducible] noncomputable def zqa2_p20 : Code := sB zqa2_p19

def zqa2_7 (nx77 : Int → HP) (Q : QT) (E : ET) (x2 : OA) (x3 : OA) (H : Heap) : Prop :=
 ptr x3 fun q204 =>
 ∃ n205 n206 n207 n208 : Int, Heap.rd H q204 0 [(.int .u64 n205), (.int .u64 n206), (.int .u64 n207), (.int .u64 n208)] ∧ ptr x2 fun q210 =>
 wr q210 [(.int .u64 n205), (.int .u64 n206), (.int .u64 n207), (.int .u64 n208)] H fun H209 =>
 ptr x2 fun q211 =>
 ∃ n212 n213 n214 n215 : Int, Heap.rd H209 q211 0 [(.int .u64 n212), (.int .u64 n213), (.int .u64 n214), (.int .u64 n215)] ∧ Q (.agg #[(.int .u64 n212), (.int .u64 n213), (.int .u64 n214), (.int .u64 n215)]) H209

def zqa2_7_M (nx77 : Int → HP) (Q : QT) (E : ET) (τ : Tau) (H : Heap) : Prop := mP (τ 2) fun x2 => mP (τ 3) fun x3 => zqa2_7 nx77 Q E x2 x3 H

theorem zqa2_8ok (nx77 : Int → HP) (Q : QT) (E : ET) (τ : Tau) (H : Heap) (h : zqa2_7_M nx77 Q E τ H) : vc Pr zqa2_p20 τ (zqa2_q7 nx77 Q E) E H :=
  vP (i := 2) h (fun x2 h => vP (i := 3) h (fun x3 h => (conv (by kernel_rfl) h)))

@[reducible] noncomputable def zqa2_q8 (nx77 : Int → HP) (Q : QT) (E : ET) : Exit → Tau → Heap → Prop := (xthen (zqa2_7_M nx77 Q E) (zqa2_q7 nx77 Q E))

@[reducible] noncomputable def zqa2_p21 : Code := sA zqa2_p19

def zqa2_9 (nx77 : Int → HP) (Q : QT) (E : ET) (x2 : OA) (x3 : OA) (x4 : Bool) (H : Heap) : Prop :=
 sel x4
 (ptr x3 fun q216 =>
 ∃ n217 n218 n219 n220 : Int, Heap.rd H q216 0 [(.int .u64 n217), (.int .u64 n218), (.int .u64 n219), (.int .u64 n220)] ∧ Does Pr 107 #[(.agg #[(.int .u64 n217), (.int .u64 n218), (.int .u64 n219), (.int .u64 n220)])] H (fun v221 H222 =>
 ∃ n223 n224 n225 n226 : Int, v221 = (.agg #[(.int .u64 n223), (.int .u64 n224), (.int .u64 n225), (.int .u64 n226)]) ∧ ptr x2 fun q228 =>
 wr q228 [(.int .u64 n223), (.int .u64 n224), (.int .u64 n225), (.int .u64 n226)] H222 fun H227 =>
 ptr x2 fun q229 =>
 ∃ n230 n231 n232 n233 : Int, Heap.rd H227 q229 0 [(.int .u64 n230), (.int .u64 n231), (.int .u64 n232), (.int .u64 n233)] ∧ Q (.agg #[(.int .u64 n230), (.int .u64 n231), (.int .u64 n232), (.int .u64 n233)]) H227) E)
 (zqa2_7 nx77 Q E x2 x3 H)

def zqa2_9_M (nx77 : Int → HP) (Q : QT) (E : ET) (τ : Tau) (H : Heap) : Prop := mP (τ 2) fun x2 => mP (τ 3) fun x3 => mB (τ 4) fun x4 => zqa2_9 nx77 Q E x2 x3 x4 H

theorem zqa2_10ok (nx77 : Int → HP) (Q : QT) (E : ET) (τ : Tau) (H : Heap) (h : zqa2_9_M nx77 Q E τ H) : vc Pr zqa2_p21 τ (zqa2_q8 nx77 Q E) E H :=
  vP (i := 2) h (fun x2 h => vP (i := 3) h (fun x3 h => vB (i := 4) h (fun x4 h => (conv (by kernel_rfl) h))))

theorem zqa2_11ok (nx77 : Int → HP) (Q : QT) (E : ET) (τ : Tau) (H : Heap) (h : zqa2_9_M nx77 Q E τ H) : vc Pr zqa2_p19 τ (zqa2_q7 nx77 Q E) E H :=
  (conv (B := vc Pr zqa2_p19 τ (zqa2_q7 nx77 Q E) E H) (by kernel_rfl) (vc_seq (K := (zqa2_7_M nx77 Q E)) (zqa2_10ok nx77 Q E τ H h) (zqa2_8ok nx77 Q E)))

@[reducible] noncomputable def zqa2_q9 (nx77 : Int → HP) (Q : QT) (E : ET) : Exit → Tau → Heap → Prop := (xthen (zqa2_9_M nx77 Q E) (zqa2_q7 nx77 Q E))

@[reducible] noncomputable def zqa2_p22 : Code := sA zqa2_p18

def zqa2_12 (nx77 : Int → HP) (Q : QT) (E : ET) (x0 : OA) (x2 : OA) (x3 : OA) (x4 : Bool) (H : Heap) : Prop :=
 ptr x0 fun q234 =>
 ldI .i64 (Addr.add q234 1) H fun n235 =>
 ptr x0 fun q236 =>
 wr (Addr.add q236 1) [(.int .i64 (IntKind.wrap .i64 (n235 + 1)))] H fun H237 =>
 zqa2_9 nx77 Q E x2 x3 x4 H237

def zqa2_12_M (nx77 : Int → HP) (Q : QT) (E : ET) (τ : Tau) (H : Heap) : Prop := mP (τ 0) fun x0 => mP (τ 2) fun x2 => mP (τ 3) fun x3 => mB (τ 4) fun x4 => zqa2_12 nx77 Q E x0 x2 x3 x4 H

theorem zqa2_13ok (nx77 : Int → HP) (Q : QT) (E : ET) (τ : Tau) (H : Heap) (h : zqa2_12_M nx77 Q E τ H) : vc Pr zqa2_p22 τ (zqa2_q9 nx77 Q E) E H :=
  vP (i := 0) h (fun x0 h => vP (i := 2) h (fun x2 h => vP (i := 3) h (fun x3 h => vB (i := 4) h (fun x4 h => (conv (by kernel_rfl) h)))))

theorem zqa2_14ok (nx77 : Int → HP) (Q : QT) (E : ET) (τ : Tau) (H : Heap) (h : zqa2_12_M nx77 Q E τ H) : vc Pr zqa2_p18 τ (zqa2_q7 nx77 Q E) E H :=
  (conv (B := vc Pr zqa2_p18 τ (zqa2_q7 nx77 Q E) E H) (by kernel_rfl) (vc_seq (K := (zqa2_9_M nx77 Q E)) (zqa2_13ok nx77 Q E τ H h) (zqa2_11ok nx77 Q E)))

@[reducible] noncomputable def zqa2_q10 (nx77 : Int → HP) (Q : QT) (E : ET) : Exit → Tau → Heap → Prop := (xthen (zqa2_12_M nx77 Q E) (zqa2_q7 nx77 Q E))

@[reducible] noncomputable def zqa2_p23 : Code := sA zqa2_p17

def zqa2_15 (nx77 : Int → HP) (Q : QT) (E : ET) (x0 : OA) (x2 : OA) (x3 : OA) (x4 : Bool) (x5 : Int) (H : Heap) : Prop :=
 sel ((x5 : Int) == 0)
 (Does Pr 57 #[(.pointer x0), (.int .i64 80)] H (fun v238 H239 =>
 zqa2_12 nx77 Q E x0 x2 x3 x4 H239) E)
 (zqa2_12 nx77 Q E x0 x2 x3 x4 H)

def zqa2_15_M (nx77 : Int → HP) (Q : QT) (E : ET) (τ : Tau) (H : Heap) : Prop := mP (τ 0) fun x0 => mP (τ 2) fun x2 => mP (τ 3) fun x3 => mB (τ 4) fun x4 => mI .i64 (τ 5) fun x5 => zqa2_15 nx77 Q E x0 x2 x3 x4 x5 H

theorem zqa2_16ok (nx77 : Int → HP) (Q : QT) (E : ET) (τ : Tau) (H : Heap) (h : zqa2_15_M nx77 Q E τ H) : vc Pr zqa2_p23 τ (zqa2_q10 nx77 Q E) E H :=
  vP (i := 0) h (fun x0 h => vP (i := 2) h (fun x2 h => vP (i := 3) h (fun x3 h => vB (i := 4) h (fun x4 h => vI (i := 5) h (fun x5 h => (conv (by kernel_rfl) h))))))

theorem zqa2_17ok (nx77 : Int → HP) (Q : QT) (E : ET) (τ : Tau) (H : Heap) (h : zqa2_15_M nx77 Q E τ H) : vc Pr zqa2_p17 τ (zqa2_q7 nx77 Q E) E H :=
  (conv (B := vc Pr zqa2_p17 τ (zqa2_q7 nx77 Q E) E H) (by kernel_rfl) (vc_seq (K := (zqa2_12_M nx77 Q E)) (zqa2_16ok nx77 Q E τ H h) (zqa2_14ok nx77 Q E)))

@[reducible] noncomputable def zqa2_p24 : Code := sE zqa2_p16

def zqa2_18 (nx77 : Int → HP) (Q : QT) (E : ET) (x0 : OA) (x2 : OA) (x3 : OA) (x4 : Bool) (x5 : Int) (H : Heap) : Prop :=
 zqa2_5 nx77 Q E x0 x2 x3 x4 x5 H

def zqa2_18_M (nx77 : Int → HP) (Q : QT) (E : ET) (τ : Tau) (H : Heap) : Prop := mP (τ 0) fun x0 => mP (τ 2) fun x2 => mP (τ 3) fun x3 => mB (τ 4) fun x4 => mI .i64 (τ 5) fun x5 => zqa2_18 nx77 Q E x0 x2 x3 x4 x5 H

theorem zqa2_19ok (nx77 : Int → HP) (Q : QT) (E : ET) (τ : Tau) (H : Heap) (h : zqa2_18_M nx77 Q E τ H) : vc Pr zqa2_p24 τ (zqa2_q7 nx77 Q E) E H :=
  vP (i := 0) h (fun x0 h => vP (i := 2) h (fun x2 h => vP (i := 3) h (fun x3 h => vB (i := 4) h (fun x4 h => vI (i := 5) h (fun x5 h => (conv (by kernel_rfl) h))))))

def zqa2_20 (nx77 : Int → HP) (Q : QT) (E : ET) (x0 : OA) (x2 : OA) (x3 : OA) (x4 : Bool) (x5 : Int) (x41 : Bool) (H : Heap) : Prop :=
 sel x41
 (zqa2_15 nx77 Q E x0 x2 x3 x4 x5 H)
 (zqa2_18 nx77 Q E x0 x2 x3 x4 x5 H)

def zqa2_20_M (nx77 : Int → HP) (Q : QT) (E : ET) (τ : Tau) (H : Heap) : Prop := mP (τ 0) fun x0 => mP (τ 2) fun x2 => mP (τ 3) fun x3 => mB (τ 4) fun x4 => mI .i64 (τ 5) fun x5 => mB (τ 41) fun x41 => zqa2_20 nx77 Q E x0 x2 x3 x4 x5 x41 H

theorem zqa2_21ok (nx77 : Int → HP) (Q : QT) (E : ET) (τ : Tau) (H : Heap) (h : zqa2_20_M nx77 Q E τ H) : vc Pr zqa2_p16 τ (zqa2_q7 nx77 Q E) E H :=
  vP (i := 0) h (fun x0 h => vP (i := 2) h (fun x2 h => vP (i := 3) h (fun x3 h => vB (i := 4) h (fun x4 h => vI (i := 5) h (fun x5 h => vB (i := 41) h (fun x41 h => (conv (B := vc Pr zqa2_p16 (Tau.upd (Tau.upd (Tau.upd (Tau.upd (Tau.upd (Tau.upd τ 0 (.pointer x0)) 2 (.pointer x2)) 3 (.pointer x3)) 4 (.bool x4)) 5 (.int .i64 x5)) 41 (.bool x41)) (zqa2_q7 nx77 Q E) E H) (by kernel_rfl) (sel_map (zqa2_17ok nx77 Q E (Tau.upd (Tau.upd (Tau.upd (Tau.upd (Tau.upd (Tau.upd τ 0 (.pointer x0)) 2 (.pointer x2)) 3 (.pointer x3)) 4 (.bool x4)) 5 (.int .i64 x5)) 41 (.bool x41)) H) (zqa2_19ok nx77 Q E (Tau.upd (Tau.upd (Tau.upd (Tau.upd (Tau.upd (Tau.upd τ 0 (.pointer x0)) 2 (.pointer x2)) 3 (.pointer x3)) 4 (.bool x4)) 5 (.int .i64 x5)) 41 (.bool x41)) H) (conv (B := sel x41 (zqa2_15_M nx77 Q E (Tau.upd (Tau.upd (Tau.upd (Tau.upd (Tau.upd (Tau.upd τ 0 (.pointer x0)) 2 (.pointer x2)) 3 (.pointer x3)) 4 (.bool x4)) 5 (.int .i64 x5)) 41 (.bool x41)) H) (zqa2_18_M nx77 Q E (Tau.upd (Tau.upd (Tau.upd (Tau.upd (Tau.upd (Tau.upd τ 0 (.pointer x0)) 2 (.pointer x2)) 3 (.pointer x3)) 4 (.bool x4)) 5 (.int .i64 x5)) 41 (.bool x41)) H)) (by kernel_rfl) h)))))))))

@[reducible] noncomputable def zqa2_q11 (nx77 : Int → HP) (Q : QT) (E : ET) : Exit → Tau → Heap → Prop := (xthen (zqa2_20_M nx77 Q E) (zqa2_q7 nx77 Q E))

@[reducible] noncomputable def zqa2_p25 : Code := sA zqa2_p15

def zqa2_22 (nx77 : Int → HP) (Q : QT) (E : ET) (x0 : OA) (x2 : OA) (x3 : OA) (x4 : Bool) (x5 : Int) (H : Heap) : Prop :=
 ptr x0 fun q240 =>
 ldS q240 H fun s241 =>
 ptr x0 fun q242 =>
 ldI .i64 (Addr.add q242 1) H fun n243 =>
 (0 ≤ (n243 : Int) ∧ (n243 : Int) < ((ByteArray.size s241 : Nat) : Int)) ∧ zqa2_20 nx77 Q E x0 x2 x3 x4 x5 (((sAt s241 n243) : Int) == 93) H

def zqa2_22_M (nx77 : Int → HP) (Q : QT) (E : ET) (τ : Tau) (H : Heap) : Prop := mP (τ 0) fun x0 => mP (τ 2) fun x2 => mP (τ 3) fun x3 => mB (τ 4) fun x4 => mI .i64 (τ 5) fun x5 => zqa2_22 nx77 Q E x0 x2 x3 x4 x5 H

theorem zqa2_23ok (nx77 : Int → HP) (Q : QT) (E : ET) (τ : Tau) (H : Heap) (h : zqa2_22_M nx77 Q E τ H) : vc Pr zqa2_p25 τ (zqa2_q11 nx77 Q E) E H :=
  vP (i := 0) h (fun x0 h => vP (i := 2) h (fun x2 h => vP (i := 3) h (fun x3 h => vB (i := 4) h (fun x4 h => vI (i := 5) h (fun x5 h => (conv (by kernel_rfl) h))))))

theorem zqa2_24ok (nx77 : Int → HP) (Q : QT) (E : ET) (τ : Tau) (H : Heap) (h : zqa2_22_M nx77 Q E τ H) : vc Pr zqa2_p15 τ (zqa2_q7 nx77 Q E) E H :=
  (conv (B := vc Pr zqa2_p15 τ (zqa2_q7 nx77 Q E) E H) (by kernel_rfl) (vc_seq (K := (zqa2_20_M nx77 Q E)) (zqa2_23ok nx77 Q E τ H h) (zqa2_21ok nx77 Q E)))

theorem zqa2_25ok (nx77 : Int → HP) (Q : QT) (E : ET) (τ : Tau) (H : Heap) (h : zqa2_22_M nx77 Q E τ H) : vc Pr zqa2_p13 τ (zqa2_q6 nx77 Q E) E H :=
  (conv (B := vc Pr zqa2_p13 τ (zqa2_q6 nx77 Q E) E H) (by kernel_rfl) (vc_seq (K := (zqa2_5_M nx77 Q E)) (zqa2_24ok nx77 Q E τ H h) (zqa2_6ok nx77 Q E)))

theorem zqa2_26ok (nx77 : Int → HP) (Q : QT) (E : ET) (τ : Tau) (H : Heap) (h : zqa2_22_M nx77 Q E τ H) : vc Pr zqa2_p12 τ (zqa2_q5 nx77 Q E) E H :=
  (conv (B := vc Pr zqa2_p12 τ (zqa2_q5 nx77 Q E) E H) (by kernel_rfl) (zqa2_25ok nx77 Q E τ H h))

theorem zqa2_27ok (nx77 : Int → HP) (Q : QT) (E : ET) (τ : Tau) (H : Heap) (h : zqa2_22_M nx77 Q E τ H) : vc Pr zqa2_p10 τ (zqa2_q4 nx77 Q E) E H :=
  (conv (B := vc Pr zqa2_p10 τ (zqa2_q4 nx77 Q E) E H) (by kernel_rfl) (vc_seq (K := (zqa2_3_M nx77 Q E)) (zqa2_26ok nx77 Q E τ H h) (zqa2_4ok nx77 Q E)))

@[reducible] noncomputable def zqa2_q12 (nx77 : Int → HP) (Q : QT) (E : ET) : Exit → Tau → Heap → Prop := (xthen (zqa2_22_M nx77 Q E) (zqa2_q4 nx77 Q E))

@[reducible] noncomputable def zqa2_p26 : Code := sA zqa2_p9

def zqa2_28 (nx77 : Int → HP) (Q : QT) (E : ET) (x0 : OA) (x2 : OA) (x3 : OA) (x4 : Bool) (x5 : Int) (H : Heap) : Prop :=
 Does Pr 90 #[(.pointer x0)] H (fun v244 H245 =>
 ∃ b246 : Bool, v244 = (.bool b246) ∧ sel b246
 (zqa2_22 nx77 Q E x0 x2 x3 x4 x5 H245)
 (zqa2_1 Q E x0 x2 x3 H245)) E

def zqa2_28_M (nx77 : Int → HP) (Q : QT) (E : ET) (τ : Tau) (H : Heap) : Prop := mP (τ 0) fun x0 => mP (τ 2) fun x2 => mP (τ 3) fun x3 => mB (τ 4) fun x4 => mI .i64 (τ 5) fun x5 => zqa2_28 nx77 Q E x0 x2 x3 x4 x5 H

theorem zqa2_29ok (nx77 : Int → HP) (Q : QT) (E : ET) (τ : Tau) (H : Heap) (h : zqa2_28_M nx77 Q E τ H) : vc Pr zqa2_p26 τ (zqa2_q12 nx77 Q E) E H :=
  vP (i := 0) h (fun x0 h => vP (i := 2) h (fun x2 h => vP (i := 3) h (fun x3 h => vB (i := 4) h (fun x4 h => vI (i := 5) h (fun x5 h => (conv (by kernel_rfl) h))))))

theorem zqa2_30ok (nx77 : Int → HP) (Q : QT) (E : ET) (τ : Tau) (H : Heap) (h : zqa2_28_M nx77 Q E τ H) : vc Pr zqa2_p9 τ (zqa2_q4 nx77 Q E) E H :=
  (conv (B := vc Pr zqa2_p9 τ (zqa2_q4 nx77 Q E) E H) (by kernel_rfl) (vc_seq (K := (zqa2_22_M nx77 Q E)) (zqa2_29ok nx77 Q E τ H h) (zqa2_27ok nx77 Q E)))

def zqa2_31 (Q : QT) (E : ET) (x0 : OA) (x2 : OA) (x3 : OA) (x4 : Bool) (x5 : Int) (H : Heap) : Prop :=
 ∃ (I : Int → HP) (μ : Int → Heap → Nat), I x5 H ∧ ∀ (x5 : Int) (H : Heap), I x5 H →
 zqa2_28 (fun x5' H1 => I x5' H1 ∧ μ x5' H1 < μ x5 H) Q E x0 x2 x3 x4 x5 H

def zqa2_31_M (Q : QT) (E : ET) (τ : Tau) (H : Heap) : Prop := mP (τ 0) fun x0 => mP (τ 2) fun x2 => mP (τ 3) fun x3 => mB (τ 4) fun x4 => mI .i64 (τ 5) fun x5 => zqa2_31 Q E x0 x2 x3 x4 x5 H

theorem zqa2_32ok (Q : QT) (E : ET) (τ : Tau) (H : Heap) (h : zqa2_31_M Q E τ H) : vc Pr zqa2_p8 τ (zqa2_q3 Q E) E H :=
  vP (i := 0) h (fun x0 h => vP (i := 2) h (fun x2 h => vP (i := 3) h (fun x3 h => vB (i := 4) h (fun x4 h => vI (i := 5) h (fun x5 h => match h with | ⟨I, μ, h0, hr⟩ => (conv (B := vc Pr zqa2_p8 (Tau.upd (Tau.upd (Tau.upd (Tau.upd (Tau.upd τ 0 (.pointer x0)) 2 (.pointer x2)) 3 (.pointer x3)) 4 (.bool x4)) 5 (.int .i64 x5)) (zqa2_q3 Q E) E H) (by kernel_rfl) (vc_loop (c := sI zqa2_p8) (τ := (Tau.upd (Tau.upd (Tau.upd (Tau.upd (Tau.upd τ 0 (.pointer x0)) 2 (.pointer x2)) 3 (.pointer x3)) 4 (.bool x4)) 5 (.int .i64 x5))) [0, 2, 3, 4] (fun τ H => mI .i64 (τ 5) fun x5' => I x5' H) (fun τ H => μ (gI (τ 5)) H) (by kernel_rfl) h0 (fun τ1 H1 hf hI => fix_elim (τ := τ1) (i := 0) (v := (.pointer x0)) (G := fun τ => vc Pr (sI zqa2_p8) τ (xthen (fun τ2 H2 => (mI .i64 (τ2 5) fun x5' => I x5' H2) ∧ μ (gI (τ2 5)) H2 < μ (gI (τ 5)) H1) (zqa2_q3 Q E)) E H1) (hf 0 (by simp)) (fix_elim (τ := (Tau.upd τ1 0 (.pointer x0))) (i := 2) (v := (.pointer x2)) (G := fun τ => vc Pr (sI zqa2_p8) τ (xthen (fun τ2 H2 => (mI .i64 (τ2 5) fun x5' => I x5' H2) ∧ μ (gI (τ2 5)) H2 < μ (gI (τ 5)) H1) (zqa2_q3 Q E)) E H1) (hf 2 (by simp)) (fix_elim (τ := (Tau.upd (Tau.upd τ1 0 (.pointer x0)) 2 (.pointer x2))) (i := 3) (v := (.pointer x3)) (G := fun τ => vc Pr (sI zqa2_p8) τ (xthen (fun τ2 H2 => (mI .i64 (τ2 5) fun x5' => I x5' H2) ∧ μ (gI (τ2 5)) H2 < μ (gI (τ 5)) H1) (zqa2_q3 Q E)) E H1) (hf 3 (by simp)) (fix_elim (τ := (Tau.upd (Tau.upd (Tau.upd τ1 0 (.pointer x0)) 2 (.pointer x2)) 3 (.pointer x3))) (i := 4) (v := (.bool x4)) (G := fun τ => vc Pr (sI zqa2_p8) τ (xthen (fun τ2 H2 => (mI .i64 (τ2 5) fun x5' => I x5' H2) ∧ μ (gI (τ2 5)) H2 < μ (gI (τ 5)) H1) (zqa2_q3 Q E)) E H1) (hf 4 (by simp)) (mI_elim (i := 5) (G := fun τ => vc Pr (sI zqa2_p8) τ (xthen (fun τ2 H2 => (mI .i64 (τ2 5) fun x5' => I x5' H2) ∧ μ (gI (τ2 5)) H2 < μ (gI (τ 5)) H1) (zqa2_q3 Q E)) E H1) hI (fun x5r h => (conv (B := vc Pr (sI zqa2_p8) (Tau.upd (Tau.upd (Tau.upd (Tau.upd (Tau.upd τ1 0 (.pointer x0)) 2 (.pointer x2)) 3 (.pointer x3)) 4 (.bool x4)) 5 (.int .i64 x5r)) (xthen (fun τ2 H2 => (mI .i64 (τ2 5) fun x5' => I x5' H2) ∧ μ (gI (τ2 5)) H2 < μ (gI ((Tau.upd (Tau.upd (Tau.upd (Tau.upd (Tau.upd τ1 0 (.pointer x0)) 2 (.pointer x2)) 3 (.pointer x3)) 4 (.bool x4)) 5 (.int .i64 x5r)) 5)) H1) (zqa2_q3 Q E)) E H1) (by kernel_rfl) (vc_xthen (zqa2_30ok (fun x5' H2 => I x5' H2 ∧ μ x5' H2 < μ x5r H1) Q E (Tau.upd (Tau.upd (Tau.upd (Tau.upd (Tau.upd τ1 0 (.pointer x0)) 2 (.pointer x2)) 3 (.pointer x3)) 4 (.bool x4)) 5 (.int .i64 x5r)) H1 (conv (B := zqa2_28_M (fun x5' H2 => I x5' H2 ∧ μ x5' H2 < μ x5r H1) Q E (Tau.upd (Tau.upd (Tau.upd (Tau.upd (Tau.upd τ1 0 (.pointer x0)) 2 (.pointer x2)) 3 (.pointer x3)) 4 (.bool x4)) 5 (.int .i64 x5r)) H1) (by kernel_rfl) (hr x5r H1 h))) (fun τ2 H2 hk => mI_elim (i := 5) (G := fun τ => (mI .i64 (τ 5) fun x5' => I x5' H2) ∧ μ (gI (τ 5)) H2 < μ x5r H1) hk (fun x5' h => h)))))))))))))))))

theorem zqa2_33ok (Q : QT) (E : ET) (τ : Tau) (H : Heap) (h : zqa2_31_M Q E τ H) : vc Pr zqa2_p7 τ (zqa2_q2 Q E) E H :=
  (conv (B := vc Pr zqa2_p7 τ (zqa2_q2 Q E) E H) (by kernel_rfl) (zqa2_32ok Q E τ H h))

@[reducible] noncomputable def zqa2_q13 (Q : QT) (E : ET) : Exit → Tau → Heap → Prop := (xthen (zqa2_31_M Q E) (zqa2_q2 Q E))

@[reducible] noncomputable def zqa2_p27 : Code := sA zqa2_p6

def zqa2_34 (Q : QT) (E : ET) (x0 : OA) (x2 : OA) (x3 : OA) (x4 : Bool) (H : Heap) : Prop :=
 zqa2_31 Q E x0 x2 x3 x4 0 H

def zqa2_34_M (Q : QT) (E : ET) (τ : Tau) (H : Heap) : Prop := mP (τ 0) fun x0 => mP (τ 2) fun x2 => mP (τ 3) fun x3 => mB (τ 4) fun x4 => zqa2_34 Q E x0 x2 x3 x4 H

theorem zqa2_35ok (Q : QT) (E : ET) (τ : Tau) (H : Heap) (h : zqa2_34_M Q E τ H) : vc Pr zqa2_p27 τ (zqa2_q13 Q E) E H :=
  vP (i := 0) h (fun x0 h => vP (i := 2) h (fun x2 h => vP (i := 3) h (fun x3 h => vB (i := 4) h (fun x4 h => (conv (by kernel_rfl) h)))))

theorem zqa2_36ok (Q : QT) (E : ET) (τ : Tau) (H : Heap) (h : zqa2_34_M Q E τ H) : vc Pr zqa2_p6 τ (zqa2_q2 Q E) E H :=
  (conv (B := vc Pr zqa2_p6 τ (zqa2_q2 Q E) E H) (by kernel_rfl) (vc_seq (K := (zqa2_31_M Q E)) (zqa2_35ok Q E τ H h) (zqa2_33ok Q E)))

theorem zqa2_37ok (Q : QT) (E : ET) (τ : Tau) (H : Heap) (h : zqa2_34_M Q E τ H) : vc Pr zqa2_p4 τ (zqa2_q1 Q E) E H :=
  (conv (B := vc Pr zqa2_p4 τ (zqa2_q1 Q E) E H) (by kernel_rfl) (vc_seq (K := (zqa2_1_M Q E)) (zqa2_36ok Q E τ H h) (zqa2_2ok Q E)))

@[reducible] noncomputable def zqa2_q14 (Q : QT) (E : ET) : Exit → Tau → Heap → Prop := (xthen (zqa2_34_M Q E) (zqa2_q1 Q E))

@[reducible] noncomputable def zqa2_p28 : Code := sA zqa2_p3

def zqa2_38 (Q : QT) (E : ET) (x0 : OA) (x2 : OA) (x3 : OA) (x4 : Bool) (H : Heap) : Prop :=
 sel x4
 (ptr x0 fun q247 =>
 ldI .i64 (Addr.add q247 1) H fun n248 =>
 ptr x0 fun q249 =>
 wr (Addr.add q249 1) [(.int .i64 (IntKind.wrap .i64 (n248 + 1)))] H fun H250 =>
 zqa2_34 Q E x0 x2 x3 x4 H250)
 (zqa2_34 Q E x0 x2 x3 x4 H)

def zqa2_38_M (Q : QT) (E : ET) (τ : Tau) (H : Heap) : Prop := mP (τ 0) fun x0 => mP (τ 2) fun x2 => mP (τ 3) fun x3 => mB (τ 4) fun x4 => zqa2_38 Q E x0 x2 x3 x4 H

theorem zqa2_39ok (Q : QT) (E : ET) (τ : Tau) (H : Heap) (h : zqa2_38_M Q E τ H) : vc Pr zqa2_p28 τ (zqa2_q14 Q E) E H :=
  vP (i := 0) h (fun x0 h => vP (i := 2) h (fun x2 h => vP (i := 3) h (fun x3 h => vB (i := 4) h (fun x4 h => (conv (by kernel_rfl) h)))))

theorem zqa2_40ok (Q : QT) (E : ET) (τ : Tau) (H : Heap) (h : zqa2_38_M Q E τ H) : vc Pr zqa2_p3 τ (zqa2_q1 Q E) E H :=
  (conv (B := vc Pr zqa2_p3 τ (zqa2_q1 Q E) E H) (by kernel_rfl) (vc_seq (K := (zqa2_34_M Q E)) (zqa2_39ok Q E τ H h) (zqa2_37ok Q E)))

@[reducible] noncomputable def zqa2_q15 (Q : QT) (E : ET) : Exit → Tau → Heap → Prop := (xthen (zqa2_38_M Q E) (zqa2_q1 Q E))

@[reducible] noncomputable def zqa2_p29 : Code := sA zqa2_p2

def zqa2_41 (Q : QT) (E : ET) (x0 : OA) (x2 : OA) (x3 : OA) (H : Heap) : Prop :=
 Does Pr 90 #[(.pointer x0)] H (fun v251 H252 =>
 ∃ b253 : Bool, v251 = (.bool b253) ∧ sel b253
 (ptr x0 fun q254 =>
 ldS q254 H252 fun s255 =>
 ptr x0 fun q256 =>
 ldI .i64 (Addr.add q256 1) H252 fun n257 =>
 (0 ≤ (n257 : Int) ∧ (n257 : Int) < ((ByteArray.size s255 : Nat) : Int)) ∧ zqa2_38 Q E x0 x2 x3 (((sAt s255 n257) : Int) == 94) H252)
 (zqa2_38 Q E x0 x2 x3 false H252)) (fun _ _ => False)

def zqa2_41_M (Q : QT) (E : ET) (τ : Tau) (H : Heap) : Prop := mP (τ 0) fun x0 => mP (τ 2) fun x2 => mP (τ 3) fun x3 => zqa2_41 Q E x0 x2 x3 H

theorem zqa2_42ok (Q : QT) (E : ET) (τ : Tau) (H : Heap) (h : zqa2_41_M Q E τ H) : vc Pr zqa2_p29 τ (zqa2_q15 Q E) E H :=
  vP (i := 0) h (fun x0 h => vP (i := 2) h (fun x2 h => vP (i := 3) h (fun x3 h => (conv (by kernel_rfl) h))))

theorem zqa2_43ok (Q : QT) (E : ET) (τ : Tau) (H : Heap) (h : zqa2_41_M Q E τ H) : vc Pr zqa2_p2 τ (zqa2_q1 Q E) E H :=
  (conv (B := vc Pr zqa2_p2 τ (zqa2_q1 Q E) E H) (by kernel_rfl) (vc_seq (K := (zqa2_38_M Q E)) (zqa2_42ok Q E τ H h) (zqa2_40ok Q E)))

@[reducible] noncomputable def zqa2_q16 (Q : QT) (E : ET) : Exit → Tau → Heap → Prop := (xthen (zqa2_41_M Q E) (zqa2_q1 Q E))

@[reducible] noncomputable def zqa2_p30 : Code := sA zqa2_p1

def zqa2_44 (Q : QT) (E : ET) (x0 : OA) (x2 : OA) (H : Heap) : Prop :=
 nw (.cells #[(.int .u64 0), (.int .u64 0), (.int .u64 0), (.int .u64 0)] 46 (0, 0)) H fun i258 H259 =>
 zqa2_41 Q E x0 x2 (some ⟨i258, 0, none⟩) H259

def zqa2_44_M (Q : QT) (E : ET) (τ : Tau) (H : Heap) : Prop := mP (τ 0) fun x0 => mP (τ 2) fun x2 => zqa2_44 Q E x0 x2 H

theorem zqa2_45ok (Q : QT) (E : ET) (τ : Tau) (H : Heap) (h : zqa2_44_M Q E τ H) : vc Pr zqa2_p30 τ (zqa2_q16 Q E) E H :=
  vP (i := 0) h (fun x0 h => vP (i := 2) h (fun x2 h => (conv (by kernel_rfl) h)))

theorem zqa2_46ok (Q : QT) (E : ET) (τ : Tau) (H : Heap) (h : zqa2_44_M Q E τ H) : vc Pr zqa2_p1 τ (zqa2_q1 Q E) E H :=
  (conv (B := vc Pr zqa2_p1 τ (zqa2_q1 Q E) E H) (by kernel_rfl) (vc_seq (K := (zqa2_41_M Q E)) (zqa2_45ok Q E τ H h) (zqa2_43ok Q E)))

@[reducible] noncomputable def zqa2_q17 (Q : QT) (E : ET) : Exit → Tau → Heap → Prop := (xthen (zqa2_44_M Q E) (zqa2_q1 Q E))

@[reducible] noncomputable def zqa2_p31 : Code := sA zqa2_p0

def zqa2 (Q : QT) (E : ET) (a0 : OA) (H : Heap) : Prop :=
 nw (.cells #[(.int .u64 0), (.int .u64 0), (.int .u64 0), (.int .u64 0)] 46 (0, 0)) H fun i260 H261 =>
 zqa2_44 Q E a0 (some ⟨i260, 0, none⟩) H261

theorem zqa2_fn (a0 : OA) (Q : QT) (E : ET) (H : Heap) (h : zqa2 Q E a0 H)   : Does Pr 110 #[(.pointer a0)] H Q E :=
  Fn_of_vc (fn := Try.f110) (c := zqa2_p0) (args := [(.pointer a0)]) mixed (by kernel_rfl) (by kernel_rfl) (by kernel_rfl) (by kernel_rfl) (by kernel_rfl) ((conv (B := vc Pr zqa2_p0 (argT [(.pointer a0)]) (zqa2_q1 Q E) E H) (by kernel_rfl) (vc_seq (K := (zqa2_44_M Q E)) (conv (B := vc Pr zqa2_p31 (argT [(.pointer a0)]) (zqa2_q17 Q E) E H) (by kernel_rfl) h) (zqa2_46ok Q E))))

/-! jobmux/jobmuxref08.named -/
@[reducible] noncomputable def zqb2_q1 (Q : QT) (E : ET) : Exit → Tau → Heap → Prop := (retQ Pr (Try.f116).results.toList Q)

@[reducible] noncomputable def zqb2_p0 : Code := bodyOf Try.f116

@[reducible] noncomputable def zqb2_p1 : Code := sB zqb2_p0

@[reducible] noncomputable def zqb2_p2 : Code := sB zqb2_p1

@[reducible] noncomputable def zqb2_p3 : Code := sB zqb2_p2

def zqb2_1 (Q : QT) (E : ET) (x2 : OA) (H : Heap) : Prop :=
 ptr x2 fun q116 =>
 wr q116 [(.int .u64 0), (.int .u64 0), (.int .u64 0), (.int .u64 0)] H fun H115 =>
 ptr x2 fun q117 =>
 ∃ n118 n119 n120 n121 : Int, Heap.rd H115 q117 0 [(.int .u64 n118), (.int .u64 n119), (.int .u64 n120), (.int .u64 n121)] ∧ Q (.tuple #[(.agg #[(.int .u64 n118), (.int .u64 n119), (.int .u64 n120), (.int .u64 n121)]), (.bool false), (.bool false)]) H115

def zqb2_1_M (Q : QT) (E : ET) (τ : Tau) (H : Heap) : Prop := mP (τ 2) fun x2 => zqb2_1 Q E x2 H

theorem zqb2_2ok (Q : QT) (E : ET) (τ : Tau) (H : Heap) (h : zqb2_1_M Q E τ H) : vc Pr zqb2_p3 τ (zqb2_q1 Q E) E H :=
  vP (i := 2) h (fun x2 h => (conv (by kernel_rfl) h))

@[reducible] noncomputable def zqb2_q2 (Q : QT) (E : ET) : Exit → Tau → Heap → Prop := (xthen (zqb2_1_M Q E) (zqb2_q1 Q E))

@[reducible] noncomputable def zqb2_p4 : Code := sA zqb2_p2

def zqb2_3 (Q : QT) (E : ET) (x0 : Int) (x2 : OA) (H : Heap) : Prop :=
 Does Pr 123 #[(.int .u8 x0)] H (fun v122 H123 =>
 ∃ b124 : Bool, v122 = (.bool b124) ∧ sel b124
 (Does Pr 108 #[(.agg #[(.int .u64 0), (.int .u64 0), (.int .u64 0), (.int .u64 0)]), (.int .u8 x0)] H123 (fun v125 H126 =>
 ∃ n127 n128 n129 n130 : Int, v125 = (.agg #[(.int .u64 n127), (.int .u64 n128), (.int .u64 n129), (.int .u64 n130)]) ∧ ptr x2 fun q132 =>
 wr q132 [(.int .u64 n127), (.int .u64 n128), (.int .u64 n129), (.int .u64 n130)] H126 fun H131 =>
 ptr x2 fun q133 =>
 ∃ n134 n135 n136 n137 : Int, Heap.rd H131 q133 0 [(.int .u64 n134), (.int .u64 n135), (.int .u64 n136), (.int .u64 n137)] ∧ Q (.tuple #[(.agg #[(.int .u64 n134), (.int .u64 n135), (.int .u64 n136), (.int .u64 n137)]), (.bool true), (.bool true)]) H131) E)
 (zqb2_1 Q E x2 H123)) E

def zqb2_3_M (Q : QT) (E : ET) (τ : Tau) (H : Heap) : Prop := mI .u8 (τ 0) fun x0 => mP (τ 2) fun x2 => zqb2_3 Q E x0 x2 H

theorem zqb2_4ok (Q : QT) (E : ET) (τ : Tau) (H : Heap) (h : zqb2_3_M Q E τ H) : vc Pr zqb2_p4 τ (zqb2_q2 Q E) E H :=
  vI (i := 0) h (fun x0 h => vP (i := 2) h (fun x2 h => (conv (by kernel_rfl) h)))

theorem zqb2_5ok (Q : QT) (E : ET) (τ : Tau) (H : Heap) (h : zqb2_3_M Q E τ H) : vc Pr zqb2_p2 τ (zqb2_q1 Q E) E H :=
  (conv (B := vc Pr zqb2_p2 τ (zqb2_q1 Q E) E H) (by kernel_rfl) (vc_seq (K := (zqb2_1_M Q E)) (zqb2_4ok Q E τ H h) (zqb2_2ok Q E)))

@[reducible] noncomputable def zqb2_q3 (Q : QT) (E : ET) : Exit → Tau → Heap → Prop := (xthen (zqb2_3_M Q E) (zqb2_q1 Q E))

@[reducible] noncomputable def zqb2_p5 : Code := sA zqb2_p1

def zqb2_6 (Q : QT) (E : ET) (x0 : Int) (x2 : OA) (H : Heap) : Prop :=
 sel ((x0 : Int) == 110)
 (Does Pr 108 #[(.agg #[(.int .u64 0), (.int .u64 0), (.int .u64 0), (.int .u64 0)]), (.int .u8 10)] H (fun v138 H139 =>
 ∃ n140 n141 n142 n143 : Int, v138 = (.agg #[(.int .u64 n140), (.int .u64 n141), (.int .u64 n142), (.int .u64 n143)]) ∧ ptr x2 fun q145 =>
 wr q145 [(.int .u64 n140), (.int .u64 n141), (.int .u64 n142), (.int .u64 n143)] H139 fun H144 =>
 ptr x2 fun q146 =>
 ∃ n147 n148 n149 n150 : Int, Heap.rd H144 q146 0 [(.int .u64 n147), (.int .u64 n148), (.int .u64 n149), (.int .u64 n150)] ∧ Q (.tuple #[(.agg #[(.int .u64 n147), (.int .u64 n148), (.int .u64 n149), (.int .u64 n150)]), (.bool true), (.bool true)]) H144) E)
 (sel ((x0 : Int) == 116)
 (Does Pr 108 #[(.agg #[(.int .u64 0), (.int .u64 0), (.int .u64 0), (.int .u64 0)]), (.int .u8 9)] H (fun v151 H152 =>
 ∃ n153 n154 n155 n156 : Int, v151 = (.agg #[(.int .u64 n153), (.int .u64 n154), (.int .u64 n155), (.int .u64 n156)]) ∧ ptr x2 fun q158 =>
 wr q158 [(.int .u64 n153), (.int .u64 n154), (.int .u64 n155), (.int .u64 n156)] H152 fun H157 =>
 ptr x2 fun q159 =>
 ∃ n160 n161 n162 n163 : Int, Heap.rd H157 q159 0 [(.int .u64 n160), (.int .u64 n161), (.int .u64 n162), (.int .u64 n163)] ∧ Q (.tuple #[(.agg #[(.int .u64 n160), (.int .u64 n161), (.int .u64 n162), (.int .u64 n163)]), (.bool true), (.bool true)]) H157) E)
 (sel ((x0 : Int) == 114)
 (Does Pr 108 #[(.agg #[(.int .u64 0), (.int .u64 0), (.int .u64 0), (.int .u64 0)]), (.int .u8 13)] H (fun v164 H165 =>
 ∃ n166 n167 n168 n169 : Int, v164 = (.agg #[(.int .u64 n166), (.int .u64 n167), (.int .u64 n168), (.int .u64 n169)]) ∧ ptr x2 fun q171 =>
 wr q171 [(.int .u64 n166), (.int .u64 n167), (.int .u64 n168), (.int .u64 n169)] H165 fun H170 =>
 ptr x2 fun q172 =>
 ∃ n173 n174 n175 n176 : Int, Heap.rd H170 q172 0 [(.int .u64 n173), (.int .u64 n174), (.int .u64 n175), (.int .u64 n176)] ∧ Q (.tuple #[(.agg #[(.int .u64 n173), (.int .u64 n174), (.int .u64 n175), (.int .u64 n176)]), (.bool true), (.bool true)]) H170) E)
 (sel ((x0 : Int) == 100)
 (Does Pr 122 #[(.int .i64 48), (.int .i64 57)] H (fun v177 H178 =>
 ∃ n179 n180 n181 n182 : Int, v177 = (.agg #[(.int .u64 n179), (.int .u64 n180), (.int .u64 n181), (.int .u64 n182)]) ∧ ptr x2 fun q184 =>
 wr q184 [(.int .u64 n179), (.int .u64 n180), (.int .u64 n181), (.int .u64 n182)] H178 fun H183 =>
 ptr x2 fun q185 =>
 ∃ n186 n187 n188 n189 : Int, Heap.rd H183 q185 0 [(.int .u64 n186), (.int .u64 n187), (.int .u64 n188), (.int .u64 n189)] ∧ Q (.tuple #[(.agg #[(.int .u64 n186), (.int .u64 n187), (.int .u64 n188), (.int .u64 n189)]), (.bool false), (.bool true)]) H183) E)
 (sel ((x0 : Int) == 119)
 (Does Pr 122 #[(.int .i64 97), (.int .i64 122)] H (fun v190 H191 =>
 ∃ n192 n193 n194 n195 : Int, v190 = (.agg #[(.int .u64 n192), (.int .u64 n193), (.int .u64 n194), (.int .u64 n195)]) ∧ Does Pr 122 #[(.int .i64 65), (.int .i64 90)] H191 (fun v196 H197 =>
 ∃ n198 n199 n200 n201 : Int, v196 = (.agg #[(.int .u64 n198), (.int .u64 n199), (.int .u64 n200), (.int .u64 n201)]) ∧ Does Pr 117 #[(.agg #[(.int .u64 n192), (.int .u64 n193), (.int .u64 n194), (.int .u64 n195)]), (.agg #[(.int .u64 n198), (.int .u64 n199), (.int .u64 n200), (.int .u64 n201)])] H197 (fun v202 H203 =>
 ∃ n204 n205 n206 n207 : Int, v202 = (.agg #[(.int .u64 n204), (.int .u64 n205), (.int .u64 n206), (.int .u64 n207)]) ∧ Does Pr 122 #[(.int .i64 48), (.int .i64 57)] H203 (fun v208 H209 =>
 ∃ n210 n211 n212 n213 : Int, v208 = (.agg #[(.int .u64 n210), (.int .u64 n211), (.int .u64 n212), (.int .u64 n213)]) ∧ Does Pr 108 #[(.agg #[(.int .u64 0), (.int .u64 0), (.int .u64 0), (.int .u64 0)]), (.int .u8 95)] H209 (fun v214 H215 =>
 ∃ n216 n217 n218 n219 : Int, v214 = (.agg #[(.int .u64 n216), (.int .u64 n217), (.int .u64 n218), (.int .u64 n219)]) ∧ Does Pr 117 #[(.agg #[(.int .u64 n210), (.int .u64 n211), (.int .u64 n212), (.int .u64 n213)]), (.agg #[(.int .u64 n216), (.int .u64 n217), (.int .u64 n218), (.int .u64 n219)])] H215 (fun v220 H221 =>
 ∃ n222 n223 n224 n225 : Int, v220 = (.agg #[(.int .u64 n222), (.int .u64 n223), (.int .u64 n224), (.int .u64 n225)]) ∧ Does Pr 117 #[(.agg #[(.int .u64 n204), (.int .u64 n205), (.int .u64 n206), (.int .u64 n207)]), (.agg #[(.int .u64 n222), (.int .u64 n223), (.int .u64 n224), (.int .u64 n225)])] H221 (fun v226 H227 =>
 ∃ n228 n229 n230 n231 : Int, v226 = (.agg #[(.int .u64 n228), (.int .u64 n229), (.int .u64 n230), (.int .u64 n231)]) ∧ ptr x2 fun q233 =>
 wr q233 [(.int .u64 n228), (.int .u64 n229), (.int .u64 n230), (.int .u64 n231)] H227 fun H232 =>
 ptr x2 fun q234 =>
 ∃ n235 n236 n237 n238 : Int, Heap.rd H232 q234 0 [(.int .u64 n235), (.int .u64 n236), (.int .u64 n237), (.int .u64 n238)] ∧ Q (.tuple #[(.agg #[(.int .u64 n235), (.int .u64 n236), (.int .u64 n237), (.int .u64 n238)]), (.bool false), (.bool true)]) H232) E) E) E) E) E) E) E)
 (sel ((x0 : Int) == 115)
 (Does Pr 108 #[(.agg #[(.int .u64 0), (.int .u64 0), (.int .u64 0), (.int .u64 0)]), (.int .u8 32)] H (fun v239 H240 =>
 ∃ n241 n242 n243 n244 : Int, v239 = (.agg #[(.int .u64 n241), (.int .u64 n242), (.int .u64 n243), (.int .u64 n244)]) ∧ Does Pr 122 #[(.int .i64 9), (.int .i64 10)] H240 (fun v245 H246 =>
 ∃ n247 n248 n249 n250 : Int, v245 = (.agg #[(.int .u64 n247), (.int .u64 n248), (.int .u64 n249), (.int .u64 n250)]) ∧ Does Pr 117 #[(.agg #[(.int .u64 n241), (.int .u64 n242), (.int .u64 n243), (.int .u64 n244)]), (.agg #[(.int .u64 n247), (.int .u64 n248), (.int .u64 n249), (.int .u64 n250)])] H246 (fun v251 H252 =>
 ∃ n253 n254 n255 n256 : Int, v251 = (.agg #[(.int .u64 n253), (.int .u64 n254), (.int .u64 n255), (.int .u64 n256)]) ∧ Does Pr 108 #[(.agg #[(.int .u64 0), (.int .u64 0), (.int .u64 0), (.int .u64 0)]), (.int .u8 13)] H252 (fun v257 H258 =>
 ∃ n259 n260 n261 n262 : Int, v257 = (.agg #[(.int .u64 n259), (.int .u64 n260), (.int .u64 n261), (.int .u64 n262)]) ∧ Does Pr 117 #[(.agg #[(.int .u64 n253), (.int .u64 n254), (.int .u64 n255), (.int .u64 n256)]), (.agg #[(.int .u64 n259), (.int .u64 n260), (.int .u64 n261), (.int .u64 n262)])] H258 (fun v263 H264 =>
 ∃ n265 n266 n267 n268 : Int, v263 = (.agg #[(.int .u64 n265), (.int .u64 n266), (.int .u64 n267), (.int .u64 n268)]) ∧ ptr x2 fun q270 =>
 wr q270 [(.int .u64 n265), (.int .u64 n266), (.int .u64 n267), (.int .u64 n268)] H264 fun H269 =>
 ptr x2 fun q271 =>
 ∃ n272 n273 n274 n275 : Int, Heap.rd H269 q271 0 [(.int .u64 n272), (.int .u64 n273), (.int .u64 n274), (.int .u64 n275)] ∧ Q (.tuple #[(.agg #[(.int .u64 n272), (.int .u64 n273), (.int .u64 n274), (.int .u64 n275)]), (.bool false), (.bool true)]) H269) E) E) E) E) E)
 (zqb2_3 Q E x0 x2 H))))))

def zqb2_6_M (Q : QT) (E : ET) (τ : Tau) (H : Heap) : Prop := mI .u8 (τ 0) fun x0 => mP (τ 2) fun x2 => zqb2_6 Q E x0 x2 H

theorem zqb2_7ok (Q : QT) (E : ET) (τ : Tau) (H : Heap) (h : zqb2_6_M Q E τ H) : vc Pr zqb2_p5 τ (zqb2_q3 Q E) E H :=
  vI (i := 0) h (fun x0 h => vP (i := 2) h (fun x2 h => (conv (by kernel_rfl) h)))

theorem zqb2_8ok (Q : QT) (E : ET) (τ : Tau) (H : Heap) (h : zqb2_6_M Q E τ H) : vc Pr zqb2_p1 τ (zqb2_q1 Q E) E H :=
  (conv (B := vc Pr zqb2_p1 τ (zqb2_q1 Q E) E H) (by kernel_rfl) (vc_seq (K := (zqb2_3_M Q E)) (zqb2_7ok Q E τ H h) (zqb2_5ok Q E)))

@[reducible] noncomputable def zqb2_q4 (Q : QT) (E : ET) : Exit → Tau → Heap → Prop := (xthen (zqb2_6_M Q E) (zqb2_q1 Q E))

@[reducible] noncomputable def zqb2_p6 : Code := sA zqb2_p0

def zqb2 (Q : QT) (E : ET) (a0 : Int) (H : Heap) : Prop :=
 nw (.cells #[(.int .u64 0), (.int .u64 0), (.int .u64 0), (.int .u64 0)] 46 (0, 0)) H fun i276 H277 =>
 zqb2_6 Q E a0 (some ⟨i276, 0, none⟩) H277

theorem zqb2_fn (a0 : Int) (Q : QT) (E : ET) (H : Heap) (h : zqb2 Q E a0 H)   : Does Pr 116 #[(.int .u8 a0)] H Q E :=
  Fn_of_vc (fn := Try.f116) (c := zqb2_p0) (args := [(.int .u8 a0)]) mixed (by kernel_rfl) (by kernel_rfl) (by kernel_rfl) (by kernel_rfl) (by kernel_rfl) ((conv (B := vc Pr zqb2_p0 (argT [(.int .u8 a0)]) (zqb2_q1 Q E) E H) (by kernel_rfl) (vc_seq (K := (zqb2_6_M Q E)) (conv (B := vc Pr zqb2_p6 (argT [(.int .u8 a0)]) (zqb2_q4 Q E) E H) (by kernel_rfl) h) (zqb2_8ok Q E))))

/-! jobmux/jobmuxref08.Union -/
@[reducible] noncomputable def zqc2_q1 (Q : QT) (E : ET) : Exit → Tau → Heap → Prop := (retQ Pr (Try.f117).results.toList Q)

@[reducible] noncomputable def zqc2_p0 : Code := bodyOf Try.f117

@[reducible] noncomputable def zqc2_p1 : Code := sB zqc2_p0

@[reducible] noncomputable def zqc2_p2 : Code := sB zqc2_p1

def zqc2_1 (Q : QT) (E : ET) (x2 : OA) (x4 : OA) (H : Heap) : Prop :=
 ptr x2 fun q10 =>
 ∃ n11 n12 n13 n14 : Int, Heap.rd H q10 0 [(.int .u64 n11), (.int .u64 n12), (.int .u64 n13), (.int .u64 n14)] ∧ ptr x4 fun q16 =>
 wr q16 [(.int .u64 n11), (.int .u64 n12), (.int .u64 n13), (.int .u64 n14)] H fun H15 =>
 ptr x4 fun q17 =>
 ∃ n18 n19 n20 n21 : Int, Heap.rd H15 q17 0 [(.int .u64 n18), (.int .u64 n19), (.int .u64 n20), (.int .u64 n21)] ∧ Q (.agg #[(.int .u64 n18), (.int .u64 n19), (.int .u64 n20), (.int .u64 n21)]) H15

def zqc2_1_M (Q : QT) (E : ET) (τ : Tau) (H : Heap) : Prop := mP (τ 2) fun x2 => mP (τ 4) fun x4 => zqc2_1 Q E x2 x4 H

theorem zqc2_2ok (Q : QT) (E : ET) (τ : Tau) (H : Heap) (h : zqc2_1_M Q E τ H) : vc Pr zqc2_p2 τ (zqc2_q1 Q E) E H :=
  vP (i := 2) h (fun x2 h => vP (i := 4) h (fun x4 h => (conv (by kernel_rfl) h)))

@[reducible] noncomputable def zqc2_q2 (Q : QT) (E : ET) : Exit → Tau → Heap → Prop := (xthen (zqc2_1_M Q E) (zqc2_q1 Q E))

@[reducible] noncomputable def zqc2_p3 : Code := sA zqc2_p1

@[reducible] noncomputable def zqc2_p4 : Code := sB zqc2_p3

@[reducible] noncomputable def zqc2_q3 (Q : QT) (E : ET) : Exit → Tau → Heap → Prop := (xblock 0 (zqc2_q2 Q E))

@[reducible] noncomputable def zqc2_p5 : Code := sI zqc2_p4

@[reducible] noncomputable def zqc2_q4 (nx22 : Int → HP) (Q : QT) (E : ET) : Exit → Tau → Heap → Prop := (xthen (fun τ H => mI .i64 (τ 5) fun x5' => nx22 x5' H) (zqc2_q3 Q E))

@[reducible] noncomputable def zqc2_p6 : Code := sI zqc2_p5

@[reducible] noncomputable def zqc2_p7 : Code := sB zqc2_p6

def zqc2_3 (nx22 : Int → HP) (Q : QT) (E : ET) (x2 : OA) (x3 : OA) (x4 : OA) (x5 : Int) (H : Heap) : Prop :=
 ptr x2 fun q23 =>
 (0 ≤ (x5 : Int) ∧ (x5 : Int) < ((4 : Nat) : Int)) ∧ ldI .u64 (Addr.add q23 ((x5 : Int).toNat * 1)) H fun n24 =>
 ptr x3 fun q25 =>
 (0 ≤ (x5 : Int) ∧ (x5 : Int) < ((4 : Nat) : Int)) ∧ ldI .u64 (Addr.add q25 ((x5 : Int).toNat * 1)) H fun n26 =>
 ptr x2 fun q27 =>
 (0 ≤ (x5 : Int) ∧ (x5 : Int) < ((4 : Nat) : Int)) ∧ wr (Addr.add q27 ((x5 : Int).toNat * 1)) [(.int .u64 (IntKind.wrap .u64 (BitVec.ofInt (IntKind.bits .u64) n24 ||| BitVec.ofInt (IntKind.bits .u64) n26).toNat))] H fun H28 =>
 nx22 (IntKind.wrap .i64 (x5 + 1)) H28

def zqc2_3_M (nx22 : Int → HP) (Q : QT) (E : ET) (τ : Tau) (H : Heap) : Prop := mP (τ 2) fun x2 => mP (τ 3) fun x3 => mP (τ 4) fun x4 => mI .i64 (τ 5) fun x5 => zqc2_3 nx22 Q E x2 x3 x4 x5 H

theorem zqc2_4ok (nx22 : Int → HP) (Q : QT) (E : ET) (τ : Tau) (H : Heap) (h : zqc2_3_M nx22 Q E τ H) : vc Pr zqc2_p7 τ (zqc2_q4 nx22 Q E) E H :=
  vP (i := 2) h (fun x2 h => vP (i := 3) h (fun x3 h => vP (i := 4) h (fun x4 h => vI (i := 5) h (fun x5 h => (conv (by kernel_rfl) h)))))

@[reducible] noncomputable def zqc2_q5 (nx22 : Int → HP) (Q : QT) (E : ET) : Exit → Tau → Heap → Prop := (xthen (zqc2_3_M nx22 Q E) (zqc2_q4 nx22 Q E))

@[reducible] noncomputable def zqc2_p8 : Code := sA zqc2_p6

def zqc2_5 (nx22 : Int → HP) (Q : QT) (E : ET) (x2 : OA) (x3 : OA) (x4 : OA) (x5 : Int) (H : Heap) : Prop :=
 sel (decide ((x5 : Int) < 4))
 (zqc2_3 nx22 Q E x2 x3 x4 x5 H)
 (zqc2_1 Q E x2 x4 H)

def zqc2_5_M (nx22 : Int → HP) (Q : QT) (E : ET) (τ : Tau) (H : Heap) : Prop := mP (τ 2) fun x2 => mP (τ 3) fun x3 => mP (τ 4) fun x4 => mI .i64 (τ 5) fun x5 => zqc2_5 nx22 Q E x2 x3 x4 x5 H

theorem zqc2_6ok (nx22 : Int → HP) (Q : QT) (E : ET) (τ : Tau) (H : Heap) (h : zqc2_5_M nx22 Q E τ H) : vc Pr zqc2_p8 τ (zqc2_q5 nx22 Q E) E H :=
  vP (i := 2) h (fun x2 h => vP (i := 3) h (fun x3 h => vP (i := 4) h (fun x4 h => vI (i := 5) h (fun x5 h => (conv (by kernel_rfl) h)))))

theorem zqc2_7ok (nx22 : Int → HP) (Q : QT) (E : ET) (τ : Tau) (H : Heap) (h : zqc2_5_M nx22 Q E τ H) : vc Pr zqc2_p6 τ (zqc2_q4 nx22 Q E) E H :=
  (conv (B := vc Pr zqc2_p6 τ (zqc2_q4 nx22 Q E) E H) (by kernel_rfl) (vc_seq (K := (zqc2_3_M nx22 Q E)) (zqc2_6ok nx22 Q E τ H h) (zqc2_4ok nx22 Q E)))

def zqc2_8 (Q : QT) (E : ET) (x2 : OA) (x3 : OA) (x4 : OA) (x5 : Int) (H : Heap) : Prop :=
 ∃ (I : Int → HP) (μ : Int → Heap → Nat), I x5 H ∧ ∀ (x5 : Int) (H : Heap), I x5 H →
 zqc2_5 (fun x5' H1 => I x5' H1 ∧ μ x5' H1 < μ x5 H) Q E x2 x3 x4 x5 H

def zqc2_8_M (Q : QT) (E : ET) (τ : Tau) (H : Heap) : Prop := mP (τ 2) fun x2 => mP (τ 3) fun x3 => mP (τ 4) fun x4 => mI .i64 (τ 5) fun x5 => zqc2_8 Q E x2 x3 x4 x5 H

theorem zqc2_9ok (Q : QT) (E : ET) (τ : Tau) (H : Heap) (h : zqc2_8_M Q E τ H) : vc Pr zqc2_p5 τ (zqc2_q3 Q E) E H :=
  vP (i := 2) h (fun x2 h => vP (i := 3) h (fun x3 h => vP (i := 4) h (fun x4 h => vI (i := 5) h (fun x5 h => match h with | ⟨I, μ, h0, hr⟩ => (conv (B := vc Pr zqc2_p5 (Tau.upd (Tau.upd (Tau.upd (Tau.upd τ 2 (.pointer x2)) 3 (.pointer x3)) 4 (.pointer x4)) 5 (.int .i64 x5)) (zqc2_q3 Q E) E H) (by kernel_rfl) (vc_loop (c := sI zqc2_p5) (τ := (Tau.upd (Tau.upd (Tau.upd (Tau.upd τ 2 (.pointer x2)) 3 (.pointer x3)) 4 (.pointer x4)) 5 (.int .i64 x5))) [2, 3, 4] (fun τ H => mI .i64 (τ 5) fun x5' => I x5' H) (fun τ H => μ (gI (τ 5)) H) (by kernel_rfl) h0 (fun τ1 H1 hf hI => fix_elim (τ := τ1) (i := 2) (v := (.pointer x2)) (G := fun τ => vc Pr (sI zqc2_p5) τ (xthen (fun τ2 H2 => (mI .i64 (τ2 5) fun x5' => I x5' H2) ∧ μ (gI (τ2 5)) H2 < μ (gI (τ 5)) H1) (zqc2_q3 Q E)) E H1) (hf 2 (by simp)) (fix_elim (τ := (Tau.upd τ1 2 (.pointer x2))) (i := 3) (v := (.pointer x3)) (G := fun τ => vc Pr (sI zqc2_p5) τ (xthen (fun τ2 H2 => (mI .i64 (τ2 5) fun x5' => I x5' H2) ∧ μ (gI (τ2 5)) H2 < μ (gI (τ 5)) H1) (zqc2_q3 Q E)) E H1) (hf 3 (by simp)) (fix_elim (τ := (Tau.upd (Tau.upd τ1 2 (.pointer x2)) 3 (.pointer x3))) (i := 4) (v := (.pointer x4)) (G := fun τ => vc Pr (sI zqc2_p5) τ (xthen (fun τ2 H2 => (mI .i64 (τ2 5) fun x5' => I x5' H2) ∧ μ (gI (τ2 5)) H2 < μ (gI (τ 5)) H1) (zqc2_q3 Q E)) E H1) (hf 4 (by simp)) (mI_elim (i := 5) (G := fun τ => vc Pr (sI zqc2_p5) τ (xthen (fun τ2 H2 => (mI .i64 (τ2 5) fun x5' => I x5' H2) ∧ μ (gI (τ2 5)) H2 < μ (gI (τ 5)) H1) (zqc2_q3 Q E)) E H1) hI (fun x5r h => (conv (B := vc Pr (sI zqc2_p5) (Tau.upd (Tau.upd (Tau.upd (Tau.upd τ1 2 (.pointer x2)) 3 (.pointer x3)) 4 (.pointer x4)) 5 (.int .i64 x5r)) (xthen (fun τ2 H2 => (mI .i64 (τ2 5) fun x5' => I x5' H2) ∧ μ (gI (τ2 5)) H2 < μ (gI ((Tau.upd (Tau.upd (Tau.upd (Tau.upd τ1 2 (.pointer x2)) 3 (.pointer x3)) 4 (.pointer x4)) 5 (.int .i64 x5r)) 5)) H1) (zqc2_q3 Q E)) E H1) (by kernel_rfl) (vc_xthen (zqc2_7ok (fun x5' H2 => I x5' H2 ∧ μ x5' H2 < μ x5r H1) Q E (Tau.upd (Tau.upd (Tau.upd (Tau.upd τ1 2 (.pointer x2)) 3 (.pointer x3)) 4 (.pointer x4)) 5 (.int .i64 x5r)) H1 (conv (B := zqc2_5_M (fun x5' H2 => I x5' H2 ∧ μ x5' H2 < μ x5r H1) Q E (Tau.upd (Tau.upd (Tau.upd (Tau.upd τ1 2 (.pointer x2)) 3 (.pointer x3)) 4 (.pointer x4)) 5 (.int .i64 x5r)) H1) (by kernel_rfl) (hr x5r H1 h))) (fun τ2 H2 hk => mI_elim (i := 5) (G := fun τ => (mI .i64 (τ 5) fun x5' => I x5' H2) ∧ μ (gI (τ 5)) H2 < μ x5r H1) hk (fun x5' h => h)))))))))))))))

theorem zqc2_10ok (Q : QT) (E : ET) (τ : Tau) (H : Heap) (h : zqc2_8_M Q E τ H) : vc Pr zqc2_p4 τ (zqc2_q2 Q E) E H :=
  (conv (B := vc Pr zqc2_p4 τ (zqc2_q2 Q E) E H) (by kernel_rfl) (zqc2_9ok Q E τ H h))

@[reducible] noncomputable def zqc2_q6 (Q : QT) (E : ET) : Exit → Tau → Heap → Prop := (xthen (zqc2_8_M Q E) (zqc2_q2 Q E))

@[reducible] noncomputable def zqc2_p9 : Code := sA zqc2_p3

def zqc2_11 (Q : QT) (E : ET) (x2 : OA) (x3 : OA) (x4 : OA) (H : Heap) : Prop :=
 zqc2_8 Q E x2 x3 x4 0 H

def zqc2_11_M (Q : QT) (E : ET) (τ : Tau) (H : Heap) : Prop := mP (τ 2) fun x2 => mP (τ 3) fun x3 => mP (τ 4) fun x4 => zqc2_11 Q E x2 x3 x4 H

theorem zqc2_12ok (Q : QT) (E : ET) (τ : Tau) (H : Heap) (h : zqc2_11_M Q E τ H) : vc Pr zqc2_p9 τ (zqc2_q6 Q E) E H :=
  vP (i := 2) h (fun x2 h => vP (i := 3) h (fun x3 h => vP (i := 4) h (fun x4 h => (conv (by kernel_rfl) h))))

theorem zqc2_13ok (Q : QT) (E : ET) (τ : Tau) (H : Heap) (h : zqc2_11_M Q E τ H) : vc Pr zqc2_p3 τ (zqc2_q2 Q E) E H :=
  (conv (B := vc Pr zqc2_p3 τ (zqc2_q2 Q E) E H) (by kernel_rfl) (vc_seq (K := (zqc2_8_M Q E)) (zqc2_12ok Q E τ H h) (zqc2_10ok Q E)))

theorem zqc2_14ok (Q : QT) (E : ET) (τ : Tau) (H : Heap) (h : zqc2_11_M Q E τ H) : vc Pr zqc2_p1 τ (zqc2_q1 Q E) E H :=
  (conv (B := vc Pr zqc2_p1 τ (zqc2_q1 Q E) E H) (by kernel_rfl) (vc_seq (K := (zqc2_1_M Q E)) (zqc2_13ok Q E τ H h) (zqc2_2ok Q E)))

@[reducible] noncomputable def zqc2_q7 (Q : QT) (E : ET) : Exit → Tau → Heap → Prop := (xthen (zqc2_11_M Q E) (zqc2_q1 Q E))

@[reducible] noncomputable def zqc2_p10 : Code := sA zqc2_p0

def zqc2 (Q : QT) (E : ET) (a0_0 : Int) (a0_1 : Int) (a0_2 : Int) (a0_3 : Int) (a1_0 : Int) (a1_1 : Int) (a1_2 : Int) (a1_3 : Int) (H : Heap) : Prop :=
 nw (.cells #[(.int .u64 a0_0), (.int .u64 a0_1), (.int .u64 a0_2), (.int .u64 a0_3)] 46 (0, 0)) H fun i29 H30 =>
 nw (.cells #[(.int .u64 a1_0), (.int .u64 a1_1), (.int .u64 a1_2), (.int .u64 a1_3)] 46 (0, 0)) H30 fun i31 H32 =>
 nw (.cells #[(.int .u64 0), (.int .u64 0), (.int .u64 0), (.int .u64 0)] 46 (0, 0)) H32 fun i33 H34 =>
 zqc2_11 Q E (some ⟨i29, 0, none⟩) (some ⟨i31, 0, none⟩) (some ⟨i33, 0, none⟩) H34

theorem zqc2_fn (a0_0 : Int) (a0_1 : Int) (a0_2 : Int) (a0_3 : Int) (a1_0 : Int) (a1_1 : Int) (a1_2 : Int) (a1_3 : Int) (Q : QT) (E : ET) (H : Heap) (h : zqc2 Q E a0_0 a0_1 a0_2 a0_3 a1_0 a1_1 a1_2 a1_3 H)   : Does Pr 117 #[(.agg #[(.int .u64 a0_0), (.int .u64 a0_1), (.int .u64 a0_2), (.int .u64 a0_3)]), (.agg #[(.int .u64 a1_0), (.int .u64 a1_1), (.int .u64 a1_2), (.int .u64 a1_3)])] H Q E :=
  Fn_of_vc (fn := Try.f117) (c := zqc2_p0) (args := [(.agg #[(.int .u64 a0_0), (.int .u64 a0_1), (.int .u64 a0_2), (.int .u64 a0_3)]), (.agg #[(.int .u64 a1_0), (.int .u64 a1_1), (.int .u64 a1_2), (.int .u64 a1_3)])]) mixed (by kernel_rfl) (by kernel_rfl) (by kernel_rfl) (by kernel_rfl) (by kernel_rfl) ((conv (B := vc Pr zqc2_p0 (argT [(.agg #[(.int .u64 a0_0), (.int .u64 a0_1), (.int .u64 a0_2), (.int .u64 a0_3)]), (.agg #[(.int .u64 a1_0), (.int .u64 a1_1), (.int .u64 a1_2), (.int .u64 a1_3)])]) (zqc2_q1 Q E) E H) (by kernel_rfl) (vc_seq (K := (zqc2_11_M Q E)) (conv (B := vc Pr zqc2_p10 (argT [(.agg #[(.int .u64 a0_0), (.int .u64 a0_1), (.int .u64 a0_2), (.int .u64 a0_3)]), (.agg #[(.int .u64 a1_0), (.int .u64 a1_1), (.int .u64 a1_2), (.int .u64 a1_3)])]) (zqc2_q7 Q E) E H) (by kernel_rfl) h) (zqc2_14ok Q E))))

/-! (*jobmux/jobmuxref08.parser).element -/
@[reducible] noncomputable def zqd2_q1 (Q : QT) (E : ET) : Exit → Tau → Heap → Prop := (retQ Pr (Try.f118).results.toList Q)

@[reducible] noncomputable def zqd2_p0 : Code := bodyOf Try.f118

@[reducible] noncomputable def zqd2_p1 : Code := sB zqd2_p0

@[reducible] noncomputable def zqd2_p2 : Code := sB zqd2_p1

@[reducible] noncomputable def zqd2_p3 : Code := sB zqd2_p2

@[reducible] noncomputable def zqd2_p4 : Code := sB zqd2_p3

@[reducible] noncomputable def zqd2_p5 : Code := sB zqd2_p4

@[reducible] noncomputable def zqd2_p6 : Code := sB zqd2_p5

@[reducible] noncomputable def zqd2_p7 : Code := sB zqd2_p6

def zqd2_1 (Q : QT) (E : ET) (x2 : OA) (x3 : OA) (x5 : OA) (H : Heap) : Prop :=
 ∃ Z69 : Nat → Prop,
 ptr x3 fun q70 =>
 ∃ n71 n72 n73 n74 : Int, Heap.rd H q70 0 [(.int .u64 n71), (.int .u64 n72), (.int .u64 n73), (.int .u64 n74)] ∧ (ptr x5 fun ad => Z69 (Addr.block ad)) ∧ ptr x5 fun q75 =>
 ∃ n76 n77 n78 n79 : Int, Heap.rd H q75 0 [(.int .u64 n76), (.int .u64 n77), (.int .u64 n78), (.int .u64 n79)] ∧ Does Pr 125 #[(.agg #[(.int .u64 n71), (.int .u64 n72), (.int .u64 n73), (.int .u64 n74)])] H (fun v80 H81 =>
 ∃ n82 : Int, v80 = (.int .i64 n82) ∧ (∀ z, Z69 z → H z ≠ none → H81 z = H z) ∧ Does Pr 125 #[(.agg #[(.int .u64 n76), (.int .u64 n77), (.int .u64 n78), (.int .u64 n79)])] H81 (fun v83 H84 =>
 ∃ n85 : Int, v83 = (.int .i64 n85) ∧ Does Pr 122 #[(.int .i64 n82), (.int .i64 n85)] H84 (fun v86 H87 =>
 ∃ n88 n89 n90 n91 : Int, v86 = (.agg #[(.int .u64 n88), (.int .u64 n89), (.int .u64 n90), (.int .u64 n91)]) ∧ ptr x2 fun q93 =>
 wr q93 [(.int .u64 n88), (.int .u64 n89), (.int .u64 n90), (.int .u64 n91)] H87 fun H92 =>
 ptr x2 fun q94 =>
 ∃ n95 n96 n97 n98 : Int, Heap.rd H92 q94 0 [(.int .u64 n95), (.int .u64 n96), (.int .u64 n97), (.int .u64 n98)] ∧ Q (.agg #[(.int .u64 n95), (.int .u64 n96), (.int .u64 n97), (.int .u64 n98)]) H92) (fun _ _ => False)) (fun _ _ => False)) (fun _ _ => False)

def zqd2_1_M (Q : QT) (E : ET) (τ : Tau) (H : Heap) : Prop := mP (τ 2) fun x2 => mP (τ 3) fun x3 => mP (τ 5) fun x5 => zqd2_1 Q E x2 x3 x5 H

theorem zqd2_2ok (Q : QT) (E : ET) (τ : Tau) (H : Heap) (h : zqd2_1_M Q E τ H) : vc Pr zqd2_p7 τ (zqd2_q1 Q E) E H :=
  vP (i := 2) h (fun x2 h => vP (i := 3) h (fun x3 h => vP (i := 5) h (fun x5 h => (conv (by kernel_rfl) h))))

@[reducible] noncomputable def zqd2_q2 (Q : QT) (E : ET) : Exit → Tau → Heap → Prop := (xthen (zqd2_1_M Q E) (zqd2_q1 Q E))

@[reducible] noncomputable def zqd2_p8 : Code := sA zqd2_p6

@[reducible] noncomputable def zqd2_p9 : Code := sB zqd2_p8

def zqd2_3 (Q : QT) (E : ET) (x0 : OA) (x2 : OA) (x3 : OA) (x5 : OA) (x72 : Bool) (H : Heap) : Prop :=
 sel x72
 (Does Pr 57 #[(.pointer x0), (.int .i64 80)] H (fun v116 H117 =>
 zqd2_1 Q E x2 x3 x5 H117) E)
 (zqd2_1 Q E x2 x3 x5 H)

def zqd2_3_M (Q : QT) (E : ET) (τ : Tau) (H : Heap) : Prop := mP (τ 0) fun x0 => mP (τ 2) fun x2 => mP (τ 3) fun x3 => mP (τ 5) fun x5 => mB (τ 72) fun x72 => zqd2_3 Q E x0 x2 x3 x5 x72 H

theorem zqd2_4ok (Q : QT) (E : ET) (τ : Tau) (H : Heap) (h : zqd2_3_M Q E τ H) : vc Pr zqd2_p9 τ (zqd2_q2 Q E) E H :=
  vP (i := 0) h (fun x0 h => vP (i := 2) h (fun x2 h => vP (i := 3) h (fun x3 h => vP (i := 5) h (fun x5 h => vB (i := 72) h (fun x72 h => (conv (by kernel_rfl) h))))))

@[reducible] noncomputable def zqd2_q3 (Q : QT) (E : ET) : Exit → Tau → Heap → Prop := (xthen (zqd2_3_M Q E) (zqd2_q2 Q E))

@[reducible] noncomputable def zqd2_p10 : Code := sA zqd2_p8

def zqd2_5 (Q : QT) (E : ET) (x0 : OA) (x2 : OA) (x3 : OA) (x5 : OA) (x6 : Bool) (H : Heap) : Prop :=
 ∃ Z118 : Nat → Prop,
 ptr x0 fun q119 =>
 ldI .i64 (Addr.add q119 3) H fun n120 =>
 sel ((n120 : Int) == 0)
 (sel (!x6)
 (zqd2_3 Q E x0 x2 x3 x5 true H)
 (ptr x3 fun q121 =>
 ∃ n122 n123 n124 n125 : Int, Heap.rd H q121 0 [(.int .u64 n122), (.int .u64 n123), (.int .u64 n124), (.int .u64 n125)] ∧ (ptr x5 fun ad => Z118 (Addr.block ad)) ∧ ptr x5 fun q126 =>
 ∃ n127 n128 n129 n130 : Int, Heap.rd H q126 0 [(.int .u64 n127), (.int .u64 n128), (.int .u64 n129), (.int .u64 n130)] ∧ Does Pr 125 #[(.agg #[(.int .u64 n122), (.int .u64 n123), (.int .u64 n124), (.int .u64 n125)])] H (fun v131 H132 =>
 ∃ n133 : Int, v131 = (.int .i64 n133) ∧ (∀ z, Z118 z → H z ≠ none → H132 z = H z) ∧ Does Pr 125 #[(.agg #[(.int .u64 n127), (.int .u64 n128), (.int .u64 n129), (.int .u64 n130)])] H132 (fun v134 H135 =>
 ∃ n136 : Int, v134 = (.int .i64 n136) ∧ zqd2_3 Q E x0 x2 x3 x5 (decide ((n133 : Int) > n136)) H135) (fun _ _ => False)) (fun _ _ => False)))
 (zqd2_3 Q E x0 x2 x3 x5 false H)

def zqd2_5_M (Q : QT) (E : ET) (τ : Tau) (H : Heap) : Prop := mP (τ 0) fun x0 => mP (τ 2) fun x2 => mP (τ 3) fun x3 => mP (τ 5) fun x5 => mB (τ 6) fun x6 => zqd2_5 Q E x0 x2 x3 x5 x6 H

theorem zqd2_6ok (Q : QT) (E : ET) (τ : Tau) (H : Heap) (h : zqd2_5_M Q E τ H) : vc Pr zqd2_p10 τ (zqd2_q3 Q E) E H :=
  vP (i := 0) h (fun x0 h => vP (i := 2) h (fun x2 h => vP (i := 3) h (fun x3 h => vP (i := 5) h (fun x5 h => vB (i := 6) h (fun x6 h => (conv (by kernel_rfl) h))))))

theorem zqd2_7ok (Q : QT) (E : ET) (τ : Tau) (H : Heap) (h : zqd2_5_M Q E τ H) : vc Pr zqd2_p8 τ (zqd2_q2 Q E) E H :=
  (conv (B := vc Pr zqd2_p8 τ (zqd2_q2 Q E) E H) (by kernel_rfl) (vc_seq (K := (zqd2_3_M Q E)) (zqd2_6ok Q E τ H h) (zqd2_4ok Q E)))

theorem zqd2_8ok (Q : QT) (E : ET) (τ : Tau) (H : Heap) (h : zqd2_5_M Q E τ H) : vc Pr zqd2_p6 τ (zqd2_q1 Q E) E H :=
  (conv (B := vc Pr zqd2_p6 τ (zqd2_q1 Q E) E H) (by kernel_rfl) (vc_seq (K := (zqd2_1_M Q E)) (zqd2_7ok Q E τ H h) (zqd2_2ok Q E)))

@[reducible] noncomputable def zqd2_q4 (Q : QT) (E : ET) : Exit → Tau → Heap → Prop := (xthen (zqd2_5_M Q E) (zqd2_q1 Q E))

@[reducible] noncomputable def zqd2_p11 : Code := sA zqd2_p5

def zqd2_9 (Q : QT) (E : ET) (x0 : OA) (x2 : OA) (x3 : OA) (H : Heap) : Prop :=
 Does Pr 124 #[(.pointer x0)] H (fun v137 H138 =>
 ∃ n139 n140 n141 n142 : Int, ∃ b143 : Bool, v137 = (.tuple #[(.agg #[(.int .u64 n139), (.int .u64 n140), (.int .u64 n141), (.int .u64 n142)]), (.bool b143)]) ∧ nw (.cells #[(.int .u64 0), (.int .u64 0), (.int .u64 0), (.int .u64 0)] 46 (0, 0)) H138 fun i144 H145 =>
 wr ⟨i144, 0, none⟩ [(.int .u64 n139), (.int .u64 n140), (.int .u64 n141), (.int .u64 n142)] H145 fun H146 =>
 zqd2_5 Q E x0 x2 x3 (some ⟨i144, 0, none⟩) b143 H146) E

def zqd2_9_M (Q : QT) (E : ET) (τ : Tau) (H : Heap) : Prop := mP (τ 0) fun x0 => mP (τ 2) fun x2 => mP (τ 3) fun x3 => zqd2_9 Q E x0 x2 x3 H

theorem zqd2_10ok (Q : QT) (E : ET) (τ : Tau) (H : Heap) (h : zqd2_9_M Q E τ H) : vc Pr zqd2_p11 τ (zqd2_q4 Q E) E H :=
  vP (i := 0) h (fun x0 h => vP (i := 2) h (fun x2 h => vP (i := 3) h (fun x3 h => (conv (by kernel_rfl) h))))

theorem zqd2_11ok (Q : QT) (E : ET) (τ : Tau) (H : Heap) (h : zqd2_9_M Q E τ H) : vc Pr zqd2_p5 τ (zqd2_q1 Q E) E H :=
  (conv (B := vc Pr zqd2_p5 τ (zqd2_q1 Q E) E H) (by kernel_rfl) (vc_seq (K := (zqd2_5_M Q E)) (zqd2_10ok Q E τ H h) (zqd2_8ok Q E)))

@[reducible] noncomputable def zqd2_q5 (Q : QT) (E : ET) : Exit → Tau → Heap → Prop := (xthen (zqd2_9_M Q E) (zqd2_q1 Q E))

@[reducible] noncomputable def zqd2_p12 : Code := sA zqd2_p4

@[reducible] noncomputable def zqd2_p13 : Code := sB zqd2_p12

def zqd2_12 (Q : QT) (E : ET) (x0 : OA) (x2 : OA) (x3 : OA) (x48 : Bool) (H : Heap) : Prop :=
 sel x48
 (Does Pr 57 #[(.pointer x0), (.int .i64 80)] H (fun v151 H152 =>
 ptr x3 fun q153 =>
 ∃ n154 n155 n156 n157 : Int, Heap.rd H152 q153 0 [(.int .u64 n154), (.int .u64 n155), (.int .u64 n156), (.int .u64 n157)] ∧ ptr x2 fun q159 =>
 wr q159 [(.int .u64 n154), (.int .u64 n155), (.int .u64 n156), (.int .u64 n157)] H152 fun H158 =>
 ptr x2 fun q160 =>
 ∃ n161 n162 n163 n164 : Int, Heap.rd H158 q160 0 [(.int .u64 n161), (.int .u64 n162), (.int .u64 n163), (.int .u64 n164)] ∧ Q (.agg #[(.int .u64 n161), (.int .u64 n162), (.int .u64 n163), (.int .u64 n164)]) H158) E)
 (zqd2_9 Q E x0 x2 x3 H)

def zqd2_12_M (Q : QT) (E : ET) (τ : Tau) (H : Heap) : Prop := mP (τ 0) fun x0 => mP (τ 2) fun x2 => mP (τ 3) fun x3 => mB (τ 48) fun x48 => zqd2_12 Q E x0 x2 x3 x48 H

theorem zqd2_13ok (Q : QT) (E : ET) (τ : Tau) (H : Heap) (h : zqd2_12_M Q E τ H) : vc Pr zqd2_p13 τ (zqd2_q5 Q E) E H :=
  vP (i := 0) h (fun x0 h => vP (i := 2) h (fun x2 h => vP (i := 3) h (fun x3 h => vB (i := 48) h (fun x48 h => (conv (by kernel_rfl) h)))))

@[reducible] noncomputable def zqd2_q6 (Q : QT) (E : ET) : Exit → Tau → Heap → Prop := (xthen (zqd2_12_M Q E) (zqd2_q5 Q E))

@[reducible] noncomputable def zqd2_p14 : Code := sA zqd2_p12

def zqd2_14 (Q : QT) (E : ET) (x0 : OA) (x2 : OA) (x3 : OA) (x4 : Bool) (H : Heap) : Prop :=
 sel (!x4)
 (zqd2_12 Q E x0 x2 x3 true H)
 (ptr x0 fun q165 =>
 ldI .i64 (Addr.add q165 1) H fun n166 =>
 ptr x0 fun q167 =>
 ldS q167 H fun s168 =>
 zqd2_12 Q E x0 x2 x3 (decide ((n166 : Int) ≥ ((ByteArray.size s168 : Nat) : Int))) H)

def zqd2_14_M (Q : QT) (E : ET) (τ : Tau) (H : Heap) : Prop := mP (τ 0) fun x0 => mP (τ 2) fun x2 => mP (τ 3) fun x3 => mB (τ 4) fun x4 => zqd2_14 Q E x0 x2 x3 x4 H

theorem zqd2_15ok (Q : QT) (E : ET) (τ : Tau) (H : Heap) (h : zqd2_14_M Q E τ H) : vc Pr zqd2_p14 τ (zqd2_q6 Q E) E H :=
  vP (i := 0) h (fun x0 h => vP (i := 2) h (fun x2 h => vP (i := 3) h (fun x3 h => vB (i := 4) h (fun x4 h => (conv (by kernel_rfl) h)))))

theorem zqd2_16ok (Q : QT) (E : ET) (τ : Tau) (H : Heap) (h : zqd2_14_M Q E τ H) : vc Pr zqd2_p12 τ (zqd2_q5 Q E) E H :=
  (conv (B := vc Pr zqd2_p12 τ (zqd2_q5 Q E) E H) (by kernel_rfl) (vc_seq (K := (zqd2_12_M Q E)) (zqd2_15ok Q E τ H h) (zqd2_13ok Q E)))

theorem zqd2_17ok (Q : QT) (E : ET) (τ : Tau) (H : Heap) (h : zqd2_14_M Q E τ H) : vc Pr zqd2_p4 τ (zqd2_q1 Q E) E H :=
  (conv (B := vc Pr zqd2_p4 τ (zqd2_q1 Q E) E H) (by kernel_rfl) (vc_seq (K := (zqd2_9_M Q E)) (zqd2_16ok Q E τ H h) (zqd2_11ok Q E)))

@[reducible] noncomputable def zqd2_q7 (Q : QT) (E : ET) : Exit → Tau → Heap → Prop := (xthen (zqd2_14_M Q E) (zqd2_q1 Q E))

@[reducible] noncomputable def zqd2_p15 : Code := sA zqd2_p3

def zqd2_18 (Q : QT) (E : ET) (x0 : OA) (x2 : OA) (x3 : OA) (x4 : Bool) (H : Heap) : Prop :=
 ptr x0 fun q169 =>
 ldI .i64 (Addr.add q169 1) H fun n170 =>
 ptr x0 fun q171 =>
 wr (Addr.add q171 1) [(.int .i64 (IntKind.wrap .i64 (n170 + 1)))] H fun H172 =>
 zqd2_14 Q E x0 x2 x3 x4 H172

def zqd2_18_M (Q : QT) (E : ET) (τ : Tau) (H : Heap) : Prop := mP (τ 0) fun x0 => mP (τ 2) fun x2 => mP (τ 3) fun x3 => mB (τ 4) fun x4 => zqd2_18 Q E x0 x2 x3 x4 H

theorem zqd2_19ok (Q : QT) (E : ET) (τ : Tau) (H : Heap) (h : zqd2_18_M Q E τ H) : vc Pr zqd2_p15 τ (zqd2_q7 Q E) E H :=
  vP (i := 0) h (fun x0 h => vP (i := 2) h (fun x2 h => vP (i := 3) h (fun x3 h => vB (i := 4) h (fun x4 h => (conv (by kernel_rfl) h)))))

theorem zqd2_20ok (Q : QT) (E : ET) (τ : Tau) (H : Heap) (h : zqd2_18_M Q E τ H) : vc Pr zqd2_p3 τ (zqd2_q1 Q E) E H :=
  (conv (B := vc Pr zqd2_p3 τ (zqd2_q1 Q E) E H) (by kernel_rfl) (vc_seq (K := (zqd2_14_M Q E)) (zqd2_19ok Q E τ H h) (zqd2_17ok Q E)))

@[reducible] noncomputable def zqd2_q8 (Q : QT) (E : ET) : Exit → Tau → Heap → Prop := (xthen (zqd2_18_M Q E) (zqd2_q1 Q E))

@[reducible] noncomputable def zqd2_p16 : Code := sA zqd2_p2

@[reducible] noncomputable def zqd2_p17 : Code := sB zqd2_p16

def zqd2_21 (Q : QT) (E : ET) (x0 : OA) (x2 : OA) (x3 : OA) (x4 : Bool) (x26 : Bool) (H : Heap) : Prop :=
 sel x26
 (ptr x3 fun q180 =>
 ∃ n181 n182 n183 n184 : Int, Heap.rd H q180 0 [(.int .u64 n181), (.int .u64 n182), (.int .u64 n183), (.int .u64 n184)] ∧ ptr x2 fun q186 =>
 wr q186 [(.int .u64 n181), (.int .u64 n182), (.int .u64 n183), (.int .u64 n184)] H fun H185 =>
 ptr x2 fun q187 =>
 ∃ n188 n189 n190 n191 : Int, Heap.rd H185 q187 0 [(.int .u64 n188), (.int .u64 n189), (.int .u64 n190), (.int .u64 n191)] ∧ Q (.agg #[(.int .u64 n188), (.int .u64 n189), (.int .u64 n190), (.int .u64 n191)]) H185)
 (zqd2_18 Q E x0 x2 x3 x4 H)

def zqd2_21_M (Q : QT) (E : ET) (τ : Tau) (H : Heap) : Prop := mP (τ 0) fun x0 => mP (τ 2) fun x2 => mP (τ 3) fun x3 => mB (τ 4) fun x4 => mB (τ 26) fun x26 => zqd2_21 Q E x0 x2 x3 x4 x26 H

theorem zqd2_22ok (Q : QT) (E : ET) (τ : Tau) (H : Heap) (h : zqd2_21_M Q E τ H) : vc Pr zqd2_p17 τ (zqd2_q8 Q E) E H :=
  vP (i := 0) h (fun x0 h => vP (i := 2) h (fun x2 h => vP (i := 3) h (fun x3 h => vB (i := 4) h (fun x4 h => vB (i := 26) h (fun x26 h => (conv (by kernel_rfl) h))))))

@[reducible] noncomputable def zqd2_q9 (Q : QT) (E : ET) : Exit → Tau → Heap → Prop := (xthen (zqd2_21_M Q E) (zqd2_q8 Q E))

@[reducible] noncomputable def zqd2_p18 : Code := sA zqd2_p16

def zqd2_23 (Q : QT) (E : ET) (x0 : OA) (x2 : OA) (x3 : OA) (x4 : Bool) (H : Heap) : Prop :=
 Does Pr 90 #[(.pointer x0)] H (fun v192 H193 =>
 ∃ b194 : Bool, v192 = (.bool b194) ∧ sel (!b194)
 (zqd2_21 Q E x0 x2 x3 x4 true H193)
 (ptr x0 fun q195 =>
 ldS q195 H193 fun s196 =>
 ptr x0 fun q197 =>
 ldI .i64 (Addr.add q197 1) H193 fun n198 =>
 (0 ≤ (n198 : Int) ∧ (n198 : Int) < ((ByteArray.size s196 : Nat) : Int)) ∧ zqd2_21 Q E x0 x2 x3 x4 (((sAt s196 n198) : Int) != 45) H193)) (fun _ _ => False)

def zqd2_23_M (Q : QT) (E : ET) (τ : Tau) (H : Heap) : Prop := mP (τ 0) fun x0 => mP (τ 2) fun x2 => mP (τ 3) fun x3 => mB (τ 4) fun x4 => zqd2_23 Q E x0 x2 x3 x4 H

theorem zqd2_24ok (Q : QT) (E : ET) (τ : Tau) (H : Heap) (h : zqd2_23_M Q E τ H) : vc Pr zqd2_p18 τ (zqd2_q9 Q E) E H :=
  vP (i := 0) h (fun x0 h => vP (i := 2) h (fun x2 h => vP (i := 3) h (fun x3 h => vB (i := 4) h (fun x4 h => (conv (by kernel_rfl) h)))))

theorem zqd2_25ok (Q : QT) (E : ET) (τ : Tau) (H : Heap) (h : zqd2_23_M Q E τ H) : vc Pr zqd2_p16 τ (zqd2_q8 Q E) E H :=
  (conv (B := vc Pr zqd2_p16 τ (zqd2_q8 Q E) E H) (by kernel_rfl) (vc_seq (K := (zqd2_21_M Q E)) (zqd2_24ok Q E τ H h) (zqd2_22ok Q E)))

theorem zqd2_26ok (Q : QT) (E : ET) (τ : Tau) (H : Heap) (h : zqd2_23_M Q E τ H) : vc Pr zqd2_p2 τ (zqd2_q1 Q E) E H :=
  (conv (B := vc Pr zqd2_p2 τ (zqd2_q1 Q E) E H) (by kernel_rfl) (vc_seq (K := (zqd2_18_M Q E)) (zqd2_25ok Q E τ H h) (zqd2_20ok Q E)))

@[reducible] noncomputable def zqd2_q10 (Q : QT) (E : ET) : Exit → Tau → Heap → Prop := (xthen (zqd2_23_M Q E) (zqd2_q1 Q E))

@[reducible] noncomputable def zqd2_p19 : Code := sA zqd2_p1

def zqd2_27 (Q : QT) (E : ET) (x0 : OA) (x2 : OA) (H : Heap) : Prop :=
 Does Pr 124 #[(.pointer x0)] H (fun v199 H200 =>
 ∃ n201 n202 n203 n204 : Int, ∃ b205 : Bool, v199 = (.tuple #[(.agg #[(.int .u64 n201), (.int .u64 n202), (.int .u64 n203), (.int .u64 n204)]), (.bool b205)]) ∧ nw (.cells #[(.int .u64 0), (.int .u64 0), (.int .u64 0), (.int .u64 0)] 46 (0, 0)) H200 fun i206 H207 =>
 wr ⟨i206, 0, none⟩ [(.int .u64 n201), (.int .u64 n202), (.int .u64 n203), (.int .u64 n204)] H207 fun H208 =>
 zqd2_23 Q E x0 x2 (some ⟨i206, 0, none⟩) b205 H208) E

def zqd2_27_M (Q : QT) (E : ET) (τ : Tau) (H : Heap) : Prop := mP (τ 0) fun x0 => mP (τ 2) fun x2 => zqd2_27 Q E x0 x2 H

theorem zqd2_28ok (Q : QT) (E : ET) (τ : Tau) (H : Heap) (h : zqd2_27_M Q E τ H) : vc Pr zqd2_p19 τ (zqd2_q10 Q E) E H :=
  vP (i := 0) h (fun x0 h => vP (i := 2) h (fun x2 h => (conv (by kernel_rfl) h)))

theorem zqd2_29ok (Q : QT) (E : ET) (τ : Tau) (H : Heap) (h : zqd2_27_M Q E τ H) : vc Pr zqd2_p1 τ (zqd2_q1 Q E) E H :=
  (conv (B := vc Pr zqd2_p1 τ (zqd2_q1 Q E) E H) (by kernel_rfl) (vc_seq (K := (zqd2_23_M Q E)) (zqd2_28ok Q E τ H h) (zqd2_26ok Q E)))

@[reducible] noncomputable def zqd2_q11 (Q : QT) (E : ET) : Exit → Tau → Heap → Prop := (xthen (zqd2_27_M Q E) (zqd2_q1 Q E))

@[reducible] noncomputable def zqd2_p20 : Code := sA zqd2_p0

def zqd2 (Q : QT) (E : ET) (a0 : OA) (H : Heap) : Prop :=
 nw (.cells #[(.int .u64 0), (.int .u64 0), (.int .u64 0), (.int .u64 0)] 46 (0, 0)) H fun i209 H210 =>
 zqd2_27 Q E a0 (some ⟨i209, 0, none⟩) H210

theorem zqd2_fn (a0 : OA) (Q : QT) (E : ET) (H : Heap) (h : zqd2 Q E a0 H)   : Does Pr 118 #[(.pointer a0)] H Q E :=
  Fn_of_vc (fn := Try.f118) (c := zqd2_p0) (args := [(.pointer a0)]) mixed (by kernel_rfl) (by kernel_rfl) (by kernel_rfl) (by kernel_rfl) (by kernel_rfl) ((conv (B := vc Pr zqd2_p0 (argT [(.pointer a0)]) (zqd2_q1 Q E) E H) (by kernel_rfl) (vc_seq (K := (zqd2_27_M Q E)) (conv (B := vc Pr zqd2_p20 (argT [(.pointer a0)]) (zqd2_q11 Q E) E H) (by kernel_rfl) h) (zqd2_29ok Q E))))

/-! jobmux/jobmuxref08.Range -/
@[reducible] noncomputable def zqe2_q1 (Q : QT) (E : ET) : Exit → Tau → Heap → Prop := (retQ Pr (Try.f122).results.toList Q)

@[reducible] noncomputable def zqe2_p0 : Code := bodyOf Try.f122

@[reducible] noncomputable def zqe2_p1 : Code := sB zqe2_p0

@[reducible] noncomputable def zqe2_p2 : Code := sB zqe2_p1

@[reducible] noncomputable def zqe2_p3 : Code := sB zqe2_p2

def zqe2_1 (Q : QT) (E : ET) (x4 : OA) (x5 : OA) (H : Heap) : Prop :=
 ptr x5 fun q16 =>
 ∃ n17 n18 n19 n20 : Int, Heap.rd H q16 0 [(.int .u64 n17), (.int .u64 n18), (.int .u64 n19), (.int .u64 n20)] ∧ ptr x4 fun q22 =>
 wr q22 [(.int .u64 n17), (.int .u64 n18), (.int .u64 n19), (.int .u64 n20)] H fun H21 =>
 ptr x4 fun q23 =>
 ∃ n24 n25 n26 n27 : Int, Heap.rd H21 q23 0 [(.int .u64 n24), (.int .u64 n25), (.int .u64 n26), (.int .u64 n27)] ∧ Q (.agg #[(.int .u64 n24), (.int .u64 n25), (.int .u64 n26), (.int .u64 n27)]) H21

def zqe2_1_M (Q : QT) (E : ET) (τ : Tau) (H : Heap) : Prop := mP (τ 4) fun x4 => mP (τ 5) fun x5 => zqe2_1 Q E x4 x5 H

theorem zqe2_2ok (Q : QT) (E : ET) (τ : Tau) (H : Heap) (h : zqe2_1_M Q E τ H) : vc Pr zqe2_p3 τ (zqe2_q1 Q E) E H :=
  vP (i := 4) h (fun x4 h => vP (i := 5) h (fun x5 h => (conv (by kernel_rfl) h)))

@[reducible] noncomputable def zqe2_q2 (Q : QT) (E : ET) : Exit → Tau → Heap → Prop := (xthen (zqe2_1_M Q E) (zqe2_q1 Q E))

@[reducible] noncomputable def zqe2_p4 : Code := sA zqe2_p2

@[reducible] noncomputable def zqe2_p5 : Code := sB zqe2_p4

@[reducible] noncomputable def zqe2_q3 (Q : QT) (E : ET) : Exit → Tau → Heap → Prop := (xblock 0 (zqe2_q2 Q E))

@[reducible] noncomputable def zqe2_p6 : Code := sI zqe2_p5

@[reducible] noncomputable def zqe2_q4 (nx28 : Int → HP) (Q : QT) (E : ET) : Exit → Tau → Heap → Prop := (xthen (fun τ H => mI .i64 (τ 6) fun x6' => nx28 x6' H) (zqe2_q3 Q E))

@[reducible] noncomputable def zqe2_p7 : Code := sI zqe2_p6

@[reducible] noncomputable def zqe2_p8 : Code := sB zqe2_p7

def zqe2_3 (nx28 : Int → HP) (Q : QT) (E : ET) (x1 : Int) (x4 : OA) (x5 : OA) (x6 : Int) (H : Heap) : Prop :=
 ptr x5 fun q29 =>
 ∃ n30 n31 n32 n33 : Int, Heap.rd H q29 0 [(.int .u64 n30), (.int .u64 n31), (.int .u64 n32), (.int .u64 n33)] ∧ Does Pr 108 #[(.agg #[(.int .u64 n30), (.int .u64 n31), (.int .u64 n32), (.int .u64 n33)]), (.int .u8 (IntKind.wrap .u8 x6))] H (fun v34 H35 =>
 ∃ n36 n37 n38 n39 : Int, v34 = (.agg #[(.int .u64 n36), (.int .u64 n37), (.int .u64 n38), (.int .u64 n39)]) ∧ ptr x5 fun q41 =>
 wr q41 [(.int .u64 n36), (.int .u64 n37), (.int .u64 n38), (.int .u64 n39)] H35 fun H40 =>
 nx28 (IntKind.wrap .i64 (x6 + 1)) H40) E

def zqe2_3_M (nx28 : Int → HP) (Q : QT) (E : ET) (τ : Tau) (H : Heap) : Prop := mI .i64 (τ 1) fun x1 => mP (τ 4) fun x4 => mP (τ 5) fun x5 => mI .i64 (τ 6) fun x6 => zqe2_3 nx28 Q E x1 x4 x5 x6 H

theorem zqe2_4ok (nx28 : Int → HP) (Q : QT) (E : ET) (τ : Tau) (H : Heap) (h : zqe2_3_M nx28 Q E τ H) : vc Pr zqe2_p8 τ (zqe2_q4 nx28 Q E) E H :=
  vI (i := 1) h (fun x1 h => vP (i := 4) h (fun x4 h => vP (i := 5) h (fun x5 h => vI (i := 6) h (fun x6 h => (conv (by kernel_rfl) h)))))

@[reducible] noncomputable def zqe2_q5 (nx28 : Int → HP) (Q : QT) (E : ET) : Exit → Tau → Heap → Prop := (xthen (zqe2_3_M nx28 Q E) (zqe2_q4 nx28 Q E))

@[reducible] noncomputable def zqe2_p9 : Code := sA zqe2_p7

def zqe2_5 (nx28 : Int → HP) (Q : QT) (E : ET) (x1 : Int) (x4 : OA) (x5 : OA) (x6 : Int) (H : Heap) : Prop :=
 sel (decide ((x6 : Int) ≤ x1))
 (zqe2_3 nx28 Q E x1 x4 x5 x6 H)
 (zqe2_1 Q E x4 x5 H)

def zqe2_5_M (nx28 : Int → HP) (Q : QT) (E : ET) (τ : Tau) (H : Heap) : Prop := mI .i64 (τ 1) fun x1 => mP (τ 4) fun x4 => mP (τ 5) fun x5 => mI .i64 (τ 6) fun x6 => zqe2_5 nx28 Q E x1 x4 x5 x6 H

theorem zqe2_6ok (nx28 : Int → HP) (Q : QT) (E : ET) (τ : Tau) (H : Heap) (h : zqe2_5_M nx28 Q E τ H) : vc Pr zqe2_p9 τ (zqe2_q5 nx28 Q E) E H :=
  vI (i := 1) h (fun x1 h => vP (i := 4) h (fun x4 h => vP (i := 5) h (fun x5 h => vI (i := 6) h (fun x6 h => (conv (by kernel_rfl) h)))))

theorem zqe2_7ok (nx28 : Int → HP) (Q : QT) (E : ET) (τ : Tau) (H : Heap) (h : zqe2_5_M nx28 Q E τ H) : vc Pr zqe2_p7 τ (zqe2_q4 nx28 Q E) E H :=
  (conv (B := vc Pr zqe2_p7 τ (zqe2_q4 nx28 Q E) E H) (by kernel_rfl) (vc_seq (K := (zqe2_3_M nx28 Q E)) (zqe2_6ok nx28 Q E τ H h) (zqe2_4ok nx28 Q E)))

def zqe2_8 (Q : QT) (E : ET) (x1 : Int) (x4 : OA) (x5 : OA) (x6 : Int) (H : Heap) : Prop :=
 ∃ (I : Int → HP) (μ : Int → Heap → Nat), I x6 H ∧ ∀ (x6 : Int) (H : Heap), I x6 H →
 zqe2_5 (fun x6' H1 => I x6' H1 ∧ μ x6' H1 < μ x6 H) Q E x1 x4 x5 x6 H

def zqe2_8_M (Q : QT) (E : ET) (τ : Tau) (H : Heap) : Prop := mI .i64 (τ 1) fun x1 => mP (τ 4) fun x4 => mP (τ 5) fun x5 => mI .i64 (τ 6) fun x6 => zqe2_8 Q E x1 x4 x5 x6 H

theorem zqe2_9ok (Q : QT) (E : ET) (τ : Tau) (H : Heap) (h : zqe2_8_M Q E τ H) : vc Pr zqe2_p6 τ (zqe2_q3 Q E) E H :=
  vI (i := 1) h (fun x1 h => vP (i := 4) h (fun x4 h => vP (i := 5) h (fun x5 h => vI (i := 6) h (fun x6 h => match h with | ⟨I, μ, h0, hr⟩ => (conv (B := vc Pr zqe2_p6 (Tau.upd (Tau.upd (Tau.upd (Tau.upd τ 1 (.int .i64 x1)) 4 (.pointer x4)) 5 (.pointer x5)) 6 (.int .i64 x6)) (zqe2_q3 Q E) E H) (by kernel_rfl) (vc_loop (c := sI zqe2_p6) (τ := (Tau.upd (Tau.upd (Tau.upd (Tau.upd τ 1 (.int .i64 x1)) 4 (.pointer x4)) 5 (.pointer x5)) 6 (.int .i64 x6))) [1, 4, 5] (fun τ H => mI .i64 (τ 6) fun x6' => I x6' H) (fun τ H => μ (gI (τ 6)) H) (by kernel_rfl) h0 (fun τ1 H1 hf hI => fix_elim (τ := τ1) (i := 1) (v := (.int .i64 x1)) (G := fun τ => vc Pr (sI zqe2_p6) τ (xthen (fun τ2 H2 => (mI .i64 (τ2 6) fun x6' => I x6' H2) ∧ μ (gI (τ2 6)) H2 < μ (gI (τ 6)) H1) (zqe2_q3 Q E)) E H1) (hf 1 (by simp)) (fix_elim (τ := (Tau.upd τ1 1 (.int .i64 x1))) (i := 4) (v := (.pointer x4)) (G := fun τ => vc Pr (sI zqe2_p6) τ (xthen (fun τ2 H2 => (mI .i64 (τ2 6) fun x6' => I x6' H2) ∧ μ (gI (τ2 6)) H2 < μ (gI (τ 6)) H1) (zqe2_q3 Q E)) E H1) (hf 4 (by simp)) (fix_elim (τ := (Tau.upd (Tau.upd τ1 1 (.int .i64 x1)) 4 (.pointer x4))) (i := 5) (v := (.pointer x5)) (G := fun τ => vc Pr (sI zqe2_p6) τ (xthen (fun τ2 H2 => (mI .i64 (τ2 6) fun x6' => I x6' H2) ∧ μ (gI (τ2 6)) H2 < μ (gI (τ 6)) H1) (zqe2_q3 Q E)) E H1) (hf 5 (by simp)) (mI_elim (i := 6) (G := fun τ => vc Pr (sI zqe2_p6) τ (xthen (fun τ2 H2 => (mI .i64 (τ2 6) fun x6' => I x6' H2) ∧ μ (gI (τ2 6)) H2 < μ (gI (τ 6)) H1) (zqe2_q3 Q E)) E H1) hI (fun x6r h => (conv (B := vc Pr (sI zqe2_p6) (Tau.upd (Tau.upd (Tau.upd (Tau.upd τ1 1 (.int .i64 x1)) 4 (.pointer x4)) 5 (.pointer x5)) 6 (.int .i64 x6r)) (xthen (fun τ2 H2 => (mI .i64 (τ2 6) fun x6' => I x6' H2) ∧ μ (gI (τ2 6)) H2 < μ (gI ((Tau.upd (Tau.upd (Tau.upd (Tau.upd τ1 1 (.int .i64 x1)) 4 (.pointer x4)) 5 (.pointer x5)) 6 (.int .i64 x6r)) 6)) H1) (zqe2_q3 Q E)) E H1) (by kernel_rfl) (vc_xthen (zqe2_7ok (fun x6' H2 => I x6' H2 ∧ μ x6' H2 < μ x6r H1) Q E (Tau.upd (Tau.upd (Tau.upd (Tau.upd τ1 1 (.int .i64 x1)) 4 (.pointer x4)) 5 (.pointer x5)) 6 (.int .i64 x6r)) H1 (conv (B := zqe2_5_M (fun x6' H2 => I x6' H2 ∧ μ x6' H2 < μ x6r H1) Q E (Tau.upd (Tau.upd (Tau.upd (Tau.upd τ1 1 (.int .i64 x1)) 4 (.pointer x4)) 5 (.pointer x5)) 6 (.int .i64 x6r)) H1) (by kernel_rfl) (hr x6r H1 h))) (fun τ2 H2 hk => mI_elim (i := 6) (G := fun τ => (mI .i64 (τ 6) fun x6' => I x6' H2) ∧ μ (gI (τ 6)) H2 < μ x6r H1) hk (fun x6' h => h)))))))))))))))

theorem zqe2_10ok (Q : QT) (E : ET) (τ : Tau) (H : Heap) (h : zqe2_8_M Q E τ H) : vc Pr zqe2_p5 τ (zqe2_q2 Q E) E H :=
  (conv (B := vc Pr zqe2_p5 τ (zqe2_q2 Q E) E H) (by kernel_rfl) (zqe2_9ok Q E τ H h))

@[reducible] noncomputable def zqe2_q6 (Q : QT) (E : ET) : Exit → Tau → Heap → Prop := (xthen (zqe2_8_M Q E) (zqe2_q2 Q E))

@[reducible] noncomputable def zqe2_p10 : Code := sA zqe2_p4

def zqe2_11 (Q : QT) (E : ET) (x0 : Int) (x1 : Int) (x4 : OA) (x5 : OA) (H : Heap) : Prop :=
 zqe2_8 Q E x1 x4 x5 x0 H

def zqe2_11_M (Q : QT) (E : ET) (τ : Tau) (H : Heap) : Prop := mI .i64 (τ 0) fun x0 => mI .i64 (τ 1) fun x1 => mP (τ 4) fun x4 => mP (τ 5) fun x5 => zqe2_11 Q E x0 x1 x4 x5 H

theorem zqe2_12ok (Q : QT) (E : ET) (τ : Tau) (H : Heap) (h : zqe2_11_M Q E τ H) : vc Pr zqe2_p10 τ (zqe2_q6 Q E) E H :=
  vI (i := 0) h (fun x0 h => vI (i := 1) h (fun x1 h => vP (i := 4) h (fun x4 h => vP (i := 5) h (fun x5 h => (conv (by kernel_rfl) h)))))

theorem zqe2_13ok (Q : QT) (E : ET) (τ : Tau) (H : Heap) (h : zqe2_11_M Q E τ H) : vc Pr zqe2_p4 τ (zqe2_q2 Q E) E H :=
  (conv (B := vc Pr zqe2_p4 τ (zqe2_q2 Q E) E H) (by kernel_rfl) (vc_seq (K := (zqe2_8_M Q E)) (zqe2_12ok Q E τ H h) (zqe2_10ok Q E)))

theorem zqe2_14ok (Q : QT) (E : ET) (τ : Tau) (H : Heap) (h : zqe2_11_M Q E τ H) : vc Pr zqe2_p2 τ (zqe2_q1 Q E) E H :=
  (conv (B := vc Pr zqe2_p2 τ (zqe2_q1 Q E) E H) (by kernel_rfl) (vc_seq (K := (zqe2_1_M Q E)) (zqe2_13ok Q E τ H h) (zqe2_2ok Q E)))

@[reducible] noncomputable def zqe2_q7 (Q : QT) (E : ET) : Exit → Tau → Heap → Prop := (xthen (zqe2_11_M Q E) (zqe2_q1 Q E))

@[reducible] noncomputable def zqe2_p11 : Code := sA zqe2_p1

def zqe2_15 (Q : QT) (E : ET) (x0 : Int) (x1 : Int) (x4 : OA) (H : Heap) : Prop :=
 nw (.cells #[(.int .u64 0), (.int .u64 0), (.int .u64 0), (.int .u64 0)] 46 (0, 0)) H fun i42 H43 =>
 zqe2_11 Q E x0 x1 x4 (some ⟨i42, 0, none⟩) H43

def zqe2_15_M (Q : QT) (E : ET) (τ : Tau) (H : Heap) : Prop := mI .i64 (τ 0) fun x0 => mI .i64 (τ 1) fun x1 => mP (τ 4) fun x4 => zqe2_15 Q E x0 x1 x4 H

theorem zqe2_16ok (Q : QT) (E : ET) (τ : Tau) (H : Heap) (h : zqe2_15_M Q E τ H) : vc Pr zqe2_p11 τ (zqe2_q7 Q E) E H :=
  vI (i := 0) h (fun x0 h => vI (i := 1) h (fun x1 h => vP (i := 4) h (fun x4 h => (conv (by kernel_rfl) h))))

theorem zqe2_17ok (Q : QT) (E : ET) (τ : Tau) (H : Heap) (h : zqe2_15_M Q E τ H) : vc Pr zqe2_p1 τ (zqe2_q1 Q E) E H :=
  (conv (B := vc Pr zqe2_p1 τ (zqe2_q1 Q E) E H) (by kernel_rfl) (vc_seq (K := (zqe2_11_M Q E)) (zqe2_16ok Q E τ H h) (zqe2_14ok Q E)))

@[reducible] noncomputable def zqe2_q8 (Q : QT) (E : ET) : Exit → Tau → Heap → Prop := (xthen (zqe2_15_M Q E) (zqe2_q1 Q E))

@[reducible] noncomputable def zqe2_p12 : Code := sA zqe2_p0

def zqe2 (Q : QT) (E : ET) (a0 : Int) (a1 : Int) (H : Heap) : Prop :=
 nw (.cells #[(.int .u64 0), (.int .u64 0), (.int .u64 0), (.int .u64 0)] 46 (0, 0)) H fun i44 H45 =>
 zqe2_15 Q E a0 a1 (some ⟨i44, 0, none⟩) H45

theorem zqe2_fn (a0 : Int) (a1 : Int) (Q : QT) (E : ET) (H : Heap) (h : zqe2 Q E a0 a1 H)   : Does Pr 122 #[(.int .i64 a0), (.int .i64 a1)] H Q E :=
  Fn_of_vc (fn := Try.f122) (c := zqe2_p0) (args := [(.int .i64 a0), (.int .i64 a1)]) mixed (by kernel_rfl) (by kernel_rfl) (by kernel_rfl) (by kernel_rfl) (by kernel_rfl) ((conv (B := vc Pr zqe2_p0 (argT [(.int .i64 a0), (.int .i64 a1)]) (zqe2_q1 Q E) E H) (by kernel_rfl) (vc_seq (K := (zqe2_15_M Q E)) (conv (B := vc Pr zqe2_p12 (argT [(.int .i64 a0), (.int .i64 a1)]) (zqe2_q8 Q E) E H) (by kernel_rfl) h) (zqe2_17ok Q E))))

/-! jobmux/jobmuxref08.mark -/
@[reducible] noncomputable def zqf2_q1 (Q : QT) (E : ET) : Exit → Tau → Heap → Prop := (retQ Pr (Try.f123).results.toList Q)

@[reducible] noncomputable def zqf2_p0 : Code := bodyOf Try.f123

def zqf2 (Q : QT) (E : ET) (a0 : Int) (H : Heap) : Prop :=
 sel (decide ((a0 : Int) ≥ 33))
 (sel (decide ((a0 : Int) ≤ 47))
 (Q (.bool true) H)
 (sel (decide ((a0 : Int) ≥ 58))
 (sel (decide ((a0 : Int) ≤ 64))
 (Q (.bool true) H)
 (sel (decide ((a0 : Int) ≥ 91))
 (sel (decide ((a0 : Int) ≤ 96))
 (Q (.bool true) H)
 (sel (decide ((a0 : Int) ≥ 123))
 (Q (.bool (decide ((a0 : Int) ≤ 126))) H)
 (Q (.bool false) H)))
 (sel (decide ((a0 : Int) ≥ 123))
 (Q (.bool (decide ((a0 : Int) ≤ 126))) H)
 (Q (.bool false) H))))
 (sel (decide ((a0 : Int) ≥ 91))
 (sel (decide ((a0 : Int) ≤ 96))
 (Q (.bool true) H)
 (sel (decide ((a0 : Int) ≥ 123))
 (Q (.bool (decide ((a0 : Int) ≤ 126))) H)
 (Q (.bool false) H)))
 (sel (decide ((a0 : Int) ≥ 123))
 (Q (.bool (decide ((a0 : Int) ≤ 126))) H)
 (Q (.bool false) H)))))
 (sel (decide ((a0 : Int) ≥ 58))
 (sel (decide ((a0 : Int) ≤ 64))
 (Q (.bool true) H)
 (sel (decide ((a0 : Int) ≥ 91))
 (sel (decide ((a0 : Int) ≤ 96))
 (Q (.bool true) H)
 (sel (decide ((a0 : Int) ≥ 123))
 (Q (.bool (decide ((a0 : Int) ≤ 126))) H)
 (Q (.bool false) H)))
 (sel (decide ((a0 : Int) ≥ 123))
 (Q (.bool (decide ((a0 : Int) ≤ 126))) H)
 (Q (.bool false) H))))
 (sel (decide ((a0 : Int) ≥ 91))
 (sel (decide ((a0 : Int) ≤ 96))
 (Q (.bool true) H)
 (sel (decide ((a0 : Int) ≥ 123))
 (Q (.bool (decide ((a0 : Int) ≤ 126))) H)
 (Q (.bool false) H)))
 (sel (decide ((a0 : Int) ≥ 123))
 (Q (.bool (decide ((a0 : Int) ≤ 126))) H)
 (Q (.bool false) H))))

theorem zqf2_fn (a0 : Int) (Q : QT) (E : ET) (H : Heap) (h : zqf2 Q E a0 H)   : Does Pr 123 #[(.int .u8 a0)] H Q E :=
  Fn_of_vc (fn := Try.f123) (c := zqf2_p0) (args := [(.int .u8 a0)]) mixed (by kernel_rfl) (by kernel_rfl) (by kernel_rfl) (by kernel_rfl) (by kernel_rfl) ((conv (B := vc Pr zqf2_p0 (argT [(.int .u8 a0)]) (zqf2_q1 Q E) E H) (by kernel_rfl) h))

/-! (*jobmux/jobmuxref08.parser).single -/
@[reducible] noncomputable def zqg2_q1 (Q : QT) (E : ET) : Exit → Tau → Heap → Prop := (retQ Pr (Try.f124).results.toList Q)

@[reducible] noncomputable def zqg2_p0 : Code := bodyOf Try.f124

@[reducible] noncomputable def zqg2_p1 : Code := sB zqg2_p0

@[reducible] noncomputable def zqg2_p2 : Code := sB zqg2_p1

@[reducible] noncomputable def zqg2_p3 : Code := sB zqg2_p2

@[reducible] noncomputable def zqg2_p4 : Code := sB zqg2_p3

def zqg2_1 (Q : QT) (E : ET) (x2 : OA) (x4 : Int) (H : Heap) : Prop :=
 Does Pr 108 #[(.agg #[(.int .u64 0), (.int .u64 0), (.int .u64 0), (.int .u64 0)]), (.int .u8 x4)] H (fun v22 H23 =>
 ∃ n24 n25 n26 n27 : Int, v22 = (.agg #[(.int .u64 n24), (.int .u64 n25), (.int .u64 n26), (.int .u64 n27)]) ∧ ptr x2 fun q29 =>
 wr q29 [(.int .u64 n24), (.int .u64 n25), (.int .u64 n26), (.int .u64 n27)] H23 fun H28 =>
 ptr x2 fun q30 =>
 ∃ n31 n32 n33 n34 : Int, Heap.rd H28 q30 0 [(.int .u64 n31), (.int .u64 n32), (.int .u64 n33), (.int .u64 n34)] ∧ Q (.tuple #[(.agg #[(.int .u64 n31), (.int .u64 n32), (.int .u64 n33), (.int .u64 n34)]), (.bool true)]) H28) E

def zqg2_1_M (Q : QT) (E : ET) (τ : Tau) (H : Heap) : Prop := mP (τ 2) fun x2 => mI .u8 (τ 4) fun x4 => zqg2_1 Q E x2 x4 H

theorem zqg2_2ok (Q : QT) (E : ET) (τ : Tau) (H : Heap) (h : zqg2_1_M Q E τ H) : vc Pr zqg2_p4 τ (zqg2_q1 Q E) E H :=
  vP (i := 2) h (fun x2 h => vI (i := 4) h (fun x4 h => (conv (by kernel_rfl) h)))

@[reducible] noncomputable def zqg2_q2 (Q : QT) (E : ET) : Exit → Tau → Heap → Prop := (xthen (zqg2_1_M Q E) (zqg2_q1 Q E))

@[reducible] noncomputable def zqg2_p5 : Code := sA zqg2_p3

@[reducible] noncomputable def zqg2_p6 : Code := sB zqg2_p5

@[reducible] noncomputable def zqg2_q3 (Q : QT) (E : ET) : Exit → Tau → Heap → Prop := (xblock 0 (zqg2_q2 Q E))

@[reducible] noncomputable def zqg2_p7 : Code := sI zqg2_p6

@[reducible] noncomputable def zqg2_p8 : Code := sB zqg2_p7

@[reducible] noncomputable def zqg2_p9 : Code := sT zqg2_p8

def zqg2_3 (Q : QT) (E : ET) (x0 : OA) (x2 : OA) (H : Heap) : Prop :=
 Does Pr 109 #[(.pointer x0)] H (fun v35 H36 =>
 ∃ n37 n38 n39 n40 : Int, ∃ b41 : Bool, v35 = (.tuple #[(.agg #[(.int .u64 n37), (.int .u64 n38), (.int .u64 n39), (.int .u64 n40)]), (.bool b41)]) ∧ ptr x2 fun q43 =>
 wr q43 [(.int .u64 n37), (.int .u64 n38), (.int .u64 n39), (.int .u64 n40)] H36 fun H42 =>
 ptr x2 fun q44 =>
 ∃ n45 n46 n47 n48 : Int, Heap.rd H42 q44 0 [(.int .u64 n45), (.int .u64 n46), (.int .u64 n47), (.int .u64 n48)] ∧ Q (.tuple #[(.agg #[(.int .u64 n45), (.int .u64 n46), (.int .u64 n47), (.int .u64 n48)]), (.bool b41)]) H42) E

def zqg2_3_M (Q : QT) (E : ET) (τ : Tau) (H : Heap) : Prop := mP (τ 0) fun x0 => mP (τ 2) fun x2 => zqg2_3 Q E x0 x2 H

theorem zqg2_4ok (Q : QT) (E : ET) (τ : Tau) (H : Heap) (h : zqg2_3_M Q E τ H) : vc Pr zqg2_p9 τ (zqg2_q3 Q E) E H :=
  vP (i := 0) h (fun x0 h => vP (i := 2) h (fun x2 h => (conv (by kernel_rfl) h)))

@[reducible] noncomputable def zqg2_p10 : Code := sE zqg2_p8

@[reducible] noncomputable def zqg2_p11 : Code := sB zqg2_p10

def zqg2_5 (Q : QT) (E : ET) (x0 : OA) (x2 : OA) (x4 : Int) (x28 : Bool) (H : Heap) : Prop :=
 sel x28
 (Does Pr 57 #[(.pointer x0), (.int .i64 80)] H (fun v49 H50 =>
 ptr x2 fun q52 =>
 wr q52 [(.int .u64 0), (.int .u64 0), (.int .u64 0), (.int .u64 0)] H50 fun H51 =>
 ptr x2 fun q53 =>
 ∃ n54 n55 n56 n57 : Int, Heap.rd H51 q53 0 [(.int .u64 n54), (.int .u64 n55), (.int .u64 n56), (.int .u64 n57)] ∧ Q (.tuple #[(.agg #[(.int .u64 n54), (.int .u64 n55), (.int .u64 n56), (.int .u64 n57)]), (.bool false)]) H51) E)
 (zqg2_1 Q E x2 x4 H)

def zqg2_5_M (Q : QT) (E : ET) (τ : Tau) (H : Heap) : Prop := mP (τ 0) fun x0 => mP (τ 2) fun x2 => mI .u8 (τ 4) fun x4 => mB (τ 28) fun x28 => zqg2_5 Q E x0 x2 x4 x28 H

theorem zqg2_6ok (Q : QT) (E : ET) (τ : Tau) (H : Heap) (h : zqg2_5_M Q E τ H) : vc Pr zqg2_p11 τ (zqg2_q3 Q E) E H :=
  vP (i := 0) h (fun x0 h => vP (i := 2) h (fun x2 h => vI (i := 4) h (fun x4 h => vB (i := 28) h (fun x28 h => (conv (by kernel_rfl) h)))))

@[reducible] noncomputable def zqg2_q4 (Q : QT) (E : ET) : Exit → Tau → Heap → Prop := (xthen (zqg2_5_M Q E) (zqg2_q3 Q E))

@[reducible] noncomputable def zqg2_p12 : Code := sA zqg2_p10

def zqg2_7 (Q : QT) (E : ET) (x0 : OA) (x2 : OA) (x4 : Int) (x21 : Int) (H : Heap) : Prop :=
 sel ((x21 : Int) == 94)
 (zqg2_5 Q E x0 x2 x4 ((x21 : Int) == 94) H)
 (sel ((x21 : Int) == 45)
 (zqg2_5 Q E x0 x2 x4 ((x21 : Int) == 45) H)
 (zqg2_5 Q E x0 x2 x4 ((x21 : Int) == 93) H))

def zqg2_7_M (Q : QT) (E : ET) (τ : Tau) (H : Heap) : Prop := mP (τ 0) fun x0 => mP (τ 2) fun x2 => mI .u8 (τ 4) fun x4 => mI .u8 (τ 21) fun x21 => zqg2_7 Q E x0 x2 x4 x21 H

theorem zqg2_8ok (Q : QT) (E : ET) (τ : Tau) (H : Heap) (h : zqg2_7_M Q E τ H) : vc Pr zqg2_p12 τ (zqg2_q4 Q E) E H :=
  vP (i := 0) h (fun x0 h => vP (i := 2) h (fun x2 h => vI (i := 4) h (fun x4 h => vI (i := 21) h (fun x21 h => (conv (by kernel_rfl) h)))))

theorem zqg2_9ok (Q : QT) (E : ET) (τ : Tau) (H : Heap) (h : zqg2_7_M Q E τ H) : vc Pr zqg2_p10 τ (zqg2_q3 Q E) E H :=
  (conv (B := vc Pr zqg2_p10 τ (zqg2_q3 Q E) E H) (by kernel_rfl) (vc_seq (K := (zqg2_5_M Q E)) (zqg2_8ok Q E τ H h) (zqg2_6ok Q E)))

def zqg2_10 (Q : QT) (E : ET) (x0 : OA) (x2 : OA) (x4 : Int) (x21 : Int) (x22 : Bool) (H : Heap) : Prop :=
 sel x22
 (zqg2_3 Q E x0 x2 H)
 (zqg2_7 Q E x0 x2 x4 x21 H)

def zqg2_10_M (Q : QT) (E : ET) (τ : Tau) (H : Heap) : Prop := mP (τ 0) fun x0 => mP (τ 2) fun x2 => mI .u8 (τ 4) fun x4 => mI .u8 (τ 21) fun x21 => mB (τ 22) fun x22 => zqg2_10 Q E x0 x2 x4 x21 x22 H

theorem zqg2_11ok (Q : QT) (E : ET) (τ : Tau) (H : Heap) (h : zqg2_10_M Q E τ H) : vc Pr zqg2_p8 τ (zqg2_q3 Q E) E H :=
  vP (i := 0) h (fun x0 h => vP (i := 2) h (fun x2 h => vI (i := 4) h (fun x4 h => vI (i := 21) h (fun x21 h => vB (i := 22) h (fun x22 h => (conv (B := vc Pr zqg2_p8 (Tau.upd (Tau.upd (Tau.upd (Tau.upd (Tau.upd τ 0 (.pointer x0)) 2 (.pointer x2)) 4 (.int .u8 x4)) 21 (.int .u8 x21)) 22 (.bool x22)) (zqg2_q3 Q E) E H) (by kernel_rfl) (sel_map (zqg2_4ok Q E (Tau.upd (Tau.upd (Tau.upd (Tau.upd (Tau.upd τ 0 (.pointer x0)) 2 (.pointer x2)) 4 (.int .u8 x4)) 21 (.int .u8 x21)) 22 (.bool x22)) H) (zqg2_9ok Q E (Tau.upd (Tau.upd (Tau.upd (Tau.upd (Tau.upd τ 0 (.pointer x0)) 2 (.pointer x2)) 4 (.int .u8 x4)) 21 (.int .u8 x21)) 22 (.bool x22)) H) (conv (B := sel x22 (zqg2_3_M Q E (Tau.upd (Tau.upd (Tau.upd (Tau.upd (Tau.upd τ 0 (.pointer x0)) 2 (.pointer x2)) 4 (.int .u8 x4)) 21 (.int .u8 x21)) 22 (.bool x22)) H) (zqg2_7_M Q E (Tau.upd (Tau.upd (Tau.upd (Tau.upd (Tau.upd τ 0 (.pointer x0)) 2 (.pointer x2)) 4 (.int .u8 x4)) 21 (.int .u8 x21)) 22 (.bool x22)) H)) (by kernel_rfl) h))))))))

@[reducible] noncomputable def zqg2_q5 (Q : QT) (E : ET) : Exit → Tau → Heap → Prop := (xthen (zqg2_10_M Q E) (zqg2_q3 Q E))

@[reducible] noncomputable def zqg2_p13 : Code := sA zqg2_p7

def zqg2_12 (Q : QT) (E : ET) (x0 : OA) (x2 : OA) (x4 : Int) (x21 : Int) (H : Heap) : Prop :=
 zqg2_10 Q E x0 x2 x4 x21 ((x21 : Int) == 92) H

def zqg2_12_M (Q : QT) (E : ET) (τ : Tau) (H : Heap) : Prop := mP (τ 0) fun x0 => mP (τ 2) fun x2 => mI .u8 (τ 4) fun x4 => mI .u8 (τ 21) fun x21 => zqg2_12 Q E x0 x2 x4 x21 H

theorem zqg2_13ok (Q : QT) (E : ET) (τ : Tau) (H : Heap) (h : zqg2_12_M Q E τ H) : vc Pr zqg2_p13 τ (zqg2_q5 Q E) E H :=
  vP (i := 0) h (fun x0 h => vP (i := 2) h (fun x2 h => vI (i := 4) h (fun x4 h => vI (i := 21) h (fun x21 h => (conv (by kernel_rfl) h)))))

theorem zqg2_14ok (Q : QT) (E : ET) (τ : Tau) (H : Heap) (h : zqg2_12_M Q E τ H) : vc Pr zqg2_p7 τ (zqg2_q3 Q E) E H :=
  (conv (B := vc Pr zqg2_p7 τ (zqg2_q3 Q E) E H) (by kernel_rfl) (vc_seq (K := (zqg2_10_M Q E)) (zqg2_13ok Q E τ H h) (zqg2_11ok Q E)))

theorem zqg2_15ok (Q : QT) (E : ET) (τ : Tau) (H : Heap) (h : zqg2_12_M Q E τ H) : vc Pr zqg2_p6 τ (zqg2_q2 Q E) E H :=
  (conv (B := vc Pr zqg2_p6 τ (zqg2_q2 Q E) E H) (by kernel_rfl) (zqg2_14ok Q E τ H h))

@[reducible] noncomputable def zqg2_q6 (Q : QT) (E : ET) : Exit → Tau → Heap → Prop := (xthen (zqg2_12_M Q E) (zqg2_q2 Q E))

@[reducible] noncomputable def zqg2_p14 : Code := sA zqg2_p5

def zqg2_16 (Q : QT) (E : ET) (x0 : OA) (x2 : OA) (x4 : Int) (H : Heap) : Prop :=
 zqg2_12 Q E x0 x2 x4 x4 H

def zqg2_16_M (Q : QT) (E : ET) (τ : Tau) (H : Heap) : Prop := mP (τ 0) fun x0 => mP (τ 2) fun x2 => mI .u8 (τ 4) fun x4 => zqg2_16 Q E x0 x2 x4 H

theorem zqg2_17ok (Q : QT) (E : ET) (τ : Tau) (H : Heap) (h : zqg2_16_M Q E τ H) : vc Pr zqg2_p14 τ (zqg2_q6 Q E) E H :=
  vP (i := 0) h (fun x0 h => vP (i := 2) h (fun x2 h => vI (i := 4) h (fun x4 h => (conv (by kernel_rfl) h))))

theorem zqg2_18ok (Q : QT) (E : ET) (τ : Tau) (H : Heap) (h : zqg2_16_M Q E τ H) : vc Pr zqg2_p5 τ (zqg2_q2 Q E) E H :=
  (conv (B := vc Pr zqg2_p5 τ (zqg2_q2 Q E) E H) (by kernel_rfl) (vc_seq (K := (zqg2_12_M Q E)) (zqg2_17ok Q E τ H h) (zqg2_15ok Q E)))

theorem zqg2_19ok (Q : QT) (E : ET) (τ : Tau) (H : Heap) (h : zqg2_16_M Q E τ H) : vc Pr zqg2_p3 τ (zqg2_q1 Q E) E H :=
  (conv (B := vc Pr zqg2_p3 τ (zqg2_q1 Q E) E H) (by kernel_rfl) (vc_seq (K := (zqg2_1_M Q E)) (zqg2_18ok Q E τ H h) (zqg2_2ok Q E)))

@[reducible] noncomputable def zqg2_q7 (Q : QT) (E : ET) : Exit → Tau → Heap → Prop := (xthen (zqg2_16_M Q E) (zqg2_q1 Q E))

@[reducible] noncomputable def zqg2_p15 : Code := sA zqg2_p2

def zqg2_20 (Q : QT) (E : ET) (x0 : OA) (x2 : OA) (x4 : Int) (H : Heap) : Prop :=
 ptr x0 fun q58 =>
 ldI .i64 (Addr.add q58 1) H fun n59 =>
 ptr x0 fun q60 =>
 wr (Addr.add q60 1) [(.int .i64 (IntKind.wrap .i64 (n59 + 1)))] H fun H61 =>
 zqg2_16 Q E x0 x2 x4 H61

def zqg2_20_M (Q : QT) (E : ET) (τ : Tau) (H : Heap) : Prop := mP (τ 0) fun x0 => mP (τ 2) fun x2 => mI .u8 (τ 4) fun x4 => zqg2_20 Q E x0 x2 x4 H

theorem zqg2_21ok (Q : QT) (E : ET) (τ : Tau) (H : Heap) (h : zqg2_20_M Q E τ H) : vc Pr zqg2_p15 τ (zqg2_q7 Q E) E H :=
  vP (i := 0) h (fun x0 h => vP (i := 2) h (fun x2 h => vI (i := 4) h (fun x4 h => (conv (by kernel_rfl) h))))

theorem zqg2_22ok (Q : QT) (E : ET) (τ : Tau) (H : Heap) (h : zqg2_20_M Q E τ H) : vc Pr zqg2_p2 τ (zqg2_q1 Q E) E H :=
  (conv (B := vc Pr zqg2_p2 τ (zqg2_q1 Q E) E H) (by kernel_rfl) (vc_seq (K := (zqg2_16_M Q E)) (zqg2_21ok Q E τ H h) (zqg2_19ok Q E)))

@[reducible] noncomputable def zqg2_q8 (Q : QT) (E : ET) : Exit → Tau → Heap → Prop := (xthen (zqg2_20_M Q E) (zqg2_q1 Q E))

@[reducible] noncomputable def zqg2_p16 : Code := sA zqg2_p1

def zqg2_23 (Q : QT) (E : ET) (x0 : OA) (x2 : OA) (H : Heap) : Prop :=
 ptr x0 fun q62 =>
 ldS q62 H fun s63 =>
 ptr x0 fun q64 =>
 ldI .i64 (Addr.add q64 1) H fun n65 =>
 (0 ≤ (n65 : Int) ∧ (n65 : Int) < ((ByteArray.size s63 : Nat) : Int)) ∧ zqg2_20 Q E x0 x2 (sAt s63 n65) H

def zqg2_23_M (Q : QT) (E : ET) (τ : Tau) (H : Heap) : Prop := mP (τ 0) fun x0 => mP (τ 2) fun x2 => zqg2_23 Q E x0 x2 H

theorem zqg2_24ok (Q : QT) (E : ET) (τ : Tau) (H : Heap) (h : zqg2_23_M Q E τ H) : vc Pr zqg2_p16 τ (zqg2_q8 Q E) E H :=
  vP (i := 0) h (fun x0 h => vP (i := 2) h (fun x2 h => (conv (by kernel_rfl) h)))

theorem zqg2_25ok (Q : QT) (E : ET) (τ : Tau) (H : Heap) (h : zqg2_23_M Q E τ H) : vc Pr zqg2_p1 τ (zqg2_q1 Q E) E H :=
  (conv (B := vc Pr zqg2_p1 τ (zqg2_q1 Q E) E H) (by kernel_rfl) (vc_seq (K := (zqg2_20_M Q E)) (zqg2_24ok Q E τ H h) (zqg2_22ok Q E)))

@[reducible] noncomputable def zqg2_q9 (Q : QT) (E : ET) : Exit → Tau → Heap → Prop := (xthen (zqg2_23_M Q E) (zqg2_q1 Q E))

@[reducible] noncomputable def zqg2_p17 : Code := sA zqg2_p0

def zqg2 (Q : QT) (E : ET) (a0 : OA) (H : Heap) : Prop :=
 nw (.cells #[(.int .u64 0), (.int .u64 0), (.int .u64 0), (.int .u64 0)] 46 (0, 0)) H fun i66 H67 =>
 zqg2_23 Q E a0 (some ⟨i66, 0, none⟩) H67

theorem zqg2_fn (a0 : OA) (Q : QT) (E : ET) (H : Heap) (h : zqg2 Q E a0 H)   : Does Pr 124 #[(.pointer a0)] H Q E :=
  Fn_of_vc (fn := Try.f124) (c := zqg2_p0) (args := [(.pointer a0)]) mixed (by kernel_rfl) (by kernel_rfl) (by kernel_rfl) (by kernel_rfl) (by kernel_rfl) ((conv (B := vc Pr zqg2_p0 (argT [(.pointer a0)]) (zqg2_q1 Q E) E H) (by kernel_rfl) (vc_seq (K := (zqg2_23_M Q E)) (conv (B := vc Pr zqg2_p17 (argT [(.pointer a0)]) (zqg2_q9 Q E) E H) (by kernel_rfl) h) (zqg2_25ok Q E))))

/-! jobmux/jobmuxref08.only -/
@[reducible] noncomputable def zqh2_q1 (Q : QT) (E : ET) : Exit → Tau → Heap → Prop := (retQ Pr (Try.f125).results.toList Q)

@[reducible] noncomputable def zqh2_p0 : Code := bodyOf Try.f125

@[reducible] noncomputable def zqh2_p1 : Code := sB zqh2_p0

@[reducible] noncomputable def zqh2_p2 : Code := sB zqh2_p1

def zqh2_1 (Q : QT) (E : ET)  (H : Heap) : Prop :=
 Q (.int .i64 0) H

def zqh2_1_M (Q : QT) (E : ET) (τ : Tau) (H : Heap) : Prop := zqh2_1 Q E  H

theorem zqh2_2ok (Q : QT) (E : ET) (τ : Tau) (H : Heap) (h : zqh2_1_M Q E τ H) : vc Pr zqh2_p2 τ (zqh2_q1 Q E) E H :=
  (conv (B := vc Pr zqh2_p2 τ (zqh2_q1 Q E) E H) (by kernel_rfl) h)

@[reducible] noncomputable def zqh2_q2 (Q : QT) (E : ET) : Exit → Tau → Heap → Prop := (xthen (zqh2_1_M Q E) (zqh2_q1 Q E))

@[reducible] noncomputable def zqh2_p3 : Code := sA zqh2_p1

@[reducible] noncomputable def zqh2_p4 : Code := sB zqh2_p3

@[reducible] noncomputable def zqh2_q3 (Q : QT) (E : ET) : Exit → Tau → Heap → Prop := (xblock 0 (zqh2_q2 Q E))

@[reducible] noncomputable def zqh2_p5 : Code := sI zqh2_p4

@[reducible] noncomputable def zqh2_q4 (nx10 : Int → HP) (Q : QT) (E : ET) : Exit → Tau → Heap → Prop := (xthen (fun τ H => mI .i64 (τ 3) fun x3' => nx10 x3' H) (zqh2_q3 Q E))

@[reducible] noncomputable def zqh2_p6 : Code := sI zqh2_p5

@[reducible] noncomputable def zqh2_p7 : Code := sB zqh2_p6

@[reducible] noncomputable def zqh2_p8 : Code := sB zqh2_p7

def zqh2_3 (nx10 : Int → HP) (Q : QT) (E : ET) (x1 : OA) (x3 : Int) (H : Heap) : Prop :=
 nx10 (IntKind.wrap .i64 (x3 + 1)) H

def zqh2_3_M (nx10 : Int → HP) (Q : QT) (E : ET) (τ : Tau) (H : Heap) : Prop := mP (τ 1) fun x1 => mI .i64 (τ 3) fun x3 => zqh2_3 nx10 Q E x1 x3 H

theorem zqh2_4ok (nx10 : Int → HP) (Q : QT) (E : ET) (τ : Tau) (H : Heap) (h : zqh2_3_M nx10 Q E τ H) : vc Pr zqh2_p8 τ (zqh2_q4 nx10 Q E) E H :=
  vP (i := 1) h (fun x1 h => vI (i := 3) h (fun x3 h => (conv (by kernel_rfl) h)))

@[reducible] noncomputable def zqh2_q5 (nx10 : Int → HP) (Q : QT) (E : ET) : Exit → Tau → Heap → Prop := (xthen (zqh2_3_M nx10 Q E) (zqh2_q4 nx10 Q E))

@[reducible] noncomputable def zqh2_p9 : Code := sA zqh2_p7

def zqh2_5 (nx10 : Int → HP) (Q : QT) (E : ET) (x1 : OA) (x3 : Int) (H : Heap) : Prop :=
 ptr x1 fun q19 =>
 ∃ n20 n21 n22 n23 : Int, Heap.rd H q19 0 [(.int .u64 n20), (.int .u64 n21), (.int .u64 n22), (.int .u64 n23)] ∧ Does Pr 73 #[(.agg #[(.int .u64 n20), (.int .u64 n21), (.int .u64 n22), (.int .u64 n23)]), (.int .u8 (IntKind.wrap .u8 x3))] H (fun v24 H25 =>
 ∃ b26 : Bool, v24 = (.bool b26) ∧ sel b26
 (Q (.int .i64 x3) H25)
 (zqh2_3 nx10 Q E x1 x3 H25)) E

def zqh2_5_M (nx10 : Int → HP) (Q : QT) (E : ET) (τ : Tau) (H : Heap) : Prop := mP (τ 1) fun x1 => mI .i64 (τ 3) fun x3 => zqh2_5 nx10 Q E x1 x3 H

theorem zqh2_6ok (nx10 : Int → HP) (Q : QT) (E : ET) (τ : Tau) (H : Heap) (h : zqh2_5_M nx10 Q E τ H) : vc Pr zqh2_p9 τ (zqh2_q5 nx10 Q E) E H :=
  vP (i := 1) h (fun x1 h => vI (i := 3) h (fun x3 h => (conv (by kernel_rfl) h)))

theorem zqh2_7ok (nx10 : Int → HP) (Q : QT) (E : ET) (τ : Tau) (H : Heap) (h : zqh2_5_M nx10 Q E τ H) : vc Pr zqh2_p7 τ (zqh2_q4 nx10 Q E) E H :=
  (conv (B := vc Pr zqh2_p7 τ (zqh2_q4 nx10 Q E) E H) (by kernel_rfl) (vc_seq (K := (zqh2_3_M nx10 Q E)) (zqh2_6ok nx10 Q E τ H h) (zqh2_4ok nx10 Q E)))

@[reducible] noncomputable def zqh2_q6 (nx10 : Int → HP) (Q : QT) (E : ET) : Exit → Tau → Heap → Prop := (xthen (zqh2_5_M nx10 Q E) (zqh2_q4 nx10 Q E))

@[reducible] noncomputable def zqh2_p10 : Code := sA zqh2_p6

def zqh2_8 (nx10 : Int → HP) (Q : QT) (E : ET) (x1 : OA) (x3 : Int) (H : Heap) : Prop :=
 sel (decide ((x3 : Int) < 256))
 (zqh2_5 nx10 Q E x1 x3 H)
 (zqh2_1 Q E  H)

def zqh2_8_M (nx10 : Int → HP) (Q : QT) (E : ET) (τ : Tau) (H : Heap) : Prop := mP (τ 1) fun x1 => mI .i64 (τ 3) fun x3 => zqh2_8 nx10 Q E x1 x3 H

theorem zqh2_9ok (nx10 : Int → HP) (Q : QT) (E : ET) (τ : Tau) (H : Heap) (h : zqh2_8_M nx10 Q E τ H) : vc Pr zqh2_p10 τ (zqh2_q6 nx10 Q E) E H :=
  vP (i := 1) h (fun x1 h => vI (i := 3) h (fun x3 h => (conv (by kernel_rfl) h)))

theorem zqh2_10ok (nx10 : Int → HP) (Q : QT) (E : ET) (τ : Tau) (H : Heap) (h : zqh2_8_M nx10 Q E τ H) : vc Pr zqh2_p6 τ (zqh2_q4 nx10 Q E) E H :=
  (conv (B := vc Pr zqh2_p6 τ (zqh2_q4 nx10 Q E) E H) (by kernel_rfl) (vc_seq (K := (zqh2_5_M nx10 Q E)) (zqh2_9ok nx10 Q E τ H h) (zqh2_7ok nx10 Q E)))

def zqh2_11 (Q : QT) (E : ET) (x1 : OA) (x3 : Int) (H : Heap) : Prop :=
 ∃ (I : Int → HP) (μ : Int → Heap → Nat), I x3 H ∧ ∀ (x3 : Int) (H : Heap), I x3 H →
 zqh2_8 (fun x3' H1 => I x3' H1 ∧ μ x3' H1 < μ x3 H) Q E x1 x3 H

def zqh2_11_M (Q : QT) (E : ET) (τ : Tau) (H : Heap) : Prop := mP (τ 1) fun x1 => mI .i64 (τ 3) fun x3 => zqh2_11 Q E x1 x3 H

theorem zqh2_12ok (Q : QT) (E : ET) (τ : Tau) (H : Heap) (h : zqh2_11_M Q E τ H) : vc Pr zqh2_p5 τ (zqh2_q3 Q E) E H :=
  vP (i := 1) h (fun x1 h => vI (i := 3) h (fun x3 h => match h with | ⟨I, μ, h0, hr⟩ => (conv (B := vc Pr zqh2_p5 (Tau.upd (Tau.upd τ 1 (.pointer x1)) 3 (.int .i64 x3)) (zqh2_q3 Q E) E H) (by kernel_rfl) (vc_loop (c := sI zqh2_p5) (τ := (Tau.upd (Tau.upd τ 1 (.pointer x1)) 3 (.int .i64 x3))) [1] (fun τ H => mI .i64 (τ 3) fun x3' => I x3' H) (fun τ H => μ (gI (τ 3)) H) (by kernel_rfl) h0 (fun τ1 H1 hf hI => fix_elim (τ := τ1) (i := 1) (v := (.pointer x1)) (G := fun τ => vc Pr (sI zqh2_p5) τ (xthen (fun τ2 H2 => (mI .i64 (τ2 3) fun x3' => I x3' H2) ∧ μ (gI (τ2 3)) H2 < μ (gI (τ 3)) H1) (zqh2_q3 Q E)) E H1) (hf 1 (by simp)) (mI_elim (i := 3) (G := fun τ => vc Pr (sI zqh2_p5) τ (xthen (fun τ2 H2 => (mI .i64 (τ2 3) fun x3' => I x3' H2) ∧ μ (gI (τ2 3)) H2 < μ (gI (τ 3)) H1) (zqh2_q3 Q E)) E H1) hI (fun x3r h => (conv (B := vc Pr (sI zqh2_p5) (Tau.upd (Tau.upd τ1 1 (.pointer x1)) 3 (.int .i64 x3r)) (xthen (fun τ2 H2 => (mI .i64 (τ2 3) fun x3' => I x3' H2) ∧ μ (gI (τ2 3)) H2 < μ (gI ((Tau.upd (Tau.upd τ1 1 (.pointer x1)) 3 (.int .i64 x3r)) 3)) H1) (zqh2_q3 Q E)) E H1) (by kernel_rfl) (vc_xthen (zqh2_10ok (fun x3' H2 => I x3' H2 ∧ μ x3' H2 < μ x3r H1) Q E (Tau.upd (Tau.upd τ1 1 (.pointer x1)) 3 (.int .i64 x3r)) H1 (conv (B := zqh2_8_M (fun x3' H2 => I x3' H2 ∧ μ x3' H2 < μ x3r H1) Q E (Tau.upd (Tau.upd τ1 1 (.pointer x1)) 3 (.int .i64 x3r)) H1) (by kernel_rfl) (hr x3r H1 h))) (fun τ2 H2 hk => mI_elim (i := 3) (G := fun τ => (mI .i64 (τ 3) fun x3' => I x3' H2) ∧ μ (gI (τ 3)) H2 < μ x3r H1) hk (fun x3' h => h)))))))))))

theorem zqh2_13ok (Q : QT) (E : ET) (τ : Tau) (H : Heap) (h : zqh2_11_M Q E τ H) : vc Pr zqh2_p4 τ (zqh2_q2 Q E) E H :=
  (conv (B := vc Pr zqh2_p4 τ (zqh2_q2 Q E) E H) (by kernel_rfl) (zqh2_12ok Q E τ H h))

@[reducible] noncomputable def zqh2_q7 (Q : QT) (E : ET) : Exit → Tau → Heap → Prop := (xthen (zqh2_11_M Q E) (zqh2_q2 Q E))

@[reducible] noncomputable def zqh2_p11 : Code := sA zqh2_p3

def zqh2_14 (Q : QT) (E : ET) (x1 : OA) (H : Heap) : Prop :=
 zqh2_11 Q E x1 0 H

def zqh2_14_M (Q : QT) (E : ET) (τ : Tau) (H : Heap) : Prop := mP (τ 1) fun x1 => zqh2_14 Q E x1 H

theorem zqh2_15ok (Q : QT) (E : ET) (τ : Tau) (H : Heap) (h : zqh2_14_M Q E τ H) : vc Pr zqh2_p11 τ (zqh2_q7 Q E) E H :=
  vP (i := 1) h (fun x1 h => (conv (by kernel_rfl) h))

theorem zqh2_16ok (Q : QT) (E : ET) (τ : Tau) (H : Heap) (h : zqh2_14_M Q E τ H) : vc Pr zqh2_p3 τ (zqh2_q2 Q E) E H :=
  (conv (B := vc Pr zqh2_p3 τ (zqh2_q2 Q E) E H) (by kernel_rfl) (vc_seq (K := (zqh2_11_M Q E)) (zqh2_15ok Q E τ H h) (zqh2_13ok Q E)))

theorem zqh2_17ok (Q : QT) (E : ET) (τ : Tau) (H : Heap) (h : zqh2_14_M Q E τ H) : vc Pr zqh2_p1 τ (zqh2_q1 Q E) E H :=
  (conv (B := vc Pr zqh2_p1 τ (zqh2_q1 Q E) E H) (by kernel_rfl) (vc_seq (K := (zqh2_1_M Q E)) (zqh2_16ok Q E τ H h) (zqh2_2ok Q E)))

@[reducible] noncomputable def zqh2_q8 (Q : QT) (E : ET) : Exit → Tau → Heap → Prop := (xthen (zqh2_14_M Q E) (zqh2_q1 Q E))

@[reducible] noncomputable def zqh2_p12 : Code := sA zqh2_p0

def zqh2 (Q : QT) (E : ET) (a0_0 : Int) (a0_1 : Int) (a0_2 : Int) (a0_3 : Int) (H : Heap) : Prop :=
 nw (.cells #[(.int .u64 a0_0), (.int .u64 a0_1), (.int .u64 a0_2), (.int .u64 a0_3)] 46 (0, 0)) H fun i27 H28 =>
 zqh2_14 Q E (some ⟨i27, 0, none⟩) H28

theorem zqh2_fn (a0_0 : Int) (a0_1 : Int) (a0_2 : Int) (a0_3 : Int) (Q : QT) (E : ET) (H : Heap) (h : zqh2 Q E a0_0 a0_1 a0_2 a0_3 H)   : Does Pr 125 #[(.agg #[(.int .u64 a0_0), (.int .u64 a0_1), (.int .u64 a0_2), (.int .u64 a0_3)])] H Q E :=
  Fn_of_vc (fn := Try.f125) (c := zqh2_p0) (args := [(.agg #[(.int .u64 a0_0), (.int .u64 a0_1), (.int .u64 a0_2), (.int .u64 a0_3)])]) mixed (by kernel_rfl) (by kernel_rfl) (by kernel_rfl) (by kernel_rfl) (by kernel_rfl) ((conv (B := vc Pr zqh2_p0 (argT [(.agg #[(.int .u64 a0_0), (.int .u64 a0_1), (.int .u64 a0_2), (.int .u64 a0_3)])]) (zqh2_q1 Q E) E H) (by kernel_rfl) (vc_seq (K := (zqh2_14_M Q E)) (conv (B := vc Pr zqh2_p12 (argT [(.agg #[(.int .u64 a0_0), (.int .u64 a0_1), (.int .u64 a0_2), (.int .u64 a0_3)])]) (zqh2_q8 Q E) E H) (by kernel_rfl) h) (zqh2_17ok Q E))))

end Go.Proofs.Ytaffcoiomggpfaa
