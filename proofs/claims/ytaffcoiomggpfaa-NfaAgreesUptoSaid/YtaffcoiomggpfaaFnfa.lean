import Derived.Test.YtaffcoiomggpfaaVPr
/- Printed by gen.py: the Go functions of package nfa over a heap view, and that the model does so. -/
namespace Go.Proofs.Ytaffcoiomggpfaa
open Go.V
set_option linter.unusedVariables false
set_option maxRecDepth 100000
variable (Q : QT) (E : ET)
/-! jobmux/nfa.Compile -/
noncomputable def zqz1_q1 (Q : QT) (E : ET) : XT := (retQ Pr (Try.f33).results.toList Q)

def zqz1_1 (Q : QT) (E : ET) (x0 : OA) (l0 c0 : Nat) (H : Heap) : Prop :=
 Does Pr 51 #[(.slice x0 l0 c0)] H (fun v4 H5 =>
 ∃ (p6 : OA) (l7 c8 : Nat), v4 = (.slice p6 l7 c8) ∧ Q (.tuple #[(.slice p6 l7 c8), (.int .i64 0)]) H5) E

def zqz1_1_M  (τ : Tau) (H : Heap) : Prop := mSl (τ 0) fun x0 l0 c0 => zqz1_1 Q E x0 l0 c0 H

theorem zqz1_2ok  : Ok Pr (zqz1_1_M Q E) (sB (sB (bodyOf Try.f33))) (zqz1_q1 Q E) E := fun τ H h =>
  wSl 0 h (fun x0 l0 c0 h => (conv (by kernel_rfl) h))

def zqz1_3 (Q : QT) (E : ET) (x0 : OA) (l0 c0 : Nat) (H : Heap) : Prop :=
 Does Pr 40 #[(.slice x0 l0 c0)] H (fun v9 H10 =>
 ∃ b11 : Bool, v9 = (.bool b11) ∧ sel (!b11)
 (Q (.tuple #[(.slice none 0 0), (.int .i64 3)]) H10)
 (zqz1_1 Q E x0 l0 c0 H10)) E

def zqz1_3_M  (τ : Tau) (H : Heap) : Prop := mSl (τ 0) fun x0 l0 c0 => zqz1_3 Q E x0 l0 c0 H

theorem zqz1_4ok  : Ok Pr (zqz1_3_M Q E) (sA (sB (bodyOf Try.f33))) (xthen (zqz1_1_M Q E) (zqz1_q1 Q E)) E := fun τ H h =>
  wSl 0 h (fun x0 l0 c0 h => (conv (by kernel_rfl) h))

theorem zqz1_5ok  : Ok Pr (zqz1_3_M Q E) (sB (bodyOf Try.f33)) (zqz1_q1 Q E) E := fun τ H h =>
  (conv (by kernel_rfl) (vc_seq (K := (zqz1_1_M Q E)) (zqz1_4ok Q E τ H h) (zqz1_2ok Q E)))

def zqz1 (Q : QT) (E : ET) (a0 : OA) (a0l : Nat) (a0c : Nat) (H : Heap) : Prop :=
 zqz1_3 Q E a0 a0l a0c H

theorem zqz1_fn (a0 : OA) (a0l : Nat) (a0c : Nat) (Q : QT) (E : ET) (H : Heap) (h : zqz1 Q E a0 a0l a0c H)   : Does Pr 33 #[(.slice a0 a0l a0c)] H Q E :=
  Fn_of_vc (fn := Try.f33) (c := (bodyOf Try.f33)) (args := [(.slice a0 a0l a0c)]) mixed (by kernel_rfl) (by kernel_rfl) (by kernel_rfl) (by kernel_rfl) (by kernel_rfl) ((conv (B := vc Pr (bodyOf Try.f33) (argT [(.slice a0 a0l a0c)]) (zqz1_q1 Q E) E H) (by kernel_rfl) (vc_seq (K := (zqz1_3_M Q E)) (conv (B := vc Pr (sA (bodyOf Try.f33)) (argT [(.slice a0 a0l a0c)]) (xthen (zqz1_3_M Q E) (zqz1_q1 Q E)) E H) (by kernel_rfl) h) (zqz1_5ok Q E))))

/-! jobmux/nfa.Run -/
noncomputable def zqa2_q1 (Q : QT) (E : ET) : XT := (retQ Pr (Try.f35).results.toList Q)

noncomputable def zqa2_p0 : Code := bodyOf Try.f35

def zqa2_1 (Q : QT) (E : ET) (x0 : OA) (l0 c0 : Nat) (x1 : OA) (l1 c1 : Nat) (H : Heap) : Prop :=
 Does Pr 50 #[(.slice x0 l0 c0), (.bool false), (.bool true)] H (fun v4 H5 =>
 ∃ p6 : OA, v4 = (.pointer p6) ∧ Does Pr 52 #[(.pointer p6), (.slice x1 l1 c1)] H5 (fun v7 H8 =>
 ∃ b9 : Bool, v7 = (.bool b9) ∧ Does Pr 53 #[(.pointer p6)] H8 (fun v10 H11 =>
 ∃ n12 : Int, v10 = (.int .i64 n12) ∧ Q (.int .i64 n12) H11) E) E) E

def zqa2_1_M  (τ : Tau) (H : Heap) : Prop := mSl (τ 0) fun x0 l0 c0 => mSl (τ 1) fun x1 l1 c1 => zqa2_1 Q E x0 l0 c0 x1 l1 c1 H

theorem zqa2_2ok  : Ok Pr (zqa2_1_M Q E) (sB (sB zqa2_p0)) (zqa2_q1 Q E) E := fun τ H h =>
  wSl 0 h (fun x0 l0 c0 h => wSl 1 h (fun x1 l1 c1 h => (conv (by kernel_rfl) h)))

noncomputable def zqa2_q2  : XT := (xthen (zqa2_1_M Q E) (zqa2_q1 Q E))

def zqa2_3 (Q : QT) (E : ET) (x0 : OA) (l0 c0 : Nat) (x1 : OA) (l1 c1 : Nat) (H : Heap) : Prop :=
 Does Pr 62 #[(.slice x0 l0 c0)] H (fun v13 H14 =>
 ∃ b15 : Bool, v13 = (.bool b15) ∧ sel (!b15)
 (Q (.int .i64 (-1)) H14)
 (zqa2_1 Q E x0 l0 c0 x1 l1 c1 H14)) E

def zqa2_3_M  (τ : Tau) (H : Heap) : Prop := mSl (τ 0) fun x0 l0 c0 => mSl (τ 1) fun x1 l1 c1 => zqa2_3 Q E x0 l0 c0 x1 l1 c1 H

theorem zqa2_4ok  : Ok Pr (zqa2_3_M Q E) (sA (sB zqa2_p0)) (zqa2_q2 Q E) E := fun τ H h =>
  wSl 0 h (fun x0 l0 c0 h => wSl 1 h (fun x1 l1 c1 h => (conv (by kernel_rfl) h)))

theorem zqa2_5ok  : Ok Pr (zqa2_3_M Q E) (sB zqa2_p0) (zqa2_q1 Q E) E := fun τ H h =>
  (conv (by kernel_rfl) (vc_seq (K := (zqa2_1_M Q E)) (zqa2_4ok Q E τ H h) (zqa2_2ok Q E)))

def zqa2 (Q : QT) (E : ET) (a0 : OA) (a0l : Nat) (a0c : Nat) (a1 : OA) (a1l : Nat) (a1c : Nat) (H : Heap) : Prop :=
 zqa2_3 Q E a0 a0l a0c a1 a1l a1c H

theorem zqa2_fn (a0 : OA) (a0l : Nat) (a0c : Nat) (a1 : OA) (a1l : Nat) (a1c : Nat) (Q : QT) (E : ET) (H : Heap) (h : zqa2 Q E a0 a0l a0c a1 a1l a1c H)   : Does Pr 35 #[(.slice a0 a0l a0c), (.slice a1 a1l a1c)] H Q E :=
  Fn_of_vc (fn := Try.f35) (c := zqa2_p0) (args := [(.slice a0 a0l a0c), (.slice a1 a1l a1c)]) mixed (by kernel_rfl) (by kernel_rfl) (by kernel_rfl) (by kernel_rfl) (by kernel_rfl) ((conv (B := vc Pr zqa2_p0 (argT [(.slice a0 a0l a0c), (.slice a1 a1l a1c)]) (zqa2_q1 Q E) E H) (by kernel_rfl) (vc_seq (K := (zqa2_3_M Q E)) (conv (B := vc Pr (sA zqa2_p0) (argT [(.slice a0 a0l a0c), (.slice a1 a1l a1c)]) (xthen (zqa2_3_M Q E) (zqa2_q1 Q E)) E H) (by kernel_rfl) h) (zqa2_5ok Q E))))

/-! jobmux/nfa.Sample -/
noncomputable def zqb2_q1 (Q : QT) (E : ET) : XT := (retQ Pr (Try.f37).results.toList Q)

noncomputable def zqb2_p1 : Code := sB (bodyOf Try.f37)

noncomputable def zqb2_p4 : Code := sB (sB (sB zqb2_p1))

def zqb2_1 (Q : QT) (E : ET)  (H : Heap) : Prop :=
 Q (.tuple #[(.slice none 0 0), (.bool false)]) H

def zqb2_1_M  (τ : Tau) (H : Heap) : Prop := zqb2_1 Q E  H

theorem zqb2_2ok  : Ok Pr (zqb2_1_M Q E) (sB (sB zqb2_p4)) (zqb2_q1 Q E) E := fun τ H h =>
  (conv (by kernel_rfl) h)

noncomputable def zqb2_q2  : XT := (xthen (zqb2_1_M Q E) (zqb2_q1 Q E))

noncomputable def zqb2_q4 (nx138 : Int → HP) : XT := (xthen (fun τ H => mI .i64 (τ 6) fun x6' => nx138 x6' H) (xblock 0 (zqb2_q2 Q E)))

noncomputable def zqb2_p9 : Code := sI (sI (sA (sB zqb2_p4)))

noncomputable def zqb2_q5 (nx138 : Int → HP) : XT := (xblock 1 (zqb2_q4 Q E nx138))

noncomputable def zqb2_p12 : Code := sB (sI (sB zqb2_p9))

noncomputable def zqb2_p13 : Code := sB zqb2_p12

def zqb2_3 (nx138 : Int → HP) (Q : QT) (E : ET) (x0 : OA) (l0 c0 : Nat) (x4 x5 : OA) (x6 : Int) (x7 : OA) (l7 c7 : Nat) (H : Heap) : Prop :=
 ptr x5 fun q267 =>
 wr q267 [(.slice x7 l7 c7)] H fun H266 =>
 nx138 x6 H266

def zqb2_3_M (nx138 : Int → HP) (τ : Tau) (H : Heap) : Prop := mSl (τ 0) fun x0 l0 c0 => mP (τ 4) fun x4 => mP (τ 5) fun x5 => mI .i64 (τ 6) fun x6 => mSl (τ 7) fun x7 l7 c7 => zqb2_3 nx138 Q E x0 l0 c0 x4 x5 x6 x7 l7 c7 H

theorem zqb2_4ok (nx138 : Int → HP) : Ok Pr (zqb2_3_M Q E nx138) (sB zqb2_p13) (zqb2_q5 Q E nx138) E := fun τ H h =>
  wSl 0 h (fun x0 l0 c0 h => wP 4 h (fun x4 h => wP 5 h (fun x5 h => wI 6 h (fun x6 h => wSl 7 h (fun x7 l7 c7 h => (conv (by kernel_rfl) h))))))

noncomputable def zqb2_q6 (nx138 : Int → HP) : XT := (xthen (zqb2_3_M Q E nx138) (zqb2_q5 Q E nx138))

def zqb2_5 (nx138 : Int → HP) (Q : QT) (E : ET) (x0 : OA) (l0 c0 : Nat) (x4 x5 : OA) (x6 : Int) (x7 : OA) (l7 c7 : Nat) (H : Heap) : Prop :=
 sel (decide (x6 ≥ 0))
 (ptr x4 fun q268 =>
 ldP q268 H fun p269 =>
 Does Pr 66 #[(.pointer p269), (.int .i64 x6)] H (fun v270 H271 =>
 ∃ (p272 : OA) (l273 c274 : Nat), v270 = (.slice p272 l273 c274) ∧ nw (.cells #[(.int .u8 10)] 5 (0, 0)) H271 fun i275 H276 =>
 app Pr 24 p272 l273 c274 (.slice (some ⟨i275, 0, none⟩) 1 1) H276 fun p277 l278 c279 H280 =>
 Q (.tuple #[(.slice p277 l278 c279), (.bool true)]) H280) E)
 (zqb2_3 nx138 Q E x0 l0 c0 x4 x5 x6 x7 l7 c7 H)

def zqb2_5_M (nx138 : Int → HP) (τ : Tau) (H : Heap) : Prop := mSl (τ 0) fun x0 l0 c0 => mP (τ 4) fun x4 => mP (τ 5) fun x5 => mI .i64 (τ 6) fun x6 => mSl (τ 7) fun x7 l7 c7 => zqb2_5 nx138 Q E x0 l0 c0 x4 x5 x6 x7 l7 c7 H

theorem zqb2_6ok (nx138 : Int → HP) : Ok Pr (zqb2_5_M Q E nx138) (sA zqb2_p13) (zqb2_q6 Q E nx138) E := fun τ H h =>
  wSl 0 h (fun x0 l0 c0 h => wP 4 h (fun x4 h => wP 5 h (fun x5 h => wI 6 h (fun x6 h => wSl 7 h (fun x7 l7 c7 h => (conv (by kernel_rfl) h))))))

theorem zqb2_7ok (nx138 : Int → HP) : Ok Pr (zqb2_5_M Q E nx138) zqb2_p13 (zqb2_q5 Q E nx138) E := fun τ H h =>
  (conv (by kernel_rfl) (vc_seq (K := (zqb2_3_M Q E nx138)) (zqb2_6ok Q E nx138 τ H h) (zqb2_4ok Q E nx138)))

noncomputable def zqb2_q7 (nx138 : Int → HP) : XT := (xthen (zqb2_5_M Q E nx138) (zqb2_q5 Q E nx138))

noncomputable def zqb2_p18 : Code := sI (sB (sA zqb2_p12))

noncomputable def zqb2_q9 (nx138 : Int → HP) (nx284 : Int → OA → Nat → Nat → OA → HP) : XT := (xthen (fun τ H => mI .i64 (τ 6) fun x6' => mSl (τ 7) fun x7' l7' c7' => mP (τ 8) fun x8' => nx284 x6' x7' l7' c7' x8' H) (xblock 2 (zqb2_q7 Q E nx138)))

noncomputable def zqb2_p20 : Code := sB (sI zqb2_p18)

def zqb2_8 (nx138 : Int → HP) (nx284 : Int → OA → Nat → Nat → OA → HP) (Q : QT) (E : ET) (x0 : OA) (l0 c0 : Nat) (x4 x5 : OA) (x6 : Int) (x7 : OA) (l7 c7 : Nat) (x8 : OA) (H : Heap) : Prop :=
 ptr x8 fun q391 =>
 ldI .i64 q391 H fun n392 =>
 nw (.cells #[(.int .i64 0)] 3 (0, 0)) H fun i393 H394 =>
 wr ⟨i393, 0, none⟩ [(.int .i64 n392)] H394 fun H395 =>
 ldI .i64 ⟨i393, 0, none⟩ H395 fun n396 =>
 wr ⟨i393, 0, none⟩ [(.int .i64 (IntKind.wrap .i64 (n396 + 1)))] H395 fun H397 =>
 nx284 x6 x7 l7 c7 (some ⟨i393, 0, none⟩) H397

def zqb2_8_M (nx138 : Int → HP) (nx284 : Int → OA → Nat → Nat → OA → HP) (τ : Tau) (H : Heap) : Prop := mSl (τ 0) fun x0 l0 c0 => mP (τ 4) fun x4 => mP (τ 5) fun x5 => mI .i64 (τ 6) fun x6 => mSl (τ 7) fun x7 l7 c7 => mP (τ 8) fun x8 => zqb2_8 nx138 nx284 Q E x0 l0 c0 x4 x5 x6 x7 l7 c7 x8 H

theorem zqb2_9ok (nx138 : Int → HP) (nx284 : Int → OA → Nat → Nat → OA → HP) : Ok Pr (zqb2_8_M Q E nx138 nx284) (sB zqb2_p20) (zqb2_q9 Q E nx138 nx284) E := fun τ H h =>
  wSl 0 h (fun x0 l0 c0 h => wP 4 h (fun x4 h => wP 5 h (fun x5 h => wI 6 h (fun x6 h => wSl 7 h (fun x7 l7 c7 h => wP 8 h (fun x8 h => (conv (by kernel_rfl) h)))))))

noncomputable def zqb2_q10 (nx138 : Int → HP) (nx284 : Int → OA → Nat → Nat → OA → HP) : XT := (xthen (zqb2_8_M Q E nx138 nx284) (zqb2_q9 Q E nx138 nx284))

noncomputable def zqb2_p24 : Code := sB (sI (sA zqb2_p20))

noncomputable def zqb2_p26 : Code := sB (sB zqb2_p24)

noncomputable def zqb2_q12 (nx138 : Int → HP) (nx284 : Int → OA → Nat → Nat → OA → HP) : XT := (xblock 4 (xblock 3 (zqb2_q10 Q E nx138 nx284)))

noncomputable def zqb2_p28 : Code := sI (sB zqb2_p26)

noncomputable def zqb2_p29 : Code := sB zqb2_p28

noncomputable def zqb2_p30 : Code := sT zqb2_p29

def zqb2_10 (nx138 : Int → HP) (nx284 : Int → OA → Nat → Nat → OA → HP) (Q : QT) (E : ET) (x0 : OA) (l0 c0 : Nat) (x4 x5 : OA) (x6 : Int) (x7 : OA) (l7 c7 : Nat) (x8 : OA) (H : Heap) : Prop :=
 ptr x5 fun q450 =>
 ldSl q450 H fun p451 l452 c453 =>
 ptr x8 fun q454 =>
 ldI .i64 q454 H fun n455 =>
 (0 ≤ n455 ∧ n455 < (l452 : Int)) ∧ ptr p451 fun q456 =>
 ldI .i64 (Addr.add q456 (n455.toNat * 1)) H fun n457 =>
 zqb2_8 nx138 nx284 Q E x0 l0 c0 x4 x5 (if x6 < n457 then n457 else x6) x7 l7 c7 x8 H

def zqb2_10_M (nx138 : Int → HP) (nx284 : Int → OA → Nat → Nat → OA → HP) (τ : Tau) (H : Heap) : Prop := mSl (τ 0) fun x0 l0 c0 => mP (τ 4) fun x4 => mP (τ 5) fun x5 => mI .i64 (τ 6) fun x6 => mSl (τ 7) fun x7 l7 c7 => mP (τ 8) fun x8 => zqb2_10 nx138 nx284 Q E x0 l0 c0 x4 x5 x6 x7 l7 c7 x8 H

theorem zqb2_11ok (nx138 : Int → HP) (nx284 : Int → OA → Nat → Nat → OA → HP) : Ok Pr (zqb2_10_M Q E nx138 nx284) (sB zqb2_p30) (zqb2_q12 Q E nx138 nx284) E := fun τ H h =>
  wSl 0 h (fun x0 l0 c0 h => wP 4 h (fun x4 h => wP 5 h (fun x5 h => wI 6 h (fun x6 h => wSl 7 h (fun x7 l7 c7 h => wP 8 h (fun x8 h => (conv (by kernel_rfl) h)))))))

noncomputable def zqb2_q13 (nx138 : Int → HP) (nx284 : Int → OA → Nat → Nat → OA → HP) : XT := (xthen (zqb2_10_M Q E nx138 nx284) (zqb2_q12 Q E nx138 nx284))

def zqb2_12 (nx138 : Int → HP) (nx284 : Int → OA → Nat → Nat → OA → HP) (Q : QT) (E : ET) (x0 : OA) (l0 c0 : Nat) (x4 x5 : OA) (x6 : Int) (x7 : OA) (l7 c7 : Nat) (x8 x9 : OA) (H : Heap) : Prop :=
 ptr x9 fun q458 =>
 ldB (Addr.add q458 2) H fun b459 =>
 sel (!b459)
 (ptr x4 fun q460 =>
 ldP q460 H fun p461 =>
 ptr x5 fun q462 =>
 ldSl q462 H fun p463 l464 c465 =>
 ptr x8 fun q466 =>
 ldI .i64 q466 H fun n467 =>
 (0 ≤ n467 ∧ n467 < (l464 : Int)) ∧ ptr p463 fun q468 =>
 ldI .i64 (Addr.add q468 (n467.toNat * 1)) H fun n469 =>
 Does Pr 66 #[(.pointer p461), (.int .i64 n469)] H (fun v470 H471 =>
 ∃ (p472 : OA) (l473 c474 : Nat), v470 = (.slice p472 l473 c474) ∧ Q (.tuple #[(.slice p472 l473 c474), (.bool true)]) H471) (fun _ _ => False))
 (zqb2_10 nx138 nx284 Q E x0 l0 c0 x4 x5 x6 x7 l7 c7 x8 H)

def zqb2_12_M (nx138 : Int → HP) (nx284 : Int → OA → Nat → Nat → OA → HP) (τ : Tau) (H : Heap) : Prop := mSl (τ 0) fun x0 l0 c0 => mP (τ 4) fun x4 => mP (τ 5) fun x5 => mI .i64 (τ 6) fun x6 => mSl (τ 7) fun x7 l7 c7 => mP (τ 8) fun x8 => mP (τ 9) fun x9 => zqb2_12 nx138 nx284 Q E x0 l0 c0 x4 x5 x6 x7 l7 c7 x8 x9 H

theorem zqb2_13ok (nx138 : Int → HP) (nx284 : Int → OA → Nat → Nat → OA → HP) : Ok Pr (zqb2_12_M Q E nx138 nx284) (sA zqb2_p30) (zqb2_q13 Q E nx138 nx284) E := fun τ H h =>
  wSl 0 h (fun x0 l0 c0 h => wP 4 h (fun x4 h => wP 5 h (fun x5 h => wI 6 h (fun x6 h => wSl 7 h (fun x7 l7 c7 h => wP 8 h (fun x8 h => wP 9 h (fun x9 h => (conv (by kernel_rfl) h))))))))

theorem zqb2_14ok (nx138 : Int → HP) (nx284 : Int → OA → Nat → Nat → OA → HP) : Ok Pr (zqb2_12_M Q E nx138 nx284) zqb2_p30 (zqb2_q12 Q E nx138 nx284) E := fun τ H h =>
  (conv (by kernel_rfl) (vc_seq (K := (zqb2_10_M Q E nx138 nx284)) (zqb2_13ok Q E nx138 nx284 τ H h) (zqb2_11ok Q E nx138 nx284)))

def zqb2_15 (nx138 : Int → HP) (nx284 : Int → OA → Nat → Nat → OA → HP) (Q : QT) (E : ET) (x0 : OA) (l0 c0 : Nat) (x4 x5 : OA) (x6 : Int) (x7 : OA) (l7 c7 : Nat) (x8 x9 x10 : OA) (x11 : Value) (x50 : Int) (H : Heap) : Prop :=
 sel (x50 == 2)
 (ptr x10 fun q475 =>
 ldI .i64 (Addr.add q475 1) H fun n476 =>
 ptr x9 fun q477 =>
 ldB (Addr.add q477 2) H fun b478 =>
 callV Pr E x11 [(.int .i64 n476), (.bool b478)] (fun v479 H480 =>
 ptr x10 fun q481 =>
 ldI .i64 (Addr.add q481 2) H480 fun n482 =>
 ptr x9 fun q483 =>
 ldB (Addr.add q483 2) H480 fun b484 =>
 callV Pr E x11 [(.int .i64 n482), (.bool b484)] (fun v485 H486 =>
 zqb2_8 nx138 nx284 Q E x0 l0 c0 x4 x5 x6 x7 l7 c7 x8 H486) H480) H)
 (sel (x50 == 3)
 (ptr x9 fun q487 =>
 ldB (Addr.add q487 1) H fun b488 =>
 sel b488
 (ptr x10 fun q489 =>
 ldI .i64 (Addr.add q489 1) H fun n490 =>
 ptr x9 fun q491 =>
 ldB (Addr.add q491 2) H fun b492 =>
 callV Pr E x11 [(.int .i64 n490), (.bool b492)] (fun v493 H494 =>
 zqb2_8 nx138 nx284 Q E x0 l0 c0 x4 x5 x6 x7 l7 c7 x8 H494) H)
 (zqb2_8 nx138 nx284 Q E x0 l0 c0 x4 x5 x6 x7 l7 c7 x8 H))
 (sel (x50 == 4)
 (ptr x10 fun q495 =>
 ldI .i64 (Addr.add q495 1) H fun n496 =>
 callV Pr E x11 [(.int .i64 n496), (.bool true)] (fun v497 H498 =>
 zqb2_8 nx138 nx284 Q E x0 l0 c0 x4 x5 x6 x7 l7 c7 x8 H498) H)
 (sel (x50 == 1)
 (ptr x10 fun q499 =>
 ∃ n500 n501 n502 n503 : Int, Heap.rd H (Addr.add q499 3) 0 [(.int .u64 n500), (.int .u64 n501), (.int .u64 n502), (.int .u64 n503)] ∧ ptr x9 fun q504 =>
 ldB (Addr.add q504 2) H fun b505 =>
 Does Pr 67 #[(.agg #[(.int .u64 n500), (.int .u64 n501), (.int .u64 n502), (.int .u64 n503)]), (.bool b505)] H (fun v506 H507 =>
 ∃ n508 : Int, v506 = (.int .i64 n508) ∧ sel (decide (n508 ≥ 0))
 (ptr x4 fun q509 =>
 ldP q509 H507 fun p510 =>
 ptr x10 fun q511 =>
 ldI .i64 (Addr.add q511 1) H507 fun n512 =>
 ptr x5 fun q513 =>
 ldSl q513 H507 fun p514 l515 c516 =>
 ptr x8 fun q517 =>
 ldI .i64 q517 H507 fun n518 =>
 (0 ≤ n518 ∧ n518 < (l515 : Int)) ∧ ptr p514 fun q519 =>
 ldI .i64 (Addr.add q519 (n518.toNat * 1)) H507 fun n520 =>
 Does Pr 64 #[(.pointer p510), (.slice x7 l7 c7), (.agg #[(.int .i64 n512), (.bool (n508 == 10)), (.bool false)]), (.int .i64 n520), (.int .i64 n508)] H507 (fun v521 H522 =>
 ∃ (p523 : OA) (l524 c525 : Nat), v521 = (.slice p523 l524 c525) ∧ zqb2_8 nx138 nx284 Q E x0 l0 c0 x4 x5 x6 p523 l524 c525 x8 H522) (fun _ _ => False))
 (zqb2_8 nx138 nx284 Q E x0 l0 c0 x4 x5 x6 x7 l7 c7 x8 H507)) E)
 (zqb2_8 nx138 nx284 Q E x0 l0 c0 x4 x5 x6 x7 l7 c7 x8 H))))

def zqb2_15_M (nx138 : Int → HP) (nx284 : Int → OA → Nat → Nat → OA → HP) (τ : Tau) (H : Heap) : Prop := mSl (τ 0) fun x0 l0 c0 => mP (τ 4) fun x4 => mP (τ 5) fun x5 => mI .i64 (τ 6) fun x6 => mSl (τ 7) fun x7 l7 c7 => mP (τ 8) fun x8 => mP (τ 9) fun x9 => mP (τ 10) fun x10 => mV (τ 11) fun x11 => mI .i64 (τ 50) fun x50 => zqb2_15 nx138 nx284 Q E x0 l0 c0 x4 x5 x6 x7 l7 c7 x8 x9 x10 x11 x50 H

theorem zqb2_16ok (nx138 : Int → HP) (nx284 : Int → OA → Nat → Nat → OA → HP) : Ok Pr (zqb2_15_M Q E nx138 nx284) (sE zqb2_p29) (zqb2_q12 Q E nx138 nx284) E := fun τ H h =>
  wSl 0 h (fun x0 l0 c0 h => wP 4 h (fun x4 h => wP 5 h (fun x5 h => wI 6 h (fun x6 h => wSl 7 h (fun x7 l7 c7 h => wP 8 h (fun x8 h => wP 9 h (fun x9 h => wP 10 h (fun x10 h => wV 11 h (fun x11 h => wI 50 h (fun x50 h => (conv (by kernel_rfl) h)))))))))))

def zqb2_17 (nx138 : Int → HP) (nx284 : Int → OA → Nat → Nat → OA → HP) (Q : QT) (E : ET) (x0 : OA) (l0 c0 : Nat) (x4 x5 : OA) (x6 : Int) (x7 : OA) (l7 c7 : Nat) (x8 x9 x10 : OA) (x11 : Value) (x50 : Int) (x51 : Bool) (H : Heap) : Prop :=
 sel x51
 (zqb2_12 nx138 nx284 Q E x0 l0 c0 x4 x5 x6 x7 l7 c7 x8 x9 H)
 (zqb2_15 nx138 nx284 Q E x0 l0 c0 x4 x5 x6 x7 l7 c7 x8 x9 x10 x11 x50 H)

def zqb2_17_M (nx138 : Int → HP) (nx284 : Int → OA → Nat → Nat → OA → HP) (τ : Tau) (H : Heap) : Prop := mSl (τ 0) fun x0 l0 c0 => mP (τ 4) fun x4 => mP (τ 5) fun x5 => mI .i64 (τ 6) fun x6 => mSl (τ 7) fun x7 l7 c7 => mP (τ 8) fun x8 => mP (τ 9) fun x9 => mP (τ 10) fun x10 => mV (τ 11) fun x11 => mI .i64 (τ 50) fun x50 => mB (τ 51) fun x51 => zqb2_17 nx138 nx284 Q E x0 l0 c0 x4 x5 x6 x7 l7 c7 x8 x9 x10 x11 x50 x51 H

theorem zqb2_18ok (nx138 : Int → HP) (nx284 : Int → OA → Nat → Nat → OA → HP) : Ok Pr (zqb2_17_M Q E nx138 nx284) zqb2_p29 (zqb2_q12 Q E nx138 nx284) E := fun τ H h =>
  wSl 0 h (fun x0 l0 c0 h => wP 4 h (fun x4 h => wP 5 h (fun x5 h => wI 6 h (fun x6 h => wSl 7 h (fun x7 l7 c7 h => wP 8 h (fun x8 h => wP 9 h (fun x9 h => wP 10 h (fun x10 h => wV 11 h (fun x11 h => wI 50 h (fun x50 h => wB 51 h (fun x51 h => (conv (by kernel_rfl) (sel_mapT (b := x51) (τ := (Tau.upd (Tau.upd (Tau.upd (Tau.upd (Tau.upd (Tau.upd (Tau.upd (Tau.upd (Tau.upd (Tau.upd (Tau.upd τ 0 (.slice x0 l0 c0)) 4 (.pointer x4)) 5 (.pointer x5)) 6 (.int .i64 x6)) 7 (.slice x7 l7 c7)) 8 (.pointer x8)) 9 (.pointer x9)) 10 (.pointer x10)) 11 x11) 50 (.int .i64 x50)) 51 (.bool x51))) (H := H) (zqb2_14ok Q E nx138 nx284) (zqb2_16ok Q E nx138 nx284) (conv (by kernel_rfl) h))))))))))))))

noncomputable def zqb2_q14 (nx138 : Int → HP) (nx284 : Int → OA → Nat → Nat → OA → HP) : XT := (xthen (zqb2_17_M Q E nx138 nx284) (zqb2_q12 Q E nx138 nx284))

def zqb2_19 (nx138 : Int → HP) (nx284 : Int → OA → Nat → Nat → OA → HP) (Q : QT) (E : ET) (x0 : OA) (l0 c0 : Nat) (x4 x5 : OA) (x6 : Int) (x7 : OA) (l7 c7 : Nat) (x8 x9 x10 : OA) (x11 : Value) (x50 : Int) (H : Heap) : Prop :=
 zqb2_17 nx138 nx284 Q E x0 l0 c0 x4 x5 x6 x7 l7 c7 x8 x9 x10 x11 x50 (x50 == 5) H

def zqb2_19_M (nx138 : Int → HP) (nx284 : Int → OA → Nat → Nat → OA → HP) (τ : Tau) (H : Heap) : Prop := mSl (τ 0) fun x0 l0 c0 => mP (τ 4) fun x4 => mP (τ 5) fun x5 => mI .i64 (τ 6) fun x6 => mSl (τ 7) fun x7 l7 c7 => mP (τ 8) fun x8 => mP (τ 9) fun x9 => mP (τ 10) fun x10 => mV (τ 11) fun x11 => mI .i64 (τ 50) fun x50 => zqb2_19 nx138 nx284 Q E x0 l0 c0 x4 x5 x6 x7 l7 c7 x8 x9 x10 x11 x50 H

theorem zqb2_20ok (nx138 : Int → HP) (nx284 : Int → OA → Nat → Nat → OA → HP) : Ok Pr (zqb2_19_M Q E nx138 nx284) (sA zqb2_p28) (zqb2_q14 Q E nx138 nx284) E := fun τ H h =>
  wSl 0 h (fun x0 l0 c0 h => wP 4 h (fun x4 h => wP 5 h (fun x5 h => wI 6 h (fun x6 h => wSl 7 h (fun x7 l7 c7 h => wP 8 h (fun x8 h => wP 9 h (fun x9 h => wP 10 h (fun x10 h => wV 11 h (fun x11 h => wI 50 h (fun x50 h => (conv (by kernel_rfl) h)))))))))))

theorem zqb2_21ok (nx138 : Int → HP) (nx284 : Int → OA → Nat → Nat → OA → HP) : Ok Pr (zqb2_19_M Q E nx138 nx284) zqb2_p28 (zqb2_q12 Q E nx138 nx284) E := fun τ H h =>
  (conv (by kernel_rfl) (vc_seq (K := (zqb2_17_M Q E nx138 nx284)) (zqb2_20ok Q E nx138 nx284 τ H h) (zqb2_18ok Q E nx138 nx284)))

theorem zqb2_22ok (nx138 : Int → HP) (nx284 : Int → OA → Nat → Nat → OA → HP) : Ok Pr (zqb2_19_M Q E nx138 nx284) (sB zqb2_p26) (xblock 3 (zqb2_q10 Q E nx138 nx284)) E := fun τ H h =>
  (conv (by kernel_rfl) (zqb2_21ok Q E nx138 nx284 τ H h))

noncomputable def zqb2_q15 (nx138 : Int → HP) (nx284 : Int → OA → Nat → Nat → OA → HP) : XT := (xthen (zqb2_19_M Q E nx138 nx284) (xblock 3 (zqb2_q10 Q E nx138 nx284)))

def zqb2_23 (nx138 : Int → HP) (nx284 : Int → OA → Nat → Nat → OA → HP) (Q : QT) (E : ET) (x0 : OA) (l0 c0 : Nat) (x4 x5 : OA) (x6 : Int) (x7 : OA) (l7 c7 : Nat) (x8 x9 x10 : OA) (x11 : Value) (H : Heap) : Prop :=
 ptr x10 fun q526 =>
 ldI .i64 q526 H fun n527 =>
 zqb2_19 nx138 nx284 Q E x0 l0 c0 x4 x5 x6 x7 l7 c7 x8 x9 x10 x11 n527 H

def zqb2_23_M (nx138 : Int → HP) (nx284 : Int → OA → Nat → Nat → OA → HP) (τ : Tau) (H : Heap) : Prop := mSl (τ 0) fun x0 l0 c0 => mP (τ 4) fun x4 => mP (τ 5) fun x5 => mI .i64 (τ 6) fun x6 => mSl (τ 7) fun x7 l7 c7 => mP (τ 8) fun x8 => mP (τ 9) fun x9 => mP (τ 10) fun x10 => mV (τ 11) fun x11 => zqb2_23 nx138 nx284 Q E x0 l0 c0 x4 x5 x6 x7 l7 c7 x8 x9 x10 x11 H

theorem zqb2_24ok (nx138 : Int → HP) (nx284 : Int → OA → Nat → Nat → OA → HP) : Ok Pr (zqb2_23_M Q E nx138 nx284) (sA zqb2_p26) (zqb2_q15 Q E nx138 nx284) E := fun τ H h =>
  wSl 0 h (fun x0 l0 c0 h => wP 4 h (fun x4 h => wP 5 h (fun x5 h => wI 6 h (fun x6 h => wSl 7 h (fun x7 l7 c7 h => wP 8 h (fun x8 h => wP 9 h (fun x9 h => wP 10 h (fun x10 h => wV 11 h (fun x11 h => (conv (by kernel_rfl) h))))))))))

theorem zqb2_25ok (nx138 : Int → HP) (nx284 : Int → OA → Nat → Nat → OA → HP) : Ok Pr (zqb2_23_M Q E nx138 nx284) zqb2_p26 (xblock 3 (zqb2_q10 Q E nx138 nx284)) E := fun τ H h =>
  (conv (by kernel_rfl) (vc_seq (K := (zqb2_19_M Q E nx138 nx284)) (zqb2_24ok Q E nx138 nx284 τ H h) (zqb2_22ok Q E nx138 nx284)))

noncomputable def zqb2_q16 (nx138 : Int → HP) (nx284 : Int → OA → Nat → Nat → OA → HP) : XT := (xthen (zqb2_23_M Q E nx138 nx284) (xblock 3 (zqb2_q10 Q E nx138 nx284)))

def zqb2_26 (nx138 : Int → HP) (nx284 : Int → OA → Nat → Nat → OA → HP) (Q : QT) (E : ET) (x0 : OA) (l0 c0 : Nat) (x4 x5 : OA) (x6 : Int) (x7 : OA) (l7 c7 : Nat) (x8 x9 x10 : OA) (H : Heap) : Prop :=
 zqb2_23 nx138 nx284 Q E x0 l0 c0 x4 x5 x6 x7 l7 c7 x8 x9 x10 (.func (.func 65) #[] #[(.pointer x4), (.pointer x5), (.pointer x9), (.pointer x8)]) H

def zqb2_26_M (nx138 : Int → HP) (nx284 : Int → OA → Nat → Nat → OA → HP) (τ : Tau) (H : Heap) : Prop := mSl (τ 0) fun x0 l0 c0 => mP (τ 4) fun x4 => mP (τ 5) fun x5 => mI .i64 (τ 6) fun x6 => mSl (τ 7) fun x7 l7 c7 => mP (τ 8) fun x8 => mP (τ 9) fun x9 => mP (τ 10) fun x10 => zqb2_26 nx138 nx284 Q E x0 l0 c0 x4 x5 x6 x7 l7 c7 x8 x9 x10 H

theorem zqb2_27ok (nx138 : Int → HP) (nx284 : Int → OA → Nat → Nat → OA → HP) : Ok Pr (zqb2_26_M Q E nx138 nx284) (sA (sB zqb2_p24)) (zqb2_q16 Q E nx138 nx284) E := fun τ H h =>
  wSl 0 h (fun x0 l0 c0 h => wP 4 h (fun x4 h => wP 5 h (fun x5 h => wI 6 h (fun x6 h => wSl 7 h (fun x7 l7 c7 h => wP 8 h (fun x8 h => wP 9 h (fun x9 h => wP 10 h (fun x10 h => (conv (by kernel_rfl) h)))))))))

theorem zqb2_28ok (nx138 : Int → HP) (nx284 : Int → OA → Nat → Nat → OA → HP) : Ok Pr (zqb2_26_M Q E nx138 nx284) (sB zqb2_p24) (xblock 3 (zqb2_q10 Q E nx138 nx284)) E := fun τ H h =>
  (conv (by kernel_rfl) (vc_seq (K := (zqb2_23_M Q E nx138 nx284)) (zqb2_27ok Q E nx138 nx284 τ H h) (zqb2_25ok Q E nx138 nx284)))

noncomputable def zqb2_q17 (nx138 : Int → HP) (nx284 : Int → OA → Nat → Nat → OA → HP) : XT := (xthen (zqb2_26_M Q E nx138 nx284) (xblock 3 (zqb2_q10 Q E nx138 nx284)))

def zqb2_29 (nx138 : Int → HP) (nx284 : Int → OA → Nat → Nat → OA → HP) (Q : QT) (E : ET) (x0 : OA) (l0 c0 : Nat) (x4 x5 : OA) (x6 : Int) (x7 : OA) (l7 c7 : Nat) (x8 x9 : OA) (H : Heap) : Prop :=
 ptr x9 fun q528 =>
 ldI .i64 q528 H fun n529 =>
 (0 ≤ n529 ∧ n529 < (l0 : Int)) ∧ ptr x0 fun q530 =>
 ∃ n531 n532 n533 n534 n535 n536 n537 : Int, Heap.rd H (Addr.add q530 (n529.toNat * 7)) 0 [(.int .i64 n531), (.int .i64 n532), (.int .i64 n533), (.int .u64 n534), (.int .u64 n535), (.int .u64 n536), (.int .u64 n537)] ∧ nw (.cells #[(.int .i64 0), (.int .i64 0), (.int .i64 0), (.int .u64 0), (.int .u64 0), (.int .u64 0), (.int .u64 0)] 91 (0, 0)) H fun i538 H539 =>
 wr ⟨i538, 0, none⟩ [(.int .i64 n531), (.int .i64 n532), (.int .i64 n533), (.int .u64 n534), (.int .u64 n535), (.int .u64 n536), (.int .u64 n537)] H539 fun H540 =>
 zqb2_26 nx138 nx284 Q E x0 l0 c0 x4 x5 x6 x7 l7 c7 x8 x9 (some ⟨i538, 0, none⟩) H540

def zqb2_29_M (nx138 : Int → HP) (nx284 : Int → OA → Nat → Nat → OA → HP) (τ : Tau) (H : Heap) : Prop := mSl (τ 0) fun x0 l0 c0 => mP (τ 4) fun x4 => mP (τ 5) fun x5 => mI .i64 (τ 6) fun x6 => mSl (τ 7) fun x7 l7 c7 => mP (τ 8) fun x8 => mP (τ 9) fun x9 => zqb2_29 nx138 nx284 Q E x0 l0 c0 x4 x5 x6 x7 l7 c7 x8 x9 H

theorem zqb2_30ok (nx138 : Int → HP) (nx284 : Int → OA → Nat → Nat → OA → HP) : Ok Pr (zqb2_29_M Q E nx138 nx284) (sA zqb2_p24) (zqb2_q17 Q E nx138 nx284) E := fun τ H h =>
  wSl 0 h (fun x0 l0 c0 h => wP 4 h (fun x4 h => wP 5 h (fun x5 h => wI 6 h (fun x6 h => wSl 7 h (fun x7 l7 c7 h => wP 8 h (fun x8 h => wP 9 h (fun x9 h => (conv (by kernel_rfl) h))))))))

theorem zqb2_31ok (nx138 : Int → HP) (nx284 : Int → OA → Nat → Nat → OA → HP) : Ok Pr (zqb2_29_M Q E nx138 nx284) zqb2_p24 (xblock 3 (zqb2_q10 Q E nx138 nx284)) E := fun τ H h =>
  (conv (by kernel_rfl) (vc_seq (K := (zqb2_26_M Q E nx138 nx284)) (zqb2_30ok Q E nx138 nx284 τ H h) (zqb2_28ok Q E nx138 nx284)))

noncomputable def zqb2_q18 (nx138 : Int → HP) (nx284 : Int → OA → Nat → Nat → OA → HP) : XT := (xthen (zqb2_29_M Q E nx138 nx284) (xblock 3 (zqb2_q10 Q E nx138 nx284)))

def zqb2_32 (nx138 : Int → HP) (nx284 : Int → OA → Nat → Nat → OA → HP) (Q : QT) (E : ET) (x0 : OA) (l0 c0 : Nat) (x4 x5 : OA) (x6 : Int) (x7 : OA) (l7 c7 : Nat) (x8 : OA) (H : Heap) : Prop :=
 ptr x4 fun q541 =>
 ldP q541 H fun p542 =>
 ptr p542 fun q543 =>
 ldSl (Addr.add q543 2) H fun p544 l545 c546 =>
 ptr x5 fun q547 =>
 ldSl q547 H fun p548 l549 c550 =>
 ptr x8 fun q551 =>
 ldI .i64 q551 H fun n552 =>
 (0 ≤ n552 ∧ n552 < (l549 : Int)) ∧ ptr p548 fun q553 =>
 ldI .i64 (Addr.add q553 (n552.toNat * 1)) H fun n554 =>
 (0 ≤ n554 ∧ n554 < (l545 : Int)) ∧ ptr p544 fun q555 =>
 ∃ n556 : Int, ∃ b557 : Bool, ∃ b558 : Bool, ∃ n559 n560 : Int, Heap.rd H (Addr.add q555 (n554.toNat * 5)) 0 [(.int .i64 n556), (.bool b557), (.bool b558), (.int .i64 n559), (.int .i64 n560)] ∧ nw (.cells #[(.int .i64 0), (.bool false), (.bool false), (.int .i64 0), (.int .i64 0)] 102 (0, 0)) H fun i561 H562 =>
 wr ⟨i561, 0, none⟩ [(.int .i64 n556), (.bool b557), (.bool b558), (.int .i64 n559), (.int .i64 n560)] H562 fun H563 =>
 zqb2_29 nx138 nx284 Q E x0 l0 c0 x4 x5 x6 x7 l7 c7 x8 (some ⟨i561, 0, none⟩) H563

def zqb2_32_M (nx138 : Int → HP) (nx284 : Int → OA → Nat → Nat → OA → HP) (τ : Tau) (H : Heap) : Prop := mSl (τ 0) fun x0 l0 c0 => mP (τ 4) fun x4 => mP (τ 5) fun x5 => mI .i64 (τ 6) fun x6 => mSl (τ 7) fun x7 l7 c7 => mP (τ 8) fun x8 => zqb2_32 nx138 nx284 Q E x0 l0 c0 x4 x5 x6 x7 l7 c7 x8 H

theorem zqb2_33ok (nx138 : Int → HP) (nx284 : Int → OA → Nat → Nat → OA → HP) : Ok Pr (zqb2_32_M Q E nx138 nx284) (sA (sI (sA zqb2_p20))) (zqb2_q18 Q E nx138 nx284) E := fun τ H h =>
  wSl 0 h (fun x0 l0 c0 h => wP 4 h (fun x4 h => wP 5 h (fun x5 h => wI 6 h (fun x6 h => wSl 7 h (fun x7 l7 c7 h => wP 8 h (fun x8 h => (conv (by kernel_rfl) h)))))))

theorem zqb2_34ok (nx138 : Int → HP) (nx284 : Int → OA → Nat → Nat → OA → HP) : Ok Pr (zqb2_32_M Q E nx138 nx284) (sI (sA zqb2_p20)) (xblock 3 (zqb2_q10 Q E nx138 nx284)) E := fun τ H h =>
  (conv (by kernel_rfl) (vc_seq (K := (zqb2_29_M Q E nx138 nx284)) (zqb2_33ok Q E nx138 nx284 τ H h) (zqb2_31ok Q E nx138 nx284)))

theorem zqb2_35ok (nx138 : Int → HP) (nx284 : Int → OA → Nat → Nat → OA → HP) : Ok Pr (zqb2_32_M Q E nx138 nx284) (sA zqb2_p20) (zqb2_q10 Q E nx138 nx284) E := fun τ H h =>
  (conv (by kernel_rfl) (zqb2_34ok Q E nx138 nx284 τ H h))

theorem zqb2_36ok (nx138 : Int → HP) (nx284 : Int → OA → Nat → Nat → OA → HP) : Ok Pr (zqb2_32_M Q E nx138 nx284) zqb2_p20 (zqb2_q9 Q E nx138 nx284) E := fun τ H h =>
  (conv (by kernel_rfl) (vc_seq (K := (zqb2_8_M Q E nx138 nx284)) (zqb2_35ok Q E nx138 nx284 τ H h) (zqb2_9ok Q E nx138 nx284)))

noncomputable def zqb2_q19 (nx138 : Int → HP) (nx284 : Int → OA → Nat → Nat → OA → HP) : XT := (xthen (zqb2_32_M Q E nx138 nx284) (zqb2_q9 Q E nx138 nx284))

def zqb2_37 (nx138 : Int → HP) (nx284 : Int → OA → Nat → Nat → OA → HP) (Q : QT) (E : ET) (x0 : OA) (l0 c0 : Nat) (x4 x5 : OA) (x6 : Int) (x7 : OA) (l7 c7 : Nat) (x8 : OA) (H : Heap) : Prop :=
 ptr x8 fun q564 =>
 ldI .i64 q564 H fun n565 =>
 ptr x5 fun q566 =>
 ldSl q566 H fun p567 l568 c569 =>
 sel (decide (n565 < (l568 : Int)))
 (zqb2_32 nx138 nx284 Q E x0 l0 c0 x4 x5 x6 x7 l7 c7 x8 H)
 (zqb2_5 nx138 Q E x0 l0 c0 x4 x5 x6 x7 l7 c7 H)

def zqb2_37_M (nx138 : Int → HP) (nx284 : Int → OA → Nat → Nat → OA → HP) (τ : Tau) (H : Heap) : Prop := mSl (τ 0) fun x0 l0 c0 => mP (τ 4) fun x4 => mP (τ 5) fun x5 => mI .i64 (τ 6) fun x6 => mSl (τ 7) fun x7 l7 c7 => mP (τ 8) fun x8 => zqb2_37 nx138 nx284 Q E x0 l0 c0 x4 x5 x6 x7 l7 c7 x8 H

theorem zqb2_38ok (nx138 : Int → HP) (nx284 : Int → OA → Nat → Nat → OA → HP) : Ok Pr (zqb2_37_M Q E nx138 nx284) (sA (sI zqb2_p18)) (zqb2_q19 Q E nx138 nx284) E := fun τ H h =>
  wSl 0 h (fun x0 l0 c0 h => wP 4 h (fun x4 h => wP 5 h (fun x5 h => wI 6 h (fun x6 h => wSl 7 h (fun x7 l7 c7 h => wP 8 h (fun x8 h => (conv (by kernel_rfl) h)))))))

theorem zqb2_39ok (nx138 : Int → HP) (nx284 : Int → OA → Nat → Nat → OA → HP) : Ok Pr (zqb2_37_M Q E nx138 nx284) (sI zqb2_p18) (zqb2_q9 Q E nx138 nx284) E := fun τ H h =>
  (conv (by kernel_rfl) (vc_seq (K := (zqb2_32_M Q E nx138 nx284)) (zqb2_38ok Q E nx138 nx284 τ H h) (zqb2_36ok Q E nx138 nx284)))

def zqb2_40 (nx138 : Int → HP) (Q : QT) (E : ET) (x0 : OA) (l0 c0 : Nat) (x4 x5 : OA) (x6 : Int) (x7 : OA) (l7 c7 : Nat) (x8 : OA) (H : Heap) : Prop :=
 ∃ (I : Int → OA → Nat → Nat → OA → HP) (μ : Int → OA → Nat → Nat → OA → Heap → Nat), I x6 x7 l7 c7 x8 H ∧ ∀ (x6 : Int) (x7 : OA) (l7 c7 : Nat) (x8 : OA) (H : Heap), I x6 x7 l7 c7 x8 H →
 zqb2_37 nx138 (fun x6' x7' l7' c7' x8' H1 => I x6' x7' l7' c7' x8' H1 ∧ μ x6' x7' l7' c7' x8' H1 < μ x6 x7 l7 c7 x8 H) Q E x0 l0 c0 x4 x5 x6 x7 l7 c7 x8 H

def zqb2_40_M (nx138 : Int → HP) (τ : Tau) (H : Heap) : Prop := mSl (τ 0) fun x0 l0 c0 => mP (τ 4) fun x4 => mP (τ 5) fun x5 => mI .i64 (τ 6) fun x6 => mSl (τ 7) fun x7 l7 c7 => mP (τ 8) fun x8 => zqb2_40 nx138 Q E x0 l0 c0 x4 x5 x6 x7 l7 c7 x8 H

theorem zqb2_41ok (nx138 : Int → HP) : Ok Pr (zqb2_40_M Q E nx138) zqb2_p18 (xblock 2 (zqb2_q7 Q E nx138)) E := fun τ H h =>
  wSl 0 h (fun x0 l0 c0 h => wP 4 h (fun x4 h => wP 5 h (fun x5 h => wI 6 h (fun x6 h => wSl 7 h (fun x7 l7 c7 h => wP 8 h (fun x8 h => match h with | ⟨I, μ, h0, hr⟩ => (conv (by kernel_rfl) (vc_loopG (c := sI zqb2_p18) (τ := (Tau.upd (Tau.upd (Tau.upd (Tau.upd (Tau.upd (Tau.upd τ 0 (.slice x0 l0 c0)) 4 (.pointer x4)) 5 (.pointer x5)) 6 (.int .i64 x6)) 7 (.slice x7 l7 c7)) 8 (.pointer x8))) [0, 4, 5] (fun τ H => mI .i64 (τ 6) fun x6' => mSl (τ 7) fun x7' l7' c7' => mP (τ 8) fun x8' => I x6' x7' l7' c7' x8' H) (fun τ H => μ (gI (τ 6)) (gL1 (τ 7)) (gL2 (τ 7)) (gL3 (τ 7)) (gP (τ 8)) H) (by kernel_rfl) h0 (fun τ1 H1 hf hI => uF 0 (.slice x0 l0 c0) (hf 0 (by simp)) (uF 4 (.pointer x4) (hf 4 (by simp)) (uF 5 (.pointer x5) (hf 5 (by simp)) (uI 6 hI (fun x6r h => uSl 7 h (fun x7r l7r c7r h => uP 8 h (fun x8r h => lgx (zqb2_39ok Q E nx138 (fun x6' x7' l7' c7' x8' H2 => I x6' x7' l7' c7' x8' H2 ∧ μ x6' x7' l7' c7' x8' H2 < μ x6r x7r l7r c7r x8r H1) (Tau.upd (Tau.upd (Tau.upd (Tau.upd (Tau.upd (Tau.upd τ1 0 (.slice x0 l0 c0)) 4 (.pointer x4)) 5 (.pointer x5)) 6 (.int .i64 x6r)) 7 (.slice x7r l7r c7r)) 8 (.pointer x8r)) H1 (conv (by kernel_rfl) (hr x6r x7r l7r c7r x8r H1 h))) (fun τ2 H2 hk => kI 6 hk (fun x6' h => kSl 7 h (fun x7' l7' c7' h => kP 8 h (fun x8' h => conv (by kernel_rfl) h)))))))))))))))))))

theorem zqb2_42ok (nx138 : Int → HP) : Ok Pr (zqb2_40_M Q E nx138) (sB (sA zqb2_p12)) (zqb2_q7 Q E nx138) E := fun τ H h =>
  (conv (by kernel_rfl) (zqb2_41ok Q E nx138 τ H h))

noncomputable def zqb2_q20 (nx138 : Int → HP) : XT := (xthen (zqb2_40_M Q E nx138) (zqb2_q7 Q E nx138))

def zqb2_43 (nx138 : Int → HP) (Q : QT) (E : ET) (x0 : OA) (l0 c0 : Nat) (x4 x5 : OA) (x6 : Int) (x7 : OA) (l7 c7 : Nat) (H : Heap) : Prop :=
 nw (.cells #[(.int .i64 0)] 3 (0, 0)) H fun i570 H571 =>
 wr ⟨i570, 0, none⟩ [(.int .i64 0)] H571 fun H572 =>
 zqb2_40 nx138 Q E x0 l0 c0 x4 x5 x6 x7 l7 c7 (some ⟨i570, 0, none⟩) H572

def zqb2_43_M (nx138 : Int → HP) (τ : Tau) (H : Heap) : Prop := mSl (τ 0) fun x0 l0 c0 => mP (τ 4) fun x4 => mP (τ 5) fun x5 => mI .i64 (τ 6) fun x6 => mSl (τ 7) fun x7 l7 c7 => zqb2_43 nx138 Q E x0 l0 c0 x4 x5 x6 x7 l7 c7 H

theorem zqb2_44ok (nx138 : Int → HP) : Ok Pr (zqb2_43_M Q E nx138) (sA (sA zqb2_p12)) (zqb2_q20 Q E nx138) E := fun τ H h =>
  wSl 0 h (fun x0 l0 c0 h => wP 4 h (fun x4 h => wP 5 h (fun x5 h => wI 6 h (fun x6 h => wSl 7 h (fun x7 l7 c7 h => (conv (by kernel_rfl) h))))))

theorem zqb2_45ok (nx138 : Int → HP) : Ok Pr (zqb2_43_M Q E nx138) (sA zqb2_p12) (zqb2_q7 Q E nx138) E := fun τ H h =>
  (conv (by kernel_rfl) (vc_seq (K := (zqb2_40_M Q E nx138)) (zqb2_44ok Q E nx138 τ H h) (zqb2_42ok Q E nx138)))

theorem zqb2_46ok (nx138 : Int → HP) : Ok Pr (zqb2_43_M Q E nx138) zqb2_p12 (zqb2_q5 Q E nx138) E := fun τ H h =>
  (conv (by kernel_rfl) (vc_seq (K := (zqb2_5_M Q E nx138)) (zqb2_45ok Q E nx138 τ H h) (zqb2_7ok Q E nx138)))

noncomputable def zqb2_q21 (nx138 : Int → HP) : XT := (xthen (zqb2_43_M Q E nx138) (zqb2_q5 Q E nx138))

def zqb2_47 (nx138 : Int → HP) (Q : QT) (E : ET) (x0 : OA) (l0 c0 : Nat) (x4 x5 : OA) (x6 : Int) (H : Heap) : Prop :=
 zqb2_43 nx138 Q E x0 l0 c0 x4 x5 x6 none 0 0 H

def zqb2_47_M (nx138 : Int → HP) (τ : Tau) (H : Heap) : Prop := mSl (τ 0) fun x0 l0 c0 => mP (τ 4) fun x4 => mP (τ 5) fun x5 => mI .i64 (τ 6) fun x6 => zqb2_47 nx138 Q E x0 l0 c0 x4 x5 x6 H

theorem zqb2_48ok (nx138 : Int → HP) : Ok Pr (zqb2_47_M Q E nx138) (sA (sI (sB zqb2_p9))) (zqb2_q21 Q E nx138) E := fun τ H h =>
  wSl 0 h (fun x0 l0 c0 h => wP 4 h (fun x4 h => wP 5 h (fun x5 h => wI 6 h (fun x6 h => (conv (by kernel_rfl) h)))))

theorem zqb2_49ok (nx138 : Int → HP) : Ok Pr (zqb2_47_M Q E nx138) (sI (sB zqb2_p9)) (zqb2_q5 Q E nx138) E := fun τ H h =>
  (conv (by kernel_rfl) (vc_seq (K := (zqb2_43_M Q E nx138)) (zqb2_48ok Q E nx138 τ H h) (zqb2_46ok Q E nx138)))

theorem zqb2_50ok (nx138 : Int → HP) : Ok Pr (zqb2_47_M Q E nx138) (sB zqb2_p9) (zqb2_q4 Q E nx138) E := fun τ H h =>
  (conv (by kernel_rfl) (zqb2_49ok Q E nx138 τ H h))

noncomputable def zqb2_q22 (nx138 : Int → HP) : XT := (xthen (zqb2_47_M Q E nx138) (zqb2_q4 Q E nx138))

def zqb2_51 (nx138 : Int → HP) (Q : QT) (E : ET) (x0 : OA) (l0 c0 : Nat) (x4 x5 : OA) (x6 : Int) (H : Heap) : Prop :=
 ptr x5 fun q573 =>
 ldSl q573 H fun p574 l575 c576 =>
 sel (decide (((l575 : Int) : Int) > 0))
 (zqb2_47 nx138 Q E x0 l0 c0 x4 x5 x6 H)
 (zqb2_1 Q E  H)

def zqb2_51_M (nx138 : Int → HP) (τ : Tau) (H : Heap) : Prop := mSl (τ 0) fun x0 l0 c0 => mP (τ 4) fun x4 => mP (τ 5) fun x5 => mI .i64 (τ 6) fun x6 => zqb2_51 nx138 Q E x0 l0 c0 x4 x5 x6 H

theorem zqb2_52ok (nx138 : Int → HP) : Ok Pr (zqb2_51_M Q E nx138) (sA zqb2_p9) (zqb2_q22 Q E nx138) E := fun τ H h =>
  wSl 0 h (fun x0 l0 c0 h => wP 4 h (fun x4 h => wP 5 h (fun x5 h => wI 6 h (fun x6 h => (conv (by kernel_rfl) h)))))

theorem zqb2_53ok (nx138 : Int → HP) : Ok Pr (zqb2_51_M Q E nx138) zqb2_p9 (zqb2_q4 Q E nx138) E := fun τ H h =>
  (conv (by kernel_rfl) (vc_seq (K := (zqb2_47_M Q E nx138)) (zqb2_52ok Q E nx138 τ H h) (zqb2_50ok Q E nx138)))

def zqb2_54 (Q : QT) (E : ET) (x0 : OA) (l0 c0 : Nat) (x4 x5 : OA) (x6 : Int) (H : Heap) : Prop :=
 ∃ (I : Int → HP) (μ : Int → Heap → Nat), I x6 H ∧ ∀ (x6 : Int) (H : Heap), I x6 H →
 zqb2_51 (fun x6' H1 => I x6' H1 ∧ μ x6' H1 < μ x6 H) Q E x0 l0 c0 x4 x5 x6 H

def zqb2_54_M  (τ : Tau) (H : Heap) : Prop := mSl (τ 0) fun x0 l0 c0 => mP (τ 4) fun x4 => mP (τ 5) fun x5 => mI .i64 (τ 6) fun x6 => zqb2_54 Q E x0 l0 c0 x4 x5 x6 H

theorem zqb2_55ok  : Ok Pr (zqb2_54_M Q E) (sI (sA (sB zqb2_p4))) (xblock 0 (zqb2_q2 Q E)) E := fun τ H h =>
  wSl 0 h (fun x0 l0 c0 h => wP 4 h (fun x4 h => wP 5 h (fun x5 h => wI 6 h (fun x6 h => match h with | ⟨I, μ, h0, hr⟩ => (conv (by kernel_rfl) (vc_loopG (c := sI (sI (sA (sB zqb2_p4)))) (τ := (Tau.upd (Tau.upd (Tau.upd (Tau.upd τ 0 (.slice x0 l0 c0)) 4 (.pointer x4)) 5 (.pointer x5)) 6 (.int .i64 x6))) [0, 4, 5] (fun τ H => mI .i64 (τ 6) fun x6' => I x6' H) (fun τ H => μ (gI (τ 6)) H) (by kernel_rfl) h0 (fun τ1 H1 hf hI => uF 0 (.slice x0 l0 c0) (hf 0 (by simp)) (uF 4 (.pointer x4) (hf 4 (by simp)) (uF 5 (.pointer x5) (hf 5 (by simp)) (uI 6 hI (fun x6r h => lgx (zqb2_53ok Q E (fun x6' H2 => I x6' H2 ∧ μ x6' H2 < μ x6r H1) (Tau.upd (Tau.upd (Tau.upd (Tau.upd τ1 0 (.slice x0 l0 c0)) 4 (.pointer x4)) 5 (.pointer x5)) 6 (.int .i64 x6r)) H1 (conv (by kernel_rfl) (hr x6r H1 h))) (fun τ2 H2 hk => kI 6 hk (fun x6' h => conv (by kernel_rfl) h)))))))))))))

theorem zqb2_56ok  : Ok Pr (zqb2_54_M Q E) (sA (sB zqb2_p4)) (zqb2_q2 Q E) E := fun τ H h =>
  (conv (by kernel_rfl) (zqb2_55ok Q E τ H h))

theorem zqb2_57ok  : Ok Pr (zqb2_54_M Q E) (sB zqb2_p4) (zqb2_q1 Q E) E := fun τ H h =>
  (conv (by kernel_rfl) (vc_seq (K := (zqb2_1_M Q E)) (zqb2_56ok Q E τ H h) (zqb2_2ok Q E)))

noncomputable def zqb2_q23  : XT := (xthen (zqb2_54_M Q E) (zqb2_q1 Q E))

def zqb2_58 (Q : QT) (E : ET) (x0 : OA) (l0 c0 : Nat) (x4 x5 : OA) (H : Heap) : Prop :=
 zqb2_54 Q E x0 l0 c0 x4 x5 (-1) H

def zqb2_58_M  (τ : Tau) (H : Heap) : Prop := mSl (τ 0) fun x0 l0 c0 => mP (τ 4) fun x4 => mP (τ 5) fun x5 => zqb2_58 Q E x0 l0 c0 x4 x5 H

theorem zqb2_59ok  : Ok Pr (zqb2_58_M Q E) (sA zqb2_p4) (zqb2_q23 Q E) E := fun τ H h =>
  wSl 0 h (fun x0 l0 c0 h => wP 4 h (fun x4 h => wP 5 h (fun x5 h => (conv (by kernel_rfl) h))))

theorem zqb2_60ok  : Ok Pr (zqb2_58_M Q E) zqb2_p4 (zqb2_q1 Q E) E := fun τ H h =>
  (conv (by kernel_rfl) (vc_seq (K := (zqb2_54_M Q E)) (zqb2_59ok Q E τ H h) (zqb2_57ok Q E)))

noncomputable def zqb2_q24  : XT := (xthen (zqb2_58_M Q E) (zqb2_q1 Q E))

def zqb2_61 (Q : QT) (E : ET) (x0 : OA) (l0 c0 : Nat) (x4 : OA) (H : Heap) : Prop :=
 ptr x4 fun q577 =>
 ldP q577 H fun p578 =>
 Does Pr 64 #[(.pointer p578), (.slice none 0 0), (.agg #[(.int .i64 0), (.bool true), (.bool false)]), (.int .i64 (-1)), (.int .i64 (-1))] H (fun v579 H580 =>
 ∃ (p581 : OA) (l582 c583 : Nat), v579 = (.slice p581 l582 c583) ∧ nw (.cells #[(.slice none 0 0)] 22 (0, 0)) H580 fun i584 H585 =>
 wr ⟨i584, 0, none⟩ [(.slice p581 l582 c583)] H585 fun H586 =>
 zqb2_58 Q E x0 l0 c0 x4 (some ⟨i584, 0, none⟩) H586) E

def zqb2_61_M  (τ : Tau) (H : Heap) : Prop := mSl (τ 0) fun x0 l0 c0 => mP (τ 4) fun x4 => zqb2_61 Q E x0 l0 c0 x4 H

theorem zqb2_62ok  : Ok Pr (zqb2_61_M Q E) (sA (sB (sB zqb2_p1))) (zqb2_q24 Q E) E := fun τ H h =>
  wSl 0 h (fun x0 l0 c0 h => wP 4 h (fun x4 h => (conv (by kernel_rfl) h)))

theorem zqb2_63ok  : Ok Pr (zqb2_61_M Q E) (sB (sB zqb2_p1)) (zqb2_q1 Q E) E := fun τ H h =>
  (conv (by kernel_rfl) (vc_seq (K := (zqb2_58_M Q E)) (zqb2_62ok Q E τ H h) (zqb2_60ok Q E)))

def zqb2_64 (Q : QT) (E : ET) (x0 : OA) (l0 c0 : Nat) (H : Heap) : Prop :=
 nw (.map #[] 0) H fun i587 H588 =>
 nw (.cells #[(.slice x0 l0 c0), (.map (some i587)), (.slice none 0 0)] 97 (0, 0)) H588 fun i589 H590 =>
 nw (.cells #[(.pointer none)] 93 (0, 0)) H590 fun i591 H592 =>
 wr ⟨i591, 0, none⟩ [(.pointer (some ⟨i589, 0, none⟩))] H592 fun H593 =>
 zqb2_61 Q E x0 l0 c0 (some ⟨i591, 0, none⟩) H593

def zqb2_64_M  (τ : Tau) (H : Heap) : Prop := mSl (τ 0) fun x0 l0 c0 => zqb2_64 Q E x0 l0 c0 H

theorem zqb2_65ok  : Ok Pr (zqb2_64_M Q E) (sA (sB zqb2_p1)) (xthen (zqb2_61_M Q E) (zqb2_q1 Q E)) E := fun τ H h =>
  wSl 0 h (fun x0 l0 c0 h => (conv (by kernel_rfl) h))

theorem zqb2_66ok  : Ok Pr (zqb2_64_M Q E) (sB zqb2_p1) (zqb2_q1 Q E) E := fun τ H h =>
  (conv (by kernel_rfl) (vc_seq (K := (zqb2_61_M Q E)) (zqb2_65ok Q E τ H h) (zqb2_63ok Q E)))

def zqb2_67 (Q : QT) (E : ET) (x0 : OA) (l0 c0 : Nat) (H : Heap) : Prop :=
 Does Pr 62 #[(.slice x0 l0 c0)] H (fun v594 H595 =>
 ∃ b596 : Bool, v594 = (.bool b596) ∧ sel (!b596)
 (Q (.tuple #[(.slice none 0 0), (.bool false)]) H595)
 (zqb2_64 Q E x0 l0 c0 H595)) E

def zqb2_67_M  (τ : Tau) (H : Heap) : Prop := mSl (τ 0) fun x0 l0 c0 => zqb2_67 Q E x0 l0 c0 H

theorem zqb2_68ok  : Ok Pr (zqb2_67_M Q E) (sA zqb2_p1) (xthen (zqb2_64_M Q E) (zqb2_q1 Q E)) E := fun τ H h =>
  wSl 0 h (fun x0 l0 c0 h => (conv (by kernel_rfl) h))

theorem zqb2_69ok  : Ok Pr (zqb2_67_M Q E) zqb2_p1 (zqb2_q1 Q E) E := fun τ H h =>
  (conv (by kernel_rfl) (vc_seq (K := (zqb2_64_M Q E)) (zqb2_68ok Q E τ H h) (zqb2_66ok Q E)))

def zqb2 (Q : QT) (E : ET) (a0 : OA) (a0l : Nat) (a0c : Nat) (H : Heap) : Prop :=
 zqb2_67 Q E a0 a0l a0c H

theorem zqb2_fn (a0 : OA) (a0l : Nat) (a0c : Nat) (Q : QT) (E : ET) (H : Heap) (h : zqb2 Q E a0 a0l a0c H)   : Does Pr 37 #[(.slice a0 a0l a0c)] H Q E :=
  Fn_of_vc (fn := Try.f37) (c := (bodyOf Try.f37)) (args := [(.slice a0 a0l a0c)]) mixed (by kernel_rfl) (by kernel_rfl) (by kernel_rfl) (by kernel_rfl) (by kernel_rfl) ((conv (B := vc Pr (bodyOf Try.f37) (argT [(.slice a0 a0l a0c)]) (zqb2_q1 Q E) E H) (by kernel_rfl) (vc_seq (K := (zqb2_67_M Q E)) (conv (B := vc Pr (sA (bodyOf Try.f37)) (argT [(.slice a0 a0l a0c)]) (xthen (zqb2_67_M Q E) (zqb2_q1 Q E)) E H) (by kernel_rfl) h) (zqb2_69ok Q E))))

/-! jobmux/nfa.valid -/
noncomputable def zqc2_q1 (Q : QT) (E : ET) : XT := (retQ Pr (Try.f62).results.toList Q)

def zqc2_1 (Q : QT) (E : ET) (x1 : OA) (H : Heap) : Prop :=
 ptr x1 fun q26 =>
 ldSl q26 H fun p27 l28 c29 =>
 sel (decide (((l28 : Int) : Int) ≥ 1))
 (ptr x1 fun q30 =>
 ldSl q30 H fun p31 l32 c33 =>
 Q (.bool (decide (((l32 : Int) : Int) ≤ 513))) H)
 (Q (.bool false) H)

def zqc2_1_M  (τ : Tau) (H : Heap) : Prop := mP (τ 1) fun x1 => zqc2_1 Q E x1 H

theorem zqc2_2ok  : Ok Pr (zqc2_1_M Q E) (sB (sB (sB (bodyOf Try.f62)))) (zqc2_q1 Q E) E := fun τ H h =>
  wP 1 h (fun x1 h => (conv (by kernel_rfl) h))

noncomputable def zqc2_q2  : XT := (xthen (zqc2_1_M Q E) (zqc2_q1 Q E))

noncomputable def zqc2_p4 : Code := sA (sB (sB (bodyOf Try.f62)))

noncomputable def zqc2_q3  : XT := (xblock 0 (zqc2_q2 Q E))

noncomputable def zqc2_q4 (nx37 : Int → HP) : XT := (xthen (fun τ H => mI .i64 (τ 9) fun x9' => nx37 x9' H) (zqc2_q3 Q E))

noncomputable def zqc2_p7 : Code := sI (sI (sB zqc2_p4))

noncomputable def zqc2_p9 : Code := sB (sB zqc2_p7)

def zqc2_3 (nx37 : Int → HP) (Q : QT) (E : ET) (x1 : OA) (x3 : Value) (x7 : OA) (l7 c7 : Nat) (x8 x9 : Int) (H : Heap) : Prop :=
 nx37 (IntKind.wrap .i64 (x9 + 1)) H

def zqc2_3_M (nx37 : Int → HP) (τ : Tau) (H : Heap) : Prop := mP (τ 1) fun x1 => mV (τ 3) fun x3 => mSl (τ 7) fun x7 l7 c7 => mI .i64 (τ 8) fun x8 => mI .i64 (τ 9) fun x9 => zqc2_3 nx37 Q E x1 x3 x7 l7 c7 x8 x9 H

theorem zqc2_4ok (nx37 : Int → HP) : Ok Pr (zqc2_3_M Q E nx37) (sB zqc2_p9) (zqc2_q4 Q E nx37) E := fun τ H h =>
  wP 1 h (fun x1 h => wV 3 h (fun x3 h => wSl 7 h (fun x7 l7 c7 h => wI 8 h (fun x8 h => wI 9 h (fun x9 h => (conv (by kernel_rfl) h))))))

noncomputable def zqc2_q6 (nx37 : Int → HP) : XT := (xblock 1 (xthen (zqc2_3_M Q E nx37) (zqc2_q4 Q E nx37)))

noncomputable def zqc2_p13 : Code := sB (sI (sA zqc2_p9))

def zqc2_5 (nx37 : Int → HP) (Q : QT) (E : ET)  (H : Heap) : Prop :=
 Q (.bool false) H

def zqc2_5_M (nx37 : Int → HP) (τ : Tau) (H : Heap) : Prop := zqc2_5 nx37 Q E  H

theorem zqc2_6ok (nx37 : Int → HP) : Ok Pr (zqc2_5_M Q E nx37) (sB (sI (sB zqc2_p13))) (xblock 2 (zqc2_q6 Q E nx37)) E := fun τ H h =>
  (conv (by kernel_rfl) h)

noncomputable def zqc2_q8 (nx37 : Int → HP) : XT := (xthen (zqc2_5_M Q E nx37) (xblock 2 (zqc2_q6 Q E nx37)))

noncomputable def zqc2_q10 (nx37 : Int → HP) : XT := (xthen (fun τ H => vc Pr (sB (sI (sA (sI (sB zqc2_p13))))) τ (xblock 6 (zqc2_q8 Q E nx37)) E H) (xblock 6 (zqc2_q8 Q E nx37)))

noncomputable def zqc2_p19 : Code := sA (sI (sA (sI (sB zqc2_p13))))

noncomputable def zqc2_q11 (nx37 : Int → HP) : XT := (xblock 5 (zqc2_q10 Q E nx37))

def zqc2_7 (nx37 : Int → HP) (Q : QT) (E : ET) (x1 : OA) (x3 : Value) (x5 x7 : OA) (l7 c7 : Nat) (x8 x9 : Int) (H : Heap) : Prop :=
 ptr x5 fun q90 =>
 ldI .i64 (Addr.add q90 1) H fun n91 =>
 callV Pr E x3 [(.int .i64 n91)] (fun v92 H93 =>
 ∃ b94 : Bool, v92 = (.bool b94) ∧ sel (!b94)
 (Q (.bool false) H93)
 (zqc2_3 nx37 Q E x1 x3 x7 l7 c7 x8 x9 H93)) H

def zqc2_7_M (nx37 : Int → HP) (τ : Tau) (H : Heap) : Prop := mP (τ 1) fun x1 => mV (τ 3) fun x3 => mP (τ 5) fun x5 => mSl (τ 7) fun x7 l7 c7 => mI .i64 (τ 8) fun x8 => mI .i64 (τ 9) fun x9 => zqc2_7 nx37 Q E x1 x3 x5 x7 l7 c7 x8 x9 H

theorem zqc2_8ok (nx37 : Int → HP) : Ok Pr (zqc2_7_M Q E nx37) (sB (sI zqc2_p19)) (zqc2_q11 Q E nx37) E := fun τ H h =>
  wP 1 h (fun x1 h => wV 3 h (fun x3 h => wP 5 h (fun x5 h => wSl 7 h (fun x7 l7 c7 h => wI 8 h (fun x8 h => wI 9 h (fun x9 h => (conv (by kernel_rfl) h)))))))

noncomputable def zqc2_q13 (nx37 : Int → HP) : XT := (xblock 4 (xthen (zqc2_7_M Q E nx37) (zqc2_q11 Q E nx37)))

noncomputable def zqc2_p23 : Code := sI (sA (sI zqc2_p19))

def zqc2_9 (nx37 : Int → HP) (Q : QT) (E : ET) (x1 : OA) (x3 : Value) (x5 x7 : OA) (l7 c7 : Nat) (x8 x9 : Int) (H : Heap) : Prop :=
 ptr x5 fun q95 =>
 ldI .i64 (Addr.add q95 2) H fun n96 =>
 callV Pr E x3 [(.int .i64 n96)] (fun v97 H98 =>
 ∃ b99 : Bool, v97 = (.bool b99) ∧ sel (!b99)
 (Q (.bool false) H98)
 (zqc2_7 nx37 Q E x1 x3 x5 x7 l7 c7 x8 x9 H98)) H

def zqc2_9_M (nx37 : Int → HP) (τ : Tau) (H : Heap) : Prop := mP (τ 1) fun x1 => mV (τ 3) fun x3 => mP (τ 5) fun x5 => mSl (τ 7) fun x7 l7 c7 => mI .i64 (τ 8) fun x8 => mI .i64 (τ 9) fun x9 => zqc2_9 nx37 Q E x1 x3 x5 x7 l7 c7 x8 x9 H

theorem zqc2_10ok (nx37 : Int → HP) : Ok Pr (zqc2_9_M Q E nx37) (sB zqc2_p23) (zqc2_q13 Q E nx37) E := fun τ H h =>
  wP 1 h (fun x1 h => wV 3 h (fun x3 h => wP 5 h (fun x5 h => wSl 7 h (fun x7 l7 c7 h => wI 8 h (fun x8 h => wI 9 h (fun x9 h => (conv (by kernel_rfl) h)))))))

noncomputable def zqc2_q14 (nx37 : Int → HP) : XT := (xthen (zqc2_9_M Q E nx37) (zqc2_q13 Q E nx37))

noncomputable def zqc2_q16 (nx37 : Int → HP) : XT := (xthen (fun τ H => vc Pr (sB (sI (sA zqc2_p23))) τ (xblock 3 (zqc2_q14 Q E nx37)) E H) (xblock 3 (zqc2_q14 Q E nx37)))

noncomputable def zqc2_p27 : Code := sA (sI (sA zqc2_p23))

def zqc2_11 (nx37 : Int → HP) (Q : QT) (E : ET) (x1 : OA) (x3 : Value) (x7 : OA) (l7 c7 : Nat) (x8 x9 x14 : Int) (H : Heap) : Prop :=
 sel (x14 == 5)
 (zqc2_3 nx37 Q E x1 x3 x7 l7 c7 x8 x9 H)
 (zqc2_5 nx37 Q E  H)

def zqc2_11_M (nx37 : Int → HP) (τ : Tau) (H : Heap) : Prop := mP (τ 1) fun x1 => mV (τ 3) fun x3 => mSl (τ 7) fun x7 l7 c7 => mI .i64 (τ 8) fun x8 => mI .i64 (τ 9) fun x9 => mI .i64 (τ 14) fun x14 => zqc2_11 nx37 Q E x1 x3 x7 l7 c7 x8 x9 x14 H

theorem zqc2_12ok (nx37 : Int → HP) : Ok Pr (zqc2_11_M Q E nx37) (sB (sB zqc2_p27)) (zqc2_q16 Q E nx37) E := fun τ H h =>
  wP 1 h (fun x1 h => wV 3 h (fun x3 h => wSl 7 h (fun x7 l7 c7 h => wI 8 h (fun x8 h => wI 9 h (fun x9 h => wI 14 h (fun x14 h => (conv (by kernel_rfl) h)))))))

noncomputable def zqc2_q17 (nx37 : Int → HP) : XT := (xthen (zqc2_11_M Q E nx37) (zqc2_q16 Q E nx37))

noncomputable def zqc2_p30 : Code := sA (sB zqc2_p27)

def zqc2_13 (nx37 : Int → HP) (Q : QT) (E : ET) (x1 : OA) (x3 : Value) (x5 x7 : OA) (l7 c7 : Nat) (x8 x9 x14 : Int) (x17 : Bool) (H : Heap) : Prop :=
 sel x17
 (zqc2_7 nx37 Q E x1 x3 x5 x7 l7 c7 x8 x9 H)
 (zqc2_11 nx37 Q E x1 x3 x7 l7 c7 x8 x9 x14 H)

def zqc2_13_M (nx37 : Int → HP) (τ : Tau) (H : Heap) : Prop := mP (τ 1) fun x1 => mV (τ 3) fun x3 => mP (τ 5) fun x5 => mSl (τ 7) fun x7 l7 c7 => mI .i64 (τ 8) fun x8 => mI .i64 (τ 9) fun x9 => mI .i64 (τ 14) fun x14 => mB (τ 17) fun x17 => zqc2_13 nx37 Q E x1 x3 x5 x7 l7 c7 x8 x9 x14 x17 H

theorem zqc2_14ok (nx37 : Int → HP) : Ok Pr (zqc2_13_M Q E nx37) (sB zqc2_p30) (zqc2_q17 Q E nx37) E := fun τ H h =>
  wP 1 h (fun x1 h => wV 3 h (fun x3 h => wP 5 h (fun x5 h => wSl 7 h (fun x7 l7 c7 h => wI 8 h (fun x8 h => wI 9 h (fun x9 h => wI 14 h (fun x14 h => wB 17 h (fun x17 h => (conv (by kernel_rfl) h)))))))))

noncomputable def zqc2_q18 (nx37 : Int → HP) : XT := (xthen (zqc2_13_M Q E nx37) (zqc2_q17 Q E nx37))

def zqc2_15 (nx37 : Int → HP) (Q : QT) (E : ET) (x1 : OA) (x3 : Value) (x5 x7 : OA) (l7 c7 : Nat) (x8 x9 x14 : Int) (H : Heap) : Prop :=
 sel (x14 == 1)
 (zqc2_13 nx37 Q E x1 x3 x5 x7 l7 c7 x8 x9 x14 (x14 == 1) H)
 (sel (x14 == 3)
 (zqc2_13 nx37 Q E x1 x3 x5 x7 l7 c7 x8 x9 x14 (x14 == 3) H)
 (zqc2_13 nx37 Q E x1 x3 x5 x7 l7 c7 x8 x9 x14 (x14 == 4) H))

def zqc2_15_M (nx37 : Int → HP) (τ : Tau) (H : Heap) : Prop := mP (τ 1) fun x1 => mV (τ 3) fun x3 => mP (τ 5) fun x5 => mSl (τ 7) fun x7 l7 c7 => mI .i64 (τ 8) fun x8 => mI .i64 (τ 9) fun x9 => mI .i64 (τ 14) fun x14 => zqc2_15 nx37 Q E x1 x3 x5 x7 l7 c7 x8 x9 x14 H

theorem zqc2_16ok (nx37 : Int → HP) : Ok Pr (zqc2_15_M Q E nx37) (sA zqc2_p30) (zqc2_q18 Q E nx37) E := fun τ H h =>
  wP 1 h (fun x1 h => wV 3 h (fun x3 h => wP 5 h (fun x5 h => wSl 7 h (fun x7 l7 c7 h => wI 8 h (fun x8 h => wI 9 h (fun x9 h => wI 14 h (fun x14 h => (conv (by kernel_rfl) h))))))))

theorem zqc2_17ok (nx37 : Int → HP) : Ok Pr (zqc2_15_M Q E nx37) zqc2_p30 (zqc2_q17 Q E nx37) E := fun τ H h =>
  (conv (by kernel_rfl) (vc_seq (K := (zqc2_13_M Q E nx37)) (zqc2_16ok Q E nx37 τ H h) (zqc2_14ok Q E nx37)))

theorem zqc2_18ok (nx37 : Int → HP) : Ok Pr (zqc2_15_M Q E nx37) (sB zqc2_p27) (zqc2_q16 Q E nx37) E := fun τ H h =>
  (conv (by kernel_rfl) (vc_seq (K := (zqc2_11_M Q E nx37)) (zqc2_17ok Q E nx37 τ H h) (zqc2_12ok Q E nx37)))

noncomputable def zqc2_q19 (nx37 : Int → HP) : XT := (xthen (zqc2_15_M Q E nx37) (zqc2_q16 Q E nx37))

def zqc2_19 (nx37 : Int → HP) (Q : QT) (E : ET) (x1 : OA) (x3 : Value) (x5 x7 : OA) (l7 c7 : Nat) (x8 x9 x14 : Int) (H : Heap) : Prop :=
 sel (x14 == 2)
 (zqc2_9 nx37 Q E x1 x3 x5 x7 l7 c7 x8 x9 H)
 (zqc2_15 nx37 Q E x1 x3 x5 x7 l7 c7 x8 x9 x14 H)

def zqc2_19_M (nx37 : Int → HP) (τ : Tau) (H : Heap) : Prop := mP (τ 1) fun x1 => mV (τ 3) fun x3 => mP (τ 5) fun x5 => mSl (τ 7) fun x7 l7 c7 => mI .i64 (τ 8) fun x8 => mI .i64 (τ 9) fun x9 => mI .i64 (τ 14) fun x14 => zqc2_19 nx37 Q E x1 x3 x5 x7 l7 c7 x8 x9 x14 H

theorem zqc2_20ok (nx37 : Int → HP) : Ok Pr (zqc2_19_M Q E nx37) (sA zqc2_p27) (zqc2_q19 Q E nx37) E := fun τ H h =>
  wP 1 h (fun x1 h => wV 3 h (fun x3 h => wP 5 h (fun x5 h => wSl 7 h (fun x7 l7 c7 h => wI 8 h (fun x8 h => wI 9 h (fun x9 h => wI 14 h (fun x14 h => (conv (by kernel_rfl) h))))))))

theorem zqc2_21ok (nx37 : Int → HP) : Ok Pr (zqc2_19_M Q E nx37) zqc2_p27 (zqc2_q16 Q E nx37) E := fun τ H h =>
  (conv (by kernel_rfl) (vc_seq (K := (zqc2_15_M Q E nx37)) (zqc2_20ok Q E nx37 τ H h) (zqc2_18ok Q E nx37)))

theorem zqc2_22ok (nx37 : Int → HP) : Ok Pr (zqc2_19_M Q E nx37) (sI (sA zqc2_p23)) (xblock 3 (zqc2_q14 Q E nx37)) E := fun τ H h =>
  (conv (by kernel_rfl) (zqc2_21ok Q E nx37 τ H h))

theorem zqc2_23ok (nx37 : Int → HP) : Ok Pr (zqc2_19_M Q E nx37) (sA zqc2_p23) (zqc2_q14 Q E nx37) E := fun τ H h =>
  (conv (by kernel_rfl) (zqc2_22ok Q E nx37 τ H h))

theorem zqc2_24ok (nx37 : Int → HP) : Ok Pr (zqc2_19_M Q E nx37) zqc2_p23 (zqc2_q13 Q E nx37) E := fun τ H h =>
  (conv (by kernel_rfl) (vc_seq (K := (zqc2_9_M Q E nx37)) (zqc2_23ok Q E nx37 τ H h) (zqc2_10ok Q E nx37)))

theorem zqc2_25ok (nx37 : Int → HP) : Ok Pr (zqc2_19_M Q E nx37) (sA (sI zqc2_p19)) (xthen (zqc2_7_M Q E nx37) (zqc2_q11 Q E nx37)) E := fun τ H h =>
  (conv (by kernel_rfl) (zqc2_24ok Q E nx37 τ H h))

theorem zqc2_26ok (nx37 : Int → HP) : Ok Pr (zqc2_19_M Q E nx37) (sI zqc2_p19) (zqc2_q11 Q E nx37) E := fun τ H h =>
  (conv (by kernel_rfl) (vc_seq (K := (zqc2_7_M Q E nx37)) (zqc2_25ok Q E nx37 τ H h) (zqc2_8ok Q E nx37)))

theorem zqc2_27ok (nx37 : Int → HP) : Ok Pr (zqc2_19_M Q E nx37) zqc2_p19 (zqc2_q10 Q E nx37) E := fun τ H h =>
  (conv (by kernel_rfl) (zqc2_26ok Q E nx37 τ H h))

theorem zqc2_28ok (nx37 : Int → HP) : Ok Pr (zqc2_19_M Q E nx37) (sI (sA (sI (sB zqc2_p13)))) (xblock 6 (zqc2_q8 Q E nx37)) E := fun τ H h =>
  (conv (by kernel_rfl) (zqc2_27ok Q E nx37 τ H h))

theorem zqc2_29ok (nx37 : Int → HP) : Ok Pr (zqc2_19_M Q E nx37) (sA (sI (sB zqc2_p13))) (zqc2_q8 Q E nx37) E := fun τ H h =>
  (conv (by kernel_rfl) (zqc2_28ok Q E nx37 τ H h))

theorem zqc2_30ok (nx37 : Int → HP) : Ok Pr (zqc2_19_M Q E nx37) (sI (sB zqc2_p13)) (xblock 2 (zqc2_q6 Q E nx37)) E := fun τ H h =>
  (conv (by kernel_rfl) (vc_seq (K := (zqc2_5_M Q E nx37)) (zqc2_29ok Q E nx37 τ H h) (zqc2_6ok Q E nx37)))

theorem zqc2_31ok (nx37 : Int → HP) : Ok Pr (zqc2_19_M Q E nx37) (sB zqc2_p13) (zqc2_q6 Q E nx37) E := fun τ H h =>
  (conv (by kernel_rfl) (zqc2_30ok Q E nx37 τ H h))

noncomputable def zqc2_q20 (nx37 : Int → HP) : XT := (xthen (zqc2_19_M Q E nx37) (zqc2_q6 Q E nx37))

def zqc2_32 (nx37 : Int → HP) (Q : QT) (E : ET) (x1 : OA) (x3 : Value) (x5 x7 : OA) (l7 c7 : Nat) (x8 x9 : Int) (H : Heap) : Prop :=
 ptr x5 fun q100 =>
 ldI .i64 q100 H fun n101 =>
 zqc2_19 nx37 Q E x1 x3 x5 x7 l7 c7 x8 x9 n101 H

def zqc2_32_M (nx37 : Int → HP) (τ : Tau) (H : Heap) : Prop := mP (τ 1) fun x1 => mV (τ 3) fun x3 => mP (τ 5) fun x5 => mSl (τ 7) fun x7 l7 c7 => mI .i64 (τ 8) fun x8 => mI .i64 (τ 9) fun x9 => zqc2_32 nx37 Q E x1 x3 x5 x7 l7 c7 x8 x9 H

theorem zqc2_33ok (nx37 : Int → HP) : Ok Pr (zqc2_32_M Q E nx37) (sA zqc2_p13) (zqc2_q20 Q E nx37) E := fun τ H h =>
  wP 1 h (fun x1 h => wV 3 h (fun x3 h => wP 5 h (fun x5 h => wSl 7 h (fun x7 l7 c7 h => wI 8 h (fun x8 h => wI 9 h (fun x9 h => (conv (by kernel_rfl) h)))))))

theorem zqc2_34ok (nx37 : Int → HP) : Ok Pr (zqc2_32_M Q E nx37) zqc2_p13 (zqc2_q6 Q E nx37) E := fun τ H h =>
  (conv (by kernel_rfl) (vc_seq (K := (zqc2_19_M Q E nx37)) (zqc2_33ok Q E nx37 τ H h) (zqc2_31ok Q E nx37)))

noncomputable def zqc2_q21 (nx37 : Int → HP) : XT := (xthen (zqc2_32_M Q E nx37) (zqc2_q6 Q E nx37))

def zqc2_35 (nx37 : Int → HP) (Q : QT) (E : ET) (x1 : OA) (x3 : Value) (x7 : OA) (l7 c7 : Nat) (x8 x9 : Int) (H : Heap) : Prop :=
 (0 ≤ x9 ∧ x9 < (l7 : Int)) ∧ ptr x7 fun q102 =>
 ∃ n103 n104 n105 n106 n107 n108 n109 : Int, Heap.rd H (Addr.add q102 (x9.toNat * 7)) 0 [(.int .i64 n103), (.int .i64 n104), (.int .i64 n105), (.int .u64 n106), (.int .u64 n107), (.int .u64 n108), (.int .u64 n109)] ∧ nw (.cells #[(.int .i64 0), (.int .i64 0), (.int .i64 0), (.int .u64 0), (.int .u64 0), (.int .u64 0), (.int .u64 0)] 91 (0, 0)) H fun i110 H111 =>
 wr ⟨i110, 0, none⟩ [(.int .i64 n103), (.int .i64 n104), (.int .i64 n105), (.int .u64 n106), (.int .u64 n107), (.int .u64 n108), (.int .u64 n109)] H111 fun H112 =>
 zqc2_32 nx37 Q E x1 x3 (some ⟨i110, 0, none⟩) x7 l7 c7 x8 x9 H112

def zqc2_35_M (nx37 : Int → HP) (τ : Tau) (H : Heap) : Prop := mP (τ 1) fun x1 => mV (τ 3) fun x3 => mSl (τ 7) fun x7 l7 c7 => mI .i64 (τ 8) fun x8 => mI .i64 (τ 9) fun x9 => zqc2_35 nx37 Q E x1 x3 x7 l7 c7 x8 x9 H

theorem zqc2_36ok (nx37 : Int → HP) : Ok Pr (zqc2_35_M Q E nx37) (sA (sI (sA zqc2_p9))) (zqc2_q21 Q E nx37) E := fun τ H h =>
  wP 1 h (fun x1 h => wV 3 h (fun x3 h => wSl 7 h (fun x7 l7 c7 h => wI 8 h (fun x8 h => wI 9 h (fun x9 h => (conv (by kernel_rfl) h))))))

theorem zqc2_37ok (nx37 : Int → HP) : Ok Pr (zqc2_35_M Q E nx37) (sI (sA zqc2_p9)) (zqc2_q6 Q E nx37) E := fun τ H h =>
  (conv (by kernel_rfl) (vc_seq (K := (zqc2_32_M Q E nx37)) (zqc2_36ok Q E nx37 τ H h) (zqc2_34ok Q E nx37)))

theorem zqc2_38ok (nx37 : Int → HP) : Ok Pr (zqc2_35_M Q E nx37) (sA zqc2_p9) (xthen (zqc2_3_M Q E nx37) (zqc2_q4 Q E nx37)) E := fun τ H h =>
  (conv (by kernel_rfl) (zqc2_37ok Q E nx37 τ H h))

theorem zqc2_39ok (nx37 : Int → HP) : Ok Pr (zqc2_35_M Q E nx37) zqc2_p9 (zqc2_q4 Q E nx37) E := fun τ H h =>
  (conv (by kernel_rfl) (vc_seq (K := (zqc2_3_M Q E nx37)) (zqc2_38ok Q E nx37 τ H h) (zqc2_4ok Q E nx37)))

noncomputable def zqc2_q22 (nx37 : Int → HP) : XT := (xthen (zqc2_35_M Q E nx37) (zqc2_q4 Q E nx37))

def zqc2_40 (nx37 : Int → HP) (Q : QT) (E : ET) (x1 : OA) (x3 : Value) (x7 : OA) (l7 c7 : Nat) (x8 x9 : Int) (x10 : Bool) (H : Heap) : Prop :=
 sel x10
 (zqc2_35 nx37 Q E x1 x3 x7 l7 c7 x8 x9 H)
 (zqc2_1 Q E x1 H)

def zqc2_40_M (nx37 : Int → HP) (τ : Tau) (H : Heap) : Prop := mP (τ 1) fun x1 => mV (τ 3) fun x3 => mSl (τ 7) fun x7 l7 c7 => mI .i64 (τ 8) fun x8 => mI .i64 (τ 9) fun x9 => mB (τ 10) fun x10 => zqc2_40 nx37 Q E x1 x3 x7 l7 c7 x8 x9 x10 H

theorem zqc2_41ok (nx37 : Int → HP) : Ok Pr (zqc2_40_M Q E nx37) (sA (sB zqc2_p7)) (zqc2_q22 Q E nx37) E := fun τ H h =>
  wP 1 h (fun x1 h => wV 3 h (fun x3 h => wSl 7 h (fun x7 l7 c7 h => wI 8 h (fun x8 h => wI 9 h (fun x9 h => wB 10 h (fun x10 h => (conv (by kernel_rfl) h)))))))

theorem zqc2_42ok (nx37 : Int → HP) : Ok Pr (zqc2_40_M Q E nx37) (sB zqc2_p7) (zqc2_q4 Q E nx37) E := fun τ H h =>
  (conv (by kernel_rfl) (vc_seq (K := (zqc2_35_M Q E nx37)) (zqc2_41ok Q E nx37 τ H h) (zqc2_39ok Q E nx37)))

noncomputable def zqc2_q23 (nx37 : Int → HP) : XT := (xthen (zqc2_40_M Q E nx37) (zqc2_q4 Q E nx37))

def zqc2_43 (nx37 : Int → HP) (Q : QT) (E : ET) (x1 : OA) (x3 : Value) (x7 : OA) (l7 c7 : Nat) (x8 x9 : Int) (H : Heap) : Prop :=
 zqc2_40 nx37 Q E x1 x3 x7 l7 c7 x8 x9 (decide (x9 < x8)) H

def zqc2_43_M (nx37 : Int → HP) (τ : Tau) (H : Heap) : Prop := mP (τ 1) fun x1 => mV (τ 3) fun x3 => mSl (τ 7) fun x7 l7 c7 => mI .i64 (τ 8) fun x8 => mI .i64 (τ 9) fun x9 => zqc2_43 nx37 Q E x1 x3 x7 l7 c7 x8 x9 H

theorem zqc2_44ok (nx37 : Int → HP) : Ok Pr (zqc2_43_M Q E nx37) (sA zqc2_p7) (zqc2_q23 Q E nx37) E := fun τ H h =>
  wP 1 h (fun x1 h => wV 3 h (fun x3 h => wSl 7 h (fun x7 l7 c7 h => wI 8 h (fun x8 h => wI 9 h (fun x9 h => (conv (by kernel_rfl) h))))))

theorem zqc2_45ok (nx37 : Int → HP) : Ok Pr (zqc2_43_M Q E nx37) zqc2_p7 (zqc2_q4 Q E nx37) E := fun τ H h =>
  (conv (by kernel_rfl) (vc_seq (K := (zqc2_40_M Q E nx37)) (zqc2_44ok Q E nx37 τ H h) (zqc2_42ok Q E nx37)))

def zqc2_46 (Q : QT) (E : ET) (x1 : OA) (x3 : Value) (x7 : OA) (l7 c7 : Nat) (x8 x9 : Int) (H : Heap) : Prop :=
 ∃ (I : Int → HP) (μ : Int → Heap → Nat), I x9 H ∧ ∀ (x9 : Int) (H : Heap), I x9 H →
 zqc2_43 (fun x9' H1 => I x9' H1 ∧ μ x9' H1 < μ x9 H) Q E x1 x3 x7 l7 c7 x8 x9 H

def zqc2_46_M  (τ : Tau) (H : Heap) : Prop := mP (τ 1) fun x1 => mV (τ 3) fun x3 => mSl (τ 7) fun x7 l7 c7 => mI .i64 (τ 8) fun x8 => mI .i64 (τ 9) fun x9 => zqc2_46 Q E x1 x3 x7 l7 c7 x8 x9 H

theorem zqc2_47ok  : Ok Pr (zqc2_46_M Q E) (sI (sB zqc2_p4)) (zqc2_q3 Q E) E := fun τ H h =>
  wP 1 h (fun x1 h => wV 3 h (fun x3 h => wSl 7 h (fun x7 l7 c7 h => wI 8 h (fun x8 h => wI 9 h (fun x9 h => match h with | ⟨I, μ, h0, hr⟩ => (conv (by kernel_rfl) (vc_loopG (c := sI (sI (sB zqc2_p4))) (τ := (Tau.upd (Tau.upd (Tau.upd (Tau.upd (Tau.upd τ 1 (.pointer x1)) 3 x3) 7 (.slice x7 l7 c7)) 8 (.int .i64 x8)) 9 (.int .i64 x9))) [1, 3, 7, 8] (fun τ H => mI .i64 (τ 9) fun x9' => I x9' H) (fun τ H => μ (gI (τ 9)) H) (by kernel_rfl) h0 (fun τ1 H1 hf hI => uF 1 (.pointer x1) (hf 1 (by simp)) (uF 3 x3 (hf 3 (by simp)) (uF 7 (.slice x7 l7 c7) (hf 7 (by simp)) (uF 8 (.int .i64 x8) (hf 8 (by simp)) (uI 9 hI (fun x9r h => lgx (zqc2_45ok Q E (fun x9' H2 => I x9' H2 ∧ μ x9' H2 < μ x9r H1) (Tau.upd (Tau.upd (Tau.upd (Tau.upd (Tau.upd τ1 1 (.pointer x1)) 3 x3) 7 (.slice x7 l7 c7)) 8 (.int .i64 x8)) 9 (.int .i64 x9r)) H1 (conv (by kernel_rfl) (hr x9r H1 h))) (fun τ2 H2 hk => kI 9 hk (fun x9' h => conv (by kernel_rfl) h)))))))))))))))

theorem zqc2_48ok  : Ok Pr (zqc2_46_M Q E) (sB zqc2_p4) (zqc2_q2 Q E) E := fun τ H h =>
  (conv (by kernel_rfl) (zqc2_47ok Q E τ H h))

noncomputable def zqc2_q24  : XT := (xthen (zqc2_46_M Q E) (zqc2_q2 Q E))

def zqc2_49 (Q : QT) (E : ET) (x1 : OA) (x3 : Value) (H : Heap) : Prop :=
 ptr x1 fun q113 =>
 ldSl q113 H fun p114 l115 c116 =>
 zqc2_46 Q E x1 x3 p114 l115 c116 (l115 : Int) 0 H

def zqc2_49_M  (τ : Tau) (H : Heap) : Prop := mP (τ 1) fun x1 => mV (τ 3) fun x3 => zqc2_49 Q E x1 x3 H

theorem zqc2_50ok  : Ok Pr (zqc2_49_M Q E) (sA zqc2_p4) (zqc2_q24 Q E) E := fun τ H h =>
  wP 1 h (fun x1 h => wV 3 h (fun x3 h => (conv (by kernel_rfl) h)))

theorem zqc2_51ok  : Ok Pr (zqc2_49_M Q E) zqc2_p4 (zqc2_q2 Q E) E := fun τ H h =>
  (conv (by kernel_rfl) (vc_seq (K := (zqc2_46_M Q E)) (zqc2_50ok Q E τ H h) (zqc2_48ok Q E)))

theorem zqc2_52ok  : Ok Pr (zqc2_49_M Q E) (sB (sB (bodyOf Try.f62))) (zqc2_q1 Q E) E := fun τ H h =>
  (conv (by kernel_rfl) (vc_seq (K := (zqc2_1_M Q E)) (zqc2_51ok Q E τ H h) (zqc2_2ok Q E)))

def zqc2_53 (Q : QT) (E : ET) (x1 : OA) (H : Heap) : Prop :=
 zqc2_49 Q E x1 (.func (.func 96) #[] #[(.pointer x1)]) H

def zqc2_53_M  (τ : Tau) (H : Heap) : Prop := mP (τ 1) fun x1 => zqc2_53 Q E x1 H

theorem zqc2_54ok  : Ok Pr (zqc2_53_M Q E) (sA (sB (bodyOf Try.f62))) (xthen (zqc2_49_M Q E) (zqc2_q1 Q E)) E := fun τ H h =>
  wP 1 h (fun x1 h => (conv (by kernel_rfl) h))

theorem zqc2_55ok  : Ok Pr (zqc2_53_M Q E) (sB (bodyOf Try.f62)) (zqc2_q1 Q E) E := fun τ H h =>
  (conv (by kernel_rfl) (vc_seq (K := (zqc2_49_M Q E)) (zqc2_54ok Q E τ H h) (zqc2_52ok Q E)))

def zqc2 (Q : QT) (E : ET) (a0 : OA) (a0l : Nat) (a0c : Nat) (H : Heap) : Prop :=
 nw (.cells #[(.slice a0 a0l a0c)] 50 (0, 0)) H fun i117 H118 =>
 zqc2_53 Q E (some ⟨i117, 0, none⟩) H118

theorem zqc2_fn (a0 : OA) (a0l : Nat) (a0c : Nat) (Q : QT) (E : ET) (H : Heap) (h : zqc2 Q E a0 a0l a0c H)   : Does Pr 62 #[(.slice a0 a0l a0c)] H Q E :=
  Fn_of_vc (fn := Try.f62) (c := (bodyOf Try.f62)) (args := [(.slice a0 a0l a0c)]) mixed (by kernel_rfl) (by kernel_rfl) (by kernel_rfl) (by kernel_rfl) (by kernel_rfl) ((conv (B := vc Pr (bodyOf Try.f62) (argT [(.slice a0 a0l a0c)]) (zqc2_q1 Q E) E H) (by kernel_rfl) (vc_seq (K := (zqc2_53_M Q E)) (conv (B := vc Pr (sA (bodyOf Try.f62)) (argT [(.slice a0 a0l a0c)]) (xthen (zqc2_53_M Q E) (zqc2_q1 Q E)) E H) (by kernel_rfl) h) (zqc2_55ok Q E))))

/-! (*jobmux/nfa.search).reach -/
noncomputable def zqd2_q1 (Q : QT) (E : ET) : XT := (retQ Pr (Try.f64).results.toList Q)

def zqd2_1 (Q : QT) (E : ET) (x0 x1 : OA) (l1 c1 : Nat) (x3 x4 : Int) (x7 : OA) (H : Heap) : Prop :=
 ptr x0 fun q10 =>
 ldM (Addr.add q10 1) H fun m11 =>
 ptr x7 fun q12 =>
 ∃ n13 : Int, ∃ b14 : Bool, ∃ b15 : Bool, Heap.rd H q12 0 [(.int .i64 n13), (.bool b14), (.bool b15)] ∧ msets Pr 100 m11 (.agg #[(.int .i64 n13), (.bool b14), (.bool b15)]) (.bool true) H fun H16 =>
 ptr x0 fun q17 =>
 ldSl (Addr.add q17 2) H16 fun p18 l19 c20 =>
 ptr x7 fun q21 =>
 ∃ n22 : Int, ∃ b23 : Bool, ∃ b24 : Bool, Heap.rd H16 q21 0 [(.int .i64 n22), (.bool b23), (.bool b24)] ∧ nw (.cells #[(.int .i64 n22), (.bool b23), (.bool b24), (.int .i64 x3), (.int .i64 x4)] 102 (0, 0)) H16 fun i25 H26 =>
 app Pr 95 p18 l19 c20 (.slice (some ⟨i25, 0, none⟩) 1 1) H26 fun p27 l28 c29 H30 =>
 ptr x0 fun q31 =>
 wr (Addr.add q31 2) [(.slice p27 l28 c29)] H30 fun H32 =>
 ptr x0 fun q33 =>
 ldSl (Addr.add q33 2) H32 fun p34 l35 c36 =>
 nw (.cells #[(.int .i64 (IntKind.wrap .i64 ((l35 : Int) - 1)))] 3 (0, 0)) H32 fun i37 H38 =>
 app Pr 22 x1 l1 c1 (.slice (some ⟨i37, 0, none⟩) 1 1) H38 fun p39 l40 c41 H42 =>
 Q (.slice p39 l40 c41) H42

def zqd2_1_M  (τ : Tau) (H : Heap) : Prop := mP (τ 0) fun x0 => mSl (τ 1) fun x1 l1 c1 => mI .i64 (τ 3) fun x3 => mI .i64 (τ 4) fun x4 => mP (τ 7) fun x7 => zqd2_1 Q E x0 x1 l1 c1 x3 x4 x7 H

theorem zqd2_2ok  : Ok Pr (zqd2_1_M Q E) (sB (sB (bodyOf Try.f64))) (zqd2_q1 Q E) E := fun τ H h =>
  wP 0 h (fun x0 h => wSl 1 h (fun x1 l1 c1 h => wI 3 h (fun x3 h => wI 4 h (fun x4 h => wP 7 h (fun x7 h => (conv (by kernel_rfl) h))))))

noncomputable def zqd2_q2  : XT := (xthen (zqd2_1_M Q E) (zqd2_q1 Q E))

def zqd2_3 (Q : QT) (E : ET) (x0 x1 : OA) (l1 c1 : Nat) (x3 x4 : Int) (x7 : OA) (H : Heap) : Prop :=
 ptr x0 fun q43 =>
 ldM (Addr.add q43 1) H fun m44 =>
 ptr x7 fun q45 =>
 ∃ n46 : Int, ∃ b47 : Bool, ∃ b48 : Bool, Heap.rd H q45 0 [(.int .i64 n46), (.bool b47), (.bool b48)] ∧ ∃ b50 : Bool, ∃ b49 : Bool, mgets Pr 100 m44 (.agg #[(.int .i64 n46), (.bool b47), (.bool b48)]) (.bool false) H (.bool b50) b49 ∧ sel b50
 (Q (.slice x1 l1 c1) H)
 (zqd2_1 Q E x0 x1 l1 c1 x3 x4 x7 H)

def zqd2_3_M  (τ : Tau) (H : Heap) : Prop := mP (τ 0) fun x0 => mSl (τ 1) fun x1 l1 c1 => mI .i64 (τ 3) fun x3 => mI .i64 (τ 4) fun x4 => mP (τ 7) fun x7 => zqd2_3 Q E x0 x1 l1 c1 x3 x4 x7 H

theorem zqd2_4ok  : Ok Pr (zqd2_3_M Q E) (sA (sB (bodyOf Try.f64))) (zqd2_q2 Q E) E := fun τ H h =>
  wP 0 h (fun x0 h => wSl 1 h (fun x1 l1 c1 h => wI 3 h (fun x3 h => wI 4 h (fun x4 h => wP 7 h (fun x7 h => (conv (by kernel_rfl) h))))))

theorem zqd2_5ok  : Ok Pr (zqd2_3_M Q E) (sB (bodyOf Try.f64)) (zqd2_q1 Q E) E := fun τ H h =>
  (conv (by kernel_rfl) (vc_seq (K := (zqd2_1_M Q E)) (zqd2_4ok Q E τ H h) (zqd2_2ok Q E)))

def zqd2 (Q : QT) (E : ET) (a0 : OA) (a1 : OA) (a1l : Nat) (a1c : Nat) (a2_0 : Int) (a2_1 : Bool) (a2_2 : Bool) (a3 : Int) (a4 : Int) (H : Heap) : Prop :=
 nw (.cells #[(.int .i64 a2_0), (.bool a2_1), (.bool a2_2)] 100 (0, 0)) H fun i51 H52 =>
 zqd2_3 Q E a0 a1 a1l a1c a3 a4 (some ⟨i51, 0, none⟩) H52

theorem zqd2_fn (a0 : OA) (a1 : OA) (a1l : Nat) (a1c : Nat) (a2_0 : Int) (a2_1 : Bool) (a2_2 : Bool) (a3 : Int) (a4 : Int) (Q : QT) (E : ET) (H : Heap) (h : zqd2 Q E a0 a1 a1l a1c a2_0 a2_1 a2_2 a3 a4 H)   : Does Pr 64 #[(.pointer a0), (.slice a1 a1l a1c), (.agg #[(.int .i64 a2_0), (.bool a2_1), (.bool a2_2)]), (.int .i64 a3), (.int .i64 a4)] H Q E :=
  Fn_of_vc (fn := Try.f64) (c := (bodyOf Try.f64)) (args := [(.pointer a0), (.slice a1 a1l a1c), (.agg #[(.int .i64 a2_0), (.bool a2_1), (.bool a2_2)]), (.int .i64 a3), (.int .i64 a4)]) mixed (by kernel_rfl) (by kernel_rfl) (by kernel_rfl) (by kernel_rfl) (by kernel_rfl) ((conv (B := vc Pr (bodyOf Try.f64) (argT [(.pointer a0), (.slice a1 a1l a1c), (.agg #[(.int .i64 a2_0), (.bool a2_1), (.bool a2_2)]), (.int .i64 a3), (.int .i64 a4)]) (zqd2_q1 Q E) E H) (by kernel_rfl) (vc_seq (K := (zqd2_3_M Q E)) (conv (B := vc Pr (sA (bodyOf Try.f64)) (argT [(.pointer a0), (.slice a1 a1l a1c), (.agg #[(.int .i64 a2_0), (.bool a2_1), (.bool a2_2)]), (.int .i64 a3), (.int .i64 a4)]) (xthen (zqd2_3_M Q E) (zqd2_q1 Q E)) E H) (by kernel_rfl) h) (zqd2_5ok Q E))))

/-! jobmux/nfa.Sample$1 -/
def zqe2 (Q : QT) (E : ET) (a0 : Int) (a1 : Bool) (a2 : OA) (a3 : OA) (a4 : OA) (a5 : OA) (H : Heap) : Prop :=
 ptr a2 fun q1 =>
 ldP q1 H fun p2 =>
 ptr a3 fun q3 =>
 ldSl q3 H fun p4 l5 c6 =>
 ptr a4 fun q7 =>
 ldB (Addr.add q7 1) H fun b8 =>
 ptr a3 fun q9 =>
 ldSl q9 H fun p10 l11 c12 =>
 ptr a5 fun q13 =>
 ldI .i64 q13 H fun n14 =>
 (0 ≤ n14 ∧ n14 < (l11 : Int)) ∧ ptr p10 fun q15 =>
 ldI .i64 (Addr.add q15 (n14.toNat * 1)) H fun n16 =>
 Does Pr 64 #[(.pointer p2), (.slice p4 l5 c6), (.agg #[(.int .i64 a0), (.bool b8), (.bool a1)]), (.int .i64 n16), (.int .i64 (-1))] H (fun v17 H18 =>
 ∃ (p19 : OA) (l20 c21 : Nat), v17 = (.slice p19 l20 c21) ∧ ptr a3 fun q23 =>
 wr q23 [(.slice p19 l20 c21)] H18 fun H22 =>
 Q (.tuple #[]) H22) (fun _ _ => False)

theorem zqe2_fn (a0 : Int) (a1 : Bool) (a2 : OA) (a3 : OA) (a4 : OA) (a5 : OA) (Q : QT) (E : ET) (H : Heap) (h : zqe2 Q E a0 a1 a2 a3 a4 a5 H)   : Does Pr 65 #[(.int .i64 a0), (.bool a1), (.pointer a2), (.pointer a3), (.pointer a4), (.pointer a5)] H Q E :=
  Fn_of_vc (fn := Try.f65) (c := (bodyOf Try.f65)) (args := [(.int .i64 a0), (.bool a1), (.pointer a2), (.pointer a3), (.pointer a4), (.pointer a5)]) mixed (by kernel_rfl) (by kernel_rfl) (by kernel_rfl) (by kernel_rfl) (by kernel_rfl) ((conv (B := vc Pr (bodyOf Try.f65) (argT [(.int .i64 a0), (.bool a1), (.pointer a2), (.pointer a3), (.pointer a4), (.pointer a5)]) (retQ Pr (Try.f65).results.toList Q) E H) (by kernel_rfl) h))

/-! (*jobmux/nfa.search).text -/
noncomputable def zqf2_q1 (Q : QT) (E : ET) : XT := (retQ Pr (Try.f66).results.toList Q)

noncomputable def zqf2_p1 : Code := sB (bodyOf Try.f66)

def zqf2_1 (Q : QT) (E : ET) (x5 : OA) (l5 c5 : Nat) (H : Heap) : Prop :=
 Q (.slice x5 l5 c5) H

def zqf2_1_M  (τ : Tau) (H : Heap) : Prop := mSl (τ 5) fun x5 l5 c5 => zqf2_1 Q E x5 l5 c5 H

theorem zqf2_2ok  : Ok Pr (zqf2_1_M Q E) (sB (sB zqf2_p1)) (zqf2_q1 Q E) E := fun τ H h =>
  wSl 5 h (fun x5 l5 c5 h => (conv (by kernel_rfl) h))

noncomputable def zqf2_q2  : XT := (xthen (zqf2_1_M Q E) (zqf2_q1 Q E))

noncomputable def zqf2_q4 (nx19 : Int → OA → Nat → Nat → HP) : XT := (xthen (fun τ H => mI .i64 (τ 1) fun x1' => mSl (τ 5) fun x5' l5' c5' => nx19 x1' x5' l5' c5' H) (xblock 0 (zqf2_q2 Q E)))

noncomputable def zqf2_p6 : Code := sI (sI (sA (sB zqf2_p1)))

def zqf2_3 (nx19 : Int → OA → Nat → Nat → HP) (Q : QT) (E : ET) (x0 : OA) (x1 : Int) (x5 : OA) (l5 c5 : Nat) (H : Heap) : Prop :=
 ptr x0 fun q32 =>
 ldSl (Addr.add q32 2) H fun p33 l34 c35 =>
 (0 ≤ x1 ∧ x1 < (l34 : Int)) ∧ ptr p33 fun q36 =>
 ldI .i64 (Addr.add (Addr.add q36 (x1.toNat * 5)) 3) H fun n37 =>
 nx19 n37 x5 l5 c5 H

def zqf2_3_M (nx19 : Int → OA → Nat → Nat → HP) (τ : Tau) (H : Heap) : Prop := mP (τ 0) fun x0 => mI .i64 (τ 1) fun x1 => mSl (τ 5) fun x5 l5 c5 => zqf2_3 nx19 Q E x0 x1 x5 l5 c5 H

theorem zqf2_4ok (nx19 : Int → OA → Nat → Nat → HP) : Ok Pr (zqf2_3_M Q E nx19) (sB (sB zqf2_p6)) (zqf2_q4 Q E nx19) E := fun τ H h =>
  wP 0 h (fun x0 h => wI 1 h (fun x1 h => wSl 5 h (fun x5 l5 c5 h => (conv (by kernel_rfl) h))))

noncomputable def zqf2_q5 (nx19 : Int → OA → Nat → Nat → HP) : XT := (xthen (zqf2_3_M Q E nx19) (zqf2_q4 Q E nx19))

def zqf2_5 (nx19 : Int → OA → Nat → Nat → HP) (Q : QT) (E : ET) (x0 : OA) (x1 : Int) (x5 : OA) (l5 c5 : Nat) (H : Heap) : Prop :=
 ptr x0 fun q38 =>
 ldSl (Addr.add q38 2) H fun p39 l40 c41 =>
 (0 ≤ x1 ∧ x1 < (l40 : Int)) ∧ ptr p39 fun q42 =>
 ldI .i64 (Addr.add (Addr.add q42 (x1.toNat * 5)) 4) H fun n43 =>
 sel (decide (n43 ≥ 0))
 (nw (.cells #[(.int .u8 (IntKind.wrap .u8 n43))] 5 (0, 0)) H fun i44 H45 =>
 app Pr 24 (some ⟨i44, 0, none⟩) 1 1 (.slice x5 l5 c5) H45 fun p46 l47 c48 H49 =>
 zqf2_3 nx19 Q E x0 x1 p46 l47 c48 H49)
 (zqf2_3 nx19 Q E x0 x1 x5 l5 c5 H)

def zqf2_5_M (nx19 : Int → OA → Nat → Nat → HP) (τ : Tau) (H : Heap) : Prop := mP (τ 0) fun x0 => mI .i64 (τ 1) fun x1 => mSl (τ 5) fun x5 l5 c5 => zqf2_5 nx19 Q E x0 x1 x5 l5 c5 H

theorem zqf2_6ok (nx19 : Int → OA → Nat → Nat → HP) : Ok Pr (zqf2_5_M Q E nx19) (sA (sB zqf2_p6)) (zqf2_q5 Q E nx19) E := fun τ H h =>
  wP 0 h (fun x0 h => wI 1 h (fun x1 h => wSl 5 h (fun x5 l5 c5 h => (conv (by kernel_rfl) h))))

theorem zqf2_7ok (nx19 : Int → OA → Nat → Nat → HP) : Ok Pr (zqf2_5_M Q E nx19) (sB zqf2_p6) (zqf2_q4 Q E nx19) E := fun τ H h =>
  (conv (by kernel_rfl) (vc_seq (K := (zqf2_3_M Q E nx19)) (zqf2_6ok Q E nx19 τ H h) (zqf2_4ok Q E nx19)))

noncomputable def zqf2_q6 (nx19 : Int → OA → Nat → Nat → HP) : XT := (xthen (zqf2_5_M Q E nx19) (zqf2_q4 Q E nx19))

def zqf2_8 (nx19 : Int → OA → Nat → Nat → HP) (Q : QT) (E : ET) (x0 : OA) (x1 : Int) (x5 : OA) (l5 c5 : Nat) (H : Heap) : Prop :=
 sel (decide (x1 ≥ 0))
 (zqf2_5 nx19 Q E x0 x1 x5 l5 c5 H)
 (zqf2_1 Q E x5 l5 c5 H)

def zqf2_8_M (nx19 : Int → OA → Nat → Nat → HP) (τ : Tau) (H : Heap) : Prop := mP (τ 0) fun x0 => mI .i64 (τ 1) fun x1 => mSl (τ 5) fun x5 l5 c5 => zqf2_8 nx19 Q E x0 x1 x5 l5 c5 H

theorem zqf2_9ok (nx19 : Int → OA → Nat → Nat → HP) : Ok Pr (zqf2_8_M Q E nx19) (sA zqf2_p6) (zqf2_q6 Q E nx19) E := fun τ H h =>
  wP 0 h (fun x0 h => wI 1 h (fun x1 h => wSl 5 h (fun x5 l5 c5 h => (conv (by kernel_rfl) h))))

theorem zqf2_10ok (nx19 : Int → OA → Nat → Nat → HP) : Ok Pr (zqf2_8_M Q E nx19) zqf2_p6 (zqf2_q4 Q E nx19) E := fun τ H h =>
  (conv (by kernel_rfl) (vc_seq (K := (zqf2_5_M Q E nx19)) (zqf2_9ok Q E nx19 τ H h) (zqf2_7ok Q E nx19)))

def zqf2_11 (Q : QT) (E : ET) (x0 : OA) (x1 : Int) (x5 : OA) (l5 c5 : Nat) (H : Heap) : Prop :=
 ∃ (I : Int → OA → Nat → Nat → HP) (μ : Int → OA → Nat → Nat → Heap → Nat), I x1 x5 l5 c5 H ∧ ∀ (x1 : Int) (x5 : OA) (l5 c5 : Nat) (H : Heap), I x1 x5 l5 c5 H →
 zqf2_8 (fun x1' x5' l5' c5' H1 => I x1' x5' l5' c5' H1 ∧ μ x1' x5' l5' c5' H1 < μ x1 x5 l5 c5 H) Q E x0 x1 x5 l5 c5 H

def zqf2_11_M  (τ : Tau) (H : Heap) : Prop := mP (τ 0) fun x0 => mI .i64 (τ 1) fun x1 => mSl (τ 5) fun x5 l5 c5 => zqf2_11 Q E x0 x1 x5 l5 c5 H

theorem zqf2_12ok  : Ok Pr (zqf2_11_M Q E) (sI (sA (sB zqf2_p1))) (xblock 0 (zqf2_q2 Q E)) E := fun τ H h =>
  wP 0 h (fun x0 h => wI 1 h (fun x1 h => wSl 5 h (fun x5 l5 c5 h => match h with | ⟨I, μ, h0, hr⟩ => (conv (by kernel_rfl) (vc_loopG (c := sI (sI (sA (sB zqf2_p1)))) (τ := (Tau.upd (Tau.upd (Tau.upd τ 0 (.pointer x0)) 1 (.int .i64 x1)) 5 (.slice x5 l5 c5))) [0] (fun τ H => mI .i64 (τ 1) fun x1' => mSl (τ 5) fun x5' l5' c5' => I x1' x5' l5' c5' H) (fun τ H => μ (gI (τ 1)) (gL1 (τ 5)) (gL2 (τ 5)) (gL3 (τ 5)) H) (by kernel_rfl) h0 (fun τ1 H1 hf hI => uF 0 (.pointer x0) (hf 0 (by simp)) (uI 1 hI (fun x1r h => uSl 5 h (fun x5r l5r c5r h => lgx (zqf2_10ok Q E (fun x1' x5' l5' c5' H2 => I x1' x5' l5' c5' H2 ∧ μ x1' x5' l5' c5' H2 < μ x1r x5r l5r c5r H1) (Tau.upd (Tau.upd (Tau.upd τ1 0 (.pointer x0)) 1 (.int .i64 x1r)) 5 (.slice x5r l5r c5r)) H1 (conv (by kernel_rfl) (hr x1r x5r l5r c5r H1 h))) (fun τ2 H2 hk => kI 1 hk (fun x1' h => kSl 5 h (fun x5' l5' c5' h => conv (by kernel_rfl) h))))))))))))

theorem zqf2_13ok  : Ok Pr (zqf2_11_M Q E) (sA (sB zqf2_p1)) (zqf2_q2 Q E) E := fun τ H h =>
  (conv (by kernel_rfl) (zqf2_12ok Q E τ H h))

theorem zqf2_14ok  : Ok Pr (zqf2_11_M Q E) (sB zqf2_p1) (zqf2_q1 Q E) E := fun τ H h =>
  (conv (by kernel_rfl) (vc_seq (K := (zqf2_1_M Q E)) (zqf2_13ok Q E τ H h) (zqf2_2ok Q E)))

noncomputable def zqf2_q7  : XT := (xthen (zqf2_11_M Q E) (zqf2_q1 Q E))

def zqf2_15 (Q : QT) (E : ET) (x0 : OA) (x1 : Int) (H : Heap) : Prop :=
 zqf2_11 Q E x0 x1 none 0 0 H

def zqf2_15_M  (τ : Tau) (H : Heap) : Prop := mP (τ 0) fun x0 => mI .i64 (τ 1) fun x1 => zqf2_15 Q E x0 x1 H

theorem zqf2_16ok  : Ok Pr (zqf2_15_M Q E) (sA zqf2_p1) (zqf2_q7 Q E) E := fun τ H h =>
  wP 0 h (fun x0 h => wI 1 h (fun x1 h => (conv (by kernel_rfl) h)))

theorem zqf2_17ok  : Ok Pr (zqf2_15_M Q E) zqf2_p1 (zqf2_q1 Q E) E := fun τ H h =>
  (conv (by kernel_rfl) (vc_seq (K := (zqf2_11_M Q E)) (zqf2_16ok Q E τ H h) (zqf2_14ok Q E)))

def zqf2 (Q : QT) (E : ET) (a0 : OA) (a1 : Int) (H : Heap) : Prop :=
 zqf2_15 Q E a0 a1 H

theorem zqf2_fn (a0 : OA) (a1 : Int) (Q : QT) (E : ET) (H : Heap) (h : zqf2 Q E a0 a1 H)   : Does Pr 66 #[(.pointer a0), (.int .i64 a1)] H Q E :=
  Fn_of_vc (fn := Try.f66) (c := (bodyOf Try.f66)) (args := [(.pointer a0), (.int .i64 a1)]) mixed (by kernel_rfl) (by kernel_rfl) (by kernel_rfl) (by kernel_rfl) (by kernel_rfl) ((conv (B := vc Pr (bodyOf Try.f66) (argT [(.pointer a0), (.int .i64 a1)]) (zqf2_q1 Q E) E H) (by kernel_rfl) (vc_seq (K := (zqf2_15_M Q E)) (conv (B := vc Pr (sA (bodyOf Try.f66)) (argT [(.pointer a0), (.int .i64 a1)]) (xthen (zqf2_15_M Q E) (zqf2_q1 Q E)) E H) (by kernel_rfl) h) (zqf2_17ok Q E))))

/-! jobmux/nfa.pick -/
noncomputable def zqg2_q1 (Q : QT) (E : ET) : XT := (retQ Pr (Try.f67).results.toList Q)

noncomputable def zqg2_p1 : Code := sB (bodyOf Try.f67)

def zqg2_1 (Q : QT) (E : ET)  (H : Heap) : Prop :=
 Q (.int .i64 (-1)) H

def zqg2_1_M  (τ : Tau) (H : Heap) : Prop := zqg2_1 Q E  H

theorem zqg2_2ok  : Ok Pr (zqg2_1_M Q E) (sB (sB (sB zqg2_p1))) (zqg2_q1 Q E) E := fun τ H h =>
  (conv (by kernel_rfl) h)

noncomputable def zqg2_q2  : XT := (xthen (zqg2_1_M Q E) (zqg2_q1 Q E))

noncomputable def zqg2_p5 : Code := sA (sB (sB zqg2_p1))

noncomputable def zqg2_q4 (nx9 : Int → HP) : XT := (xthen (fun τ H => mI .i64 (τ 6) fun x6' => nx9 x6' H) (xblock 0 (zqg2_q2 Q E)))

noncomputable def zqg2_p8 : Code := sI (sI (sB zqg2_p5))

def zqg2_3 (nx9 : Int → HP) (Q : QT) (E : ET) (x1 : Bool) (x5 : Value) (x6 : Int) (H : Heap) : Prop :=
 nx9 (IntKind.wrap .i64 (x6 + 1)) H

def zqg2_3_M (nx9 : Int → HP) (τ : Tau) (H : Heap) : Prop := mB (τ 1) fun x1 => mV (τ 5) fun x5 => mI .i64 (τ 6) fun x6 => zqg2_3 nx9 Q E x1 x5 x6 H

theorem zqg2_4ok (nx9 : Int → HP) : Ok Pr (zqg2_3_M Q E nx9) (sB (sB zqg2_p8)) (zqg2_q4 Q E nx9) E := fun τ H h =>
  wB 1 h (fun x1 h => wV 5 h (fun x5 h => wI 6 h (fun x6 h => (conv (by kernel_rfl) h))))

noncomputable def zqg2_q5 (nx9 : Int → HP) : XT := (xthen (zqg2_3_M Q E nx9) (zqg2_q4 Q E nx9))

def zqg2_5 (nx9 : Int → HP) (Q : QT) (E : ET) (x1 : Bool) (x5 : Value) (x6 : Int) (H : Heap) : Prop :=
 callV Pr E x5 [(.int .i64 x6)] (fun v13 H14 =>
 ∃ b15 : Bool, v13 = (.bool b15) ∧ sel b15
 (Q (.int .i64 x6) H14)
 (zqg2_3 nx9 Q E x1 x5 x6 H14)) H

def zqg2_5_M (nx9 : Int → HP) (τ : Tau) (H : Heap) : Prop := mB (τ 1) fun x1 => mV (τ 5) fun x5 => mI .i64 (τ 6) fun x6 => zqg2_5 nx9 Q E x1 x5 x6 H

theorem zqg2_6ok (nx9 : Int → HP) : Ok Pr (zqg2_5_M Q E nx9) (sA (sB zqg2_p8)) (zqg2_q5 Q E nx9) E := fun τ H h =>
  wB 1 h (fun x1 h => wV 5 h (fun x5 h => wI 6 h (fun x6 h => (conv (by kernel_rfl) h))))

theorem zqg2_7ok (nx9 : Int → HP) : Ok Pr (zqg2_5_M Q E nx9) (sB zqg2_p8) (zqg2_q4 Q E nx9) E := fun τ H h =>
  (conv (by kernel_rfl) (vc_seq (K := (zqg2_3_M Q E nx9)) (zqg2_6ok Q E nx9 τ H h) (zqg2_4ok Q E nx9)))

noncomputable def zqg2_q6 (nx9 : Int → HP) : XT := (xthen (zqg2_5_M Q E nx9) (zqg2_q4 Q E nx9))

def zqg2_8 (nx9 : Int → HP) (Q : QT) (E : ET) (x1 : Bool) (x5 : Value) (x6 : Int) (x15 : Bool) (H : Heap) : Prop :=
 sel x15
 (zqg2_5 nx9 Q E x1 x5 x6 H)
 (zqg2_1 Q E  H)

def zqg2_8_M (nx9 : Int → HP) (τ : Tau) (H : Heap) : Prop := mB (τ 1) fun x1 => mV (τ 5) fun x5 => mI .i64 (τ 6) fun x6 => mB (τ 15) fun x15 => zqg2_8 nx9 Q E x1 x5 x6 x15 H

theorem zqg2_9ok (nx9 : Int → HP) : Ok Pr (zqg2_8_M Q E nx9) (sB (sA zqg2_p8)) (zqg2_q6 Q E nx9) E := fun τ H h =>
  wB 1 h (fun x1 h => wV 5 h (fun x5 h => wI 6 h (fun x6 h => wB 15 h (fun x15 h => (conv (by kernel_rfl) h)))))

noncomputable def zqg2_q7 (nx9 : Int → HP) : XT := (xthen (zqg2_8_M Q E nx9) (zqg2_q6 Q E nx9))

def zqg2_10 (nx9 : Int → HP) (Q : QT) (E : ET) (x1 : Bool) (x5 : Value) (x6 : Int) (H : Heap) : Prop :=
 sel (decide (x6 < 256))
 (zqg2_8 nx9 Q E x1 x5 x6 (!x1) H)
 (zqg2_8 nx9 Q E x1 x5 x6 false H)

def zqg2_10_M (nx9 : Int → HP) (τ : Tau) (H : Heap) : Prop := mB (τ 1) fun x1 => mV (τ 5) fun x5 => mI .i64 (τ 6) fun x6 => zqg2_10 nx9 Q E x1 x5 x6 H

theorem zqg2_11ok (nx9 : Int → HP) : Ok Pr (zqg2_10_M Q E nx9) (sA (sA zqg2_p8)) (zqg2_q7 Q E nx9) E := fun τ H h =>
  wB 1 h (fun x1 h => wV 5 h (fun x5 h => wI 6 h (fun x6 h => (conv (by kernel_rfl) h))))

theorem zqg2_12ok (nx9 : Int → HP) : Ok Pr (zqg2_10_M Q E nx9) (sA zqg2_p8) (zqg2_q6 Q E nx9) E := fun τ H h =>
  (conv (by kernel_rfl) (vc_seq (K := (zqg2_8_M Q E nx9)) (zqg2_11ok Q E nx9 τ H h) (zqg2_9ok Q E nx9)))

theorem zqg2_13ok (nx9 : Int → HP) : Ok Pr (zqg2_10_M Q E nx9) zqg2_p8 (zqg2_q4 Q E nx9) E := fun τ H h =>
  (conv (by kernel_rfl) (vc_seq (K := (zqg2_5_M Q E nx9)) (zqg2_12ok Q E nx9 τ H h) (zqg2_7ok Q E nx9)))

def zqg2_14 (Q : QT) (E : ET) (x1 : Bool) (x5 : Value) (x6 : Int) (H : Heap) : Prop :=
 ∃ (I : Int → HP) (μ : Int → Heap → Nat), I x6 H ∧ ∀ (x6 : Int) (H : Heap), I x6 H →
 zqg2_10 (fun x6' H1 => I x6' H1 ∧ μ x6' H1 < μ x6 H) Q E x1 x5 x6 H

def zqg2_14_M  (τ : Tau) (H : Heap) : Prop := mB (τ 1) fun x1 => mV (τ 5) fun x5 => mI .i64 (τ 6) fun x6 => zqg2_14 Q E x1 x5 x6 H

theorem zqg2_15ok  : Ok Pr (zqg2_14_M Q E) (sI (sB zqg2_p5)) (xblock 0 (zqg2_q2 Q E)) E := fun τ H h =>
  wB 1 h (fun x1 h => wV 5 h (fun x5 h => wI 6 h (fun x6 h => match h with | ⟨I, μ, h0, hr⟩ => (conv (by kernel_rfl) (vc_loopG (c := sI (sI (sB zqg2_p5))) (τ := (Tau.upd (Tau.upd (Tau.upd τ 1 (.bool x1)) 5 x5) 6 (.int .i64 x6))) [1, 5] (fun τ H => mI .i64 (τ 6) fun x6' => I x6' H) (fun τ H => μ (gI (τ 6)) H) (by kernel_rfl) h0 (fun τ1 H1 hf hI => uF 1 (.bool x1) (hf 1 (by simp)) (uF 5 x5 (hf 5 (by simp)) (uI 6 hI (fun x6r h => lgx (zqg2_13ok Q E (fun x6' H2 => I x6' H2 ∧ μ x6' H2 < μ x6r H1) (Tau.upd (Tau.upd (Tau.upd τ1 1 (.bool x1)) 5 x5) 6 (.int .i64 x6r)) H1 (conv (by kernel_rfl) (hr x6r H1 h))) (fun τ2 H2 hk => kI 6 hk (fun x6' h => conv (by kernel_rfl) h)))))))))))

theorem zqg2_16ok  : Ok Pr (zqg2_14_M Q E) (sB zqg2_p5) (zqg2_q2 Q E) E := fun τ H h =>
  (conv (by kernel_rfl) (zqg2_15ok Q E τ H h))

noncomputable def zqg2_q8  : XT := (xthen (zqg2_14_M Q E) (zqg2_q2 Q E))

def zqg2_17 (Q : QT) (E : ET) (x1 : Bool) (x5 : Value) (H : Heap) : Prop :=
 zqg2_14 Q E x1 x5 0 H

def zqg2_17_M  (τ : Tau) (H : Heap) : Prop := mB (τ 1) fun x1 => mV (τ 5) fun x5 => zqg2_17 Q E x1 x5 H

theorem zqg2_18ok  : Ok Pr (zqg2_17_M Q E) (sA zqg2_p5) (zqg2_q8 Q E) E := fun τ H h =>
  wB 1 h (fun x1 h => wV 5 h (fun x5 h => (conv (by kernel_rfl) h)))

theorem zqg2_19ok  : Ok Pr (zqg2_17_M Q E) zqg2_p5 (zqg2_q2 Q E) E := fun τ H h =>
  (conv (by kernel_rfl) (vc_seq (K := (zqg2_14_M Q E)) (zqg2_18ok Q E τ H h) (zqg2_16ok Q E)))

theorem zqg2_20ok  : Ok Pr (zqg2_17_M Q E) (sB (sB zqg2_p1)) (zqg2_q1 Q E) E := fun τ H h =>
  (conv (by kernel_rfl) (vc_seq (K := (zqg2_1_M Q E)) (zqg2_19ok Q E τ H h) (zqg2_2ok Q E)))

noncomputable def zqg2_q9  : XT := (xthen (zqg2_17_M Q E) (zqg2_q1 Q E))

def zqg2_21 (Q : QT) (E : ET) (x1 : Bool) (x5 : Value) (H : Heap) : Prop :=
 callV Pr E x5 [(.int .i64 10)] (fun v16 H17 =>
 ∃ b18 : Bool, v16 = (.bool b18) ∧ sel b18
 (Q (.int .i64 10) H17)
 (zqg2_17 Q E x1 x5 H17)) H

def zqg2_21_M  (τ : Tau) (H : Heap) : Prop := mB (τ 1) fun x1 => mV (τ 5) fun x5 => zqg2_21 Q E x1 x5 H

theorem zqg2_22ok  : Ok Pr (zqg2_21_M Q E) (sA (sB zqg2_p1)) (zqg2_q9 Q E) E := fun τ H h =>
  wB 1 h (fun x1 h => wV 5 h (fun x5 h => (conv (by kernel_rfl) h)))

theorem zqg2_23ok  : Ok Pr (zqg2_21_M Q E) (sB zqg2_p1) (zqg2_q1 Q E) E := fun τ H h =>
  (conv (by kernel_rfl) (vc_seq (K := (zqg2_17_M Q E)) (zqg2_22ok Q E τ H h) (zqg2_20ok Q E)))

noncomputable def zqg2_q10  : XT := (xthen (zqg2_21_M Q E) (zqg2_q1 Q E))

def zqg2_24 (Q : QT) (E : ET) (x1 : Bool) (x2 : OA) (H : Heap) : Prop :=
 zqg2_21 Q E x1 (.func (.func 97) #[] #[(.pointer x2)]) H

def zqg2_24_M  (τ : Tau) (H : Heap) : Prop := mB (τ 1) fun x1 => mP (τ 2) fun x2 => zqg2_24 Q E x1 x2 H

theorem zqg2_25ok  : Ok Pr (zqg2_24_M Q E) (sA zqg2_p1) (zqg2_q10 Q E) E := fun τ H h =>
  wB 1 h (fun x1 h => wP 2 h (fun x2 h => (conv (by kernel_rfl) h)))

theorem zqg2_26ok  : Ok Pr (zqg2_24_M Q E) zqg2_p1 (zqg2_q1 Q E) E := fun τ H h =>
  (conv (by kernel_rfl) (vc_seq (K := (zqg2_21_M Q E)) (zqg2_25ok Q E τ H h) (zqg2_23ok Q E)))

def zqg2 (Q : QT) (E : ET) (a0_0 : Int) (a0_1 : Int) (a0_2 : Int) (a0_3 : Int) (a1 : Bool) (H : Heap) : Prop :=
 nw (.cells #[(.int .u64 a0_0), (.int .u64 a0_1), (.int .u64 a0_2), (.int .u64 a0_3)] 46 (0, 0)) H fun i19 H20 =>
 zqg2_24 Q E a1 (some ⟨i19, 0, none⟩) H20

theorem zqg2_fn (a0_0 : Int) (a0_1 : Int) (a0_2 : Int) (a0_3 : Int) (a1 : Bool) (Q : QT) (E : ET) (H : Heap) (h : zqg2 Q E a0_0 a0_1 a0_2 a0_3 a1 H)   : Does Pr 67 #[(.agg #[(.int .u64 a0_0), (.int .u64 a0_1), (.int .u64 a0_2), (.int .u64 a0_3)]), (.bool a1)] H Q E :=
  Fn_of_vc (fn := Try.f67) (c := (bodyOf Try.f67)) (args := [(.agg #[(.int .u64 a0_0), (.int .u64 a0_1), (.int .u64 a0_2), (.int .u64 a0_3)]), (.bool a1)]) mixed (by kernel_rfl) (by kernel_rfl) (by kernel_rfl) (by kernel_rfl) (by kernel_rfl) ((conv (B := vc Pr (bodyOf Try.f67) (argT [(.agg #[(.int .u64 a0_0), (.int .u64 a0_1), (.int .u64 a0_2), (.int .u64 a0_3)]), (.bool a1)]) (zqg2_q1 Q E) E H) (by kernel_rfl) (vc_seq (K := (zqg2_24_M Q E)) (conv (B := vc Pr (sA (bodyOf Try.f67)) (argT [(.agg #[(.int .u64 a0_0), (.int .u64 a0_1), (.int .u64 a0_2), (.int .u64 a0_3)]), (.bool a1)]) (xthen (zqg2_24_M Q E) (zqg2_q1 Q E)) E H) (by kernel_rfl) h) (zqg2_26ok Q E))))

/-! jobmux/nfa.valid$1 -/
def zqh2 (Q : QT) (E : ET) (a0 : Int) (a1 : OA) (H : Heap) : Prop :=
 sel (decide ((a0 : Int) ≥ 0))
 (ptr a1 fun q1 =>
 ldSl q1 H fun p2 l3 c4 =>
 Q (.bool (decide ((a0 : Int) < (l3 : Int)))) H)
 (Q (.bool false) H)

theorem zqh2_fn (a0 : Int) (a1 : OA) (Q : QT) (E : ET) (H : Heap) (h : zqh2 Q E a0 a1 H)   : Does Pr 96 #[(.int .i64 a0), (.pointer a1)] H Q E :=
  Fn_of_vc (fn := Try.f96) (c := (bodyOf Try.f96)) (args := [(.int .i64 a0), (.pointer a1)]) mixed (by kernel_rfl) (by kernel_rfl) (by kernel_rfl) (by kernel_rfl) (by kernel_rfl) ((conv (B := vc Pr (bodyOf Try.f96) (argT [(.int .i64 a0), (.pointer a1)]) (retQ Pr (Try.f96).results.toList Q) E H) (by kernel_rfl) h))

/-! jobmux/nfa.pick$1 -/
def zqi2 (Q : QT) (E : ET) (a0 : Int) (a1 : OA) (H : Heap) : Prop :=
 (64 : Int) ≠ 0 ∧ ptr a1 fun q1 =>
 (0 ≤ ((IntKind.wrap .i64 (Int.tdiv a0 64)) : Int) ∧ ((IntKind.wrap .i64 (Int.tdiv a0 64)) : Int) < ((4 : Nat) : Int)) ∧ ldI .u64 (Addr.add q1 (((IntKind.wrap .i64 (Int.tdiv a0 64)) : Int).toNat * 1)) H fun n2 =>
 (64 : Int) ≠ 0 ∧ 0 ≤ ((Int.tmod a0 64) : Int) ∧ Q (.bool (((IntKind.wrap .u64 (BitVec.ofInt (IntKind.bits .u64) (Int.fdiv n2 (2 ^ min ((Int.tmod a0 64) : Int).toNat (IntKind.bits .u64))) &&& BitVec.ofInt (IntKind.bits .u64) 1).toNat) : Int) == 1)) H

theorem zqi2_fn (a0 : Int) (a1 : OA) (Q : QT) (E : ET) (H : Heap) (h : zqi2 Q E a0 a1 H)   : Does Pr 97 #[(.int .i64 a0), (.pointer a1)] H Q E :=
  Fn_of_vc (fn := Try.f97) (c := (bodyOf Try.f97)) (args := [(.int .i64 a0), (.pointer a1)]) mixed (by kernel_rfl) (by kernel_rfl) (by kernel_rfl) (by kernel_rfl) (by kernel_rfl) ((conv (B := vc Pr (bodyOf Try.f97) (argT [(.int .i64 a0), (.pointer a1)]) (retQ Pr (Try.f97).results.toList Q) E H) (by kernel_rfl) h))

end Go.Proofs.Ytaffcoiomggpfaa
