import Derived.Test.YtaffcoiomggpfaaVPr
/- Printed by gen.py: the Go functions of package nfa over a heap view, and that the model does so. -/
namespace Go.Proofs.Ytaffcoiomggpfaa
open Go.V
set_option linter.unusedVariables false
set_option maxRecDepth 100000
variable (Q : QT) (E : ET)
/-! jobmux/nfa.Compile -/
noncomputable def zqj1_q1 (Q : QT) (E : ET)  : XT := (retQ Pr (Try.f33).results.toList Q)

def zqj1_1 (Q : QT) (E : ET) (x0 : OA) (l0 c0 : Nat) (H : Heap) : Prop :=
 Does Pr 51 #[(.slice x0 l0 c0)] H (fun v4 H5 =>
 ∃ (p6 : OA) (l7 c8 : Nat), v4 = (.slice p6 l7 c8) ∧ Q (.tuple #[(.slice p6 l7 c8), (.int .i64 0)]) H5) E

def zqj1_1_M  (τ : Tau) (H : Heap) : Prop := mSl (τ 0) fun x0 l0 c0 => zqj1_1 Q E x0 l0 c0 H

theorem zqj1_2ok  : Ok Pr (zqj1_1_M Q E) (sB (sB (bodyOf Try.f33))) (zqj1_q1 Q E) E := fun τ H h =>
  wSl 0 h (fun x0 l0 c0 h => (conv (by kernel_rfl) h))

def zqj1_3 (Q : QT) (E : ET) (x0 : OA) (l0 c0 : Nat) (H : Heap) : Prop :=
 Does Pr 40 #[(.slice x0 l0 c0)] H (fun v9 H10 =>
 ∃ b11 : Bool, v9 = (.bool b11) ∧ sel (!b11)
 (Q (.tuple #[(.slice none 0 0), (.int .i64 3)]) H10)
 (zqj1_1 Q E x0 l0 c0 H10)) E

def zqj1_3_M  (τ : Tau) (H : Heap) : Prop := mSl (τ 0) fun x0 l0 c0 => zqj1_3 Q E x0 l0 c0 H

theorem zqj1_4ok  : Ok Pr (zqj1_3_M Q E) (sA (sB (bodyOf Try.f33))) (xthen (zqj1_1_M Q E) (zqj1_q1 Q E)) E := fun τ H h =>
  wSl 0 h (fun x0 l0 c0 h => (conv (by kernel_rfl) h))

theorem zqj1_5ok  : Ok Pr (zqj1_3_M Q E) (sB (bodyOf Try.f33)) (zqj1_q1 Q E) E := fun τ H h =>
  (conv (by kernel_rfl) (vc_seq (K := (zqj1_1_M Q E)) (zqj1_4ok Q E τ H h) (zqj1_2ok Q E)))

def zqj1 (Q : QT) (E : ET) (a0 : OA) (a0l : Nat) (a0c : Nat) (H : Heap) : Prop :=
 zqj1_3 Q E a0 a0l a0c H

theorem zqj1_fn (a0 : OA) (a0l : Nat) (a0c : Nat) (Q : QT) (E : ET) (H : Heap) (h : zqj1 Q E a0 a0l a0c H)   : Does Pr 33 #[(.slice a0 a0l a0c)] H Q E :=
  Fn_of_vc (fn := Try.f33) (c := (bodyOf Try.f33)) (args := [(.slice a0 a0l a0c)]) mixed (by kernel_rfl) (by kernel_rfl) (by kernel_rfl) (by kernel_rfl) (by kernel_rfl) ((conv (B := vc Pr (bodyOf Try.f33) (argT [(.slice a0 a0l a0c)]) (zqj1_q1 Q E) E H) (by kernel_rfl) (vc_seq (K := (zqj1_3_M Q E)) (conv (B := vc Pr (sA (bodyOf Try.f33)) (argT [(.slice a0 a0l a0c)]) (xthen (zqj1_3_M Q E) (zqj1_q1 Q E)) E H) (by kernel_rfl) h) (zqj1_5ok Q E))))

/-! jobmux/nfa.Run -/
noncomputable def zqk1_q1 (Q : QT) (E : ET)  : XT := (retQ Pr (Try.f35).results.toList Q)

noncomputable def zqk1_p0 : Code := bodyOf Try.f35

def zqk1_1 (Q : QT) (E : ET) (x0 : OA) (l0 c0 : Nat) (x1 : OA) (l1 c1 : Nat) (H : Heap) : Prop :=
 Does Pr 50 #[(.slice x0 l0 c0), (.bool false), (.bool true)] H (fun v4 H5 =>
 ∃ p6 : OA, v4 = (.pointer p6) ∧ Does Pr 52 #[(.pointer p6), (.slice x1 l1 c1)] H5 (fun v7 H8 =>
 ∃ b9 : Bool, v7 = (.bool b9) ∧ Does Pr 53 #[(.pointer p6)] H8 (fun v10 H11 =>
 ∃ n12 : Int, v10 = (.int .i64 n12) ∧ Q (.int .i64 n12) H11) E) E) E

def zqk1_1_M  (τ : Tau) (H : Heap) : Prop := mSl (τ 0) fun x0 l0 c0 => mSl (τ 1) fun x1 l1 c1 => zqk1_1 Q E x0 l0 c0 x1 l1 c1 H

theorem zqk1_2ok  : Ok Pr (zqk1_1_M Q E) (sB (sB zqk1_p0)) (zqk1_q1 Q E) E := fun τ H h =>
  wSl 0 h (fun x0 l0 c0 h => wSl 1 h (fun x1 l1 c1 h => (conv (by kernel_rfl) h)))

noncomputable def zqk1_q2  : XT := (xthen (zqk1_1_M Q E) (zqk1_q1 Q E))

def zqk1_3 (Q : QT) (E : ET) (x0 : OA) (l0 c0 : Nat) (x1 : OA) (l1 c1 : Nat) (H : Heap) : Prop :=
 Does Pr 62 #[(.slice x0 l0 c0)] H (fun v13 H14 =>
 ∃ b15 : Bool, v13 = (.bool b15) ∧ sel (!b15)
 (Q (.int .i64 (-1)) H14)
 (zqk1_1 Q E x0 l0 c0 x1 l1 c1 H14)) E

def zqk1_3_M  (τ : Tau) (H : Heap) : Prop := mSl (τ 0) fun x0 l0 c0 => mSl (τ 1) fun x1 l1 c1 => zqk1_3 Q E x0 l0 c0 x1 l1 c1 H

theorem zqk1_4ok  : Ok Pr (zqk1_3_M Q E) (sA (sB zqk1_p0)) (zqk1_q2 Q E) E := fun τ H h =>
  wSl 0 h (fun x0 l0 c0 h => wSl 1 h (fun x1 l1 c1 h => (conv (by kernel_rfl) h)))

theorem zqk1_5ok  : Ok Pr (zqk1_3_M Q E) (sB zqk1_p0) (zqk1_q1 Q E) E := fun τ H h =>
  (conv (by kernel_rfl) (vc_seq (K := (zqk1_1_M Q E)) (zqk1_4ok Q E τ H h) (zqk1_2ok Q E)))

def zqk1 (Q : QT) (E : ET) (a0 : OA) (a0l : Nat) (a0c : Nat) (a1 : OA) (a1l : Nat) (a1c : Nat) (H : Heap) : Prop :=
 zqk1_3 Q E a0 a0l a0c a1 a1l a1c H

theorem zqk1_fn (a0 : OA) (a0l : Nat) (a0c : Nat) (a1 : OA) (a1l : Nat) (a1c : Nat) (Q : QT) (E : ET) (H : Heap) (h : zqk1 Q E a0 a0l a0c a1 a1l a1c H)   : Does Pr 35 #[(.slice a0 a0l a0c), (.slice a1 a1l a1c)] H Q E :=
  Fn_of_vc (fn := Try.f35) (c := zqk1_p0) (args := [(.slice a0 a0l a0c), (.slice a1 a1l a1c)]) mixed (by kernel_rfl) (by kernel_rfl) (by kernel_rfl) (by kernel_rfl) (by kernel_rfl) ((conv (B := vc Pr zqk1_p0 (argT [(.slice a0 a0l a0c), (.slice a1 a1l a1c)]) (zqk1_q1 Q E) E H) (by kernel_rfl) (vc_seq (K := (zqk1_3_M Q E)) (conv (B := vc Pr (sA zqk1_p0) (argT [(.slice a0 a0l a0c), (.slice a1 a1l a1c)]) (xthen (zqk1_3_M Q E) (zqk1_q1 Q E)) E H) (by kernel_rfl) h) (zqk1_5ok Q E))))

/-! jobmux/nfa.Sample -/
noncomputable def zql1_q1 (Q : QT) (E : ET)  : XT := (retQ Pr (Try.f37).results.toList Q)

noncomputable def zql1_p1 : Code := sB (bodyOf Try.f37)

noncomputable def zql1_p4 : Code := sB (sB (sB zql1_p1))

def zql1_1 (Q : QT) (E : ET)  (H : Heap) : Prop :=
 Q (.tuple #[(.slice none 0 0), (.bool false)]) H

def zql1_1_M  (τ : Tau) (H : Heap) : Prop := zql1_1 Q E  H

theorem zql1_2ok  : Ok Pr (zql1_1_M Q E) (sB (sB zql1_p4)) (zql1_q1 Q E) E := fun τ H h =>
  (conv (by kernel_rfl) h)

noncomputable def zql1_q2  : XT := (xthen (zql1_1_M Q E) (zql1_q1 Q E))

noncomputable def zql1_q4 (nx138 : Int → HP) : XT := (xthen (fun τ H => mI .i64 (τ 6) fun x6' => nx138 x6' H) (xblock 0 (zql1_q2 Q E)))

noncomputable def zql1_p9 : Code := sI (sI (sA (sB zql1_p4)))

noncomputable def zql1_q5 (nx138 : Int → HP) : XT := (xblock 1 (zql1_q4 Q E nx138))

noncomputable def zql1_p12 : Code := sB (sI (sB zql1_p9))

noncomputable def zql1_p13 : Code := sB zql1_p12

def zql1_3 (nx138 : Int → HP) (Q : QT) (E : ET) (x0 : OA) (l0 c0 : Nat) (x4 x5 : OA) (x6 : Int) (x7 : OA) (l7 c7 : Nat) (H : Heap) : Prop :=
 ptr x5 fun q267 =>
 wr q267 [(.slice x7 l7 c7)] H fun H266 =>
 nx138 x6 H266

def zql1_3_M (nx138 : Int → HP) (τ : Tau) (H : Heap) : Prop := mSl (τ 0) fun x0 l0 c0 => mP (τ 4) fun x4 => mP (τ 5) fun x5 => mI .i64 (τ 6) fun x6 => mSl (τ 7) fun x7 l7 c7 => zql1_3 nx138 Q E x0 l0 c0 x4 x5 x6 x7 l7 c7 H

theorem zql1_4ok (nx138 : Int → HP) : Ok Pr (zql1_3_M Q E nx138) (sB zql1_p13) (zql1_q5 Q E nx138) E := fun τ H h =>
  wSl 0 h (fun x0 l0 c0 h => wP 4 h (fun x4 h => wP 5 h (fun x5 h => wI 6 h (fun x6 h => wSl 7 h (fun x7 l7 c7 h => (conv (by kernel_rfl) h))))))

noncomputable def zql1_q6 (nx138 : Int → HP) : XT := (xthen (zql1_3_M Q E nx138) (zql1_q5 Q E nx138))

def zql1_5 (nx138 : Int → HP) (Q : QT) (E : ET) (x0 : OA) (l0 c0 : Nat) (x4 x5 : OA) (x6 : Int) (x7 : OA) (l7 c7 : Nat) (H : Heap) : Prop :=
 sel (decide (x6 ≥ 0))
 (ptr x4 fun q268 =>
 ldP q268 H fun p269 =>
 Does Pr 66 #[(.pointer p269), (.int .i64 x6)] H (fun v270 H271 =>
 ∃ (p272 : OA) (l273 c274 : Nat), v270 = (.slice p272 l273 c274) ∧ nw (.cells #[(.int .u8 10)] 5 (0, 0)) H271 fun i275 H276 =>
 app Pr 24 p272 l273 c274 (.slice (some ⟨i275, 0, none⟩) 1 1) H276 fun p277 l278 c279 H280 =>
 Q (.tuple #[(.slice p277 l278 c279), (.bool true)]) H280) E)
 (zql1_3 nx138 Q E x0 l0 c0 x4 x5 x6 x7 l7 c7 H)

def zql1_5_M (nx138 : Int → HP) (τ : Tau) (H : Heap) : Prop := mSl (τ 0) fun x0 l0 c0 => mP (τ 4) fun x4 => mP (τ 5) fun x5 => mI .i64 (τ 6) fun x6 => mSl (τ 7) fun x7 l7 c7 => zql1_5 nx138 Q E x0 l0 c0 x4 x5 x6 x7 l7 c7 H

theorem zql1_6ok (nx138 : Int → HP) : Ok Pr (zql1_5_M Q E nx138) (sA zql1_p13) (zql1_q6 Q E nx138) E := fun τ H h =>
  wSl 0 h (fun x0 l0 c0 h => wP 4 h (fun x4 h => wP 5 h (fun x5 h => wI 6 h (fun x6 h => wSl 7 h (fun x7 l7 c7 h => (conv (by kernel_rfl) h))))))

theorem zql1_7ok (nx138 : Int → HP) : Ok Pr (zql1_5_M Q E nx138) zql1_p13 (zql1_q5 Q E nx138) E := fun τ H h =>
  (conv (by kernel_rfl) (vc_seq (K := (zql1_3_M Q E nx138)) (zql1_6ok Q E nx138 τ H h) (zql1_4ok Q E nx138)))

noncomputable def zql1_q7 (nx138 : Int → HP) : XT := (xthen (zql1_5_M Q E nx138) (zql1_q5 Q E nx138))

noncomputable def zql1_p18 : Code := sI (sB (sA zql1_p12))

noncomputable def zql1_q9 (nx138 : Int → HP) (nx284 : Int → OA → Nat → Nat → OA → HP) : XT := (xthen (fun τ H => mI .i64 (τ 6) fun x6' => mSl (τ 7) fun x7' l7' c7' => mP (τ 8) fun x8' => nx284 x6' x7' l7' c7' x8' H) (xblock 2 (zql1_q7 Q E nx138)))

noncomputable def zql1_p20 : Code := sB (sI zql1_p18)

def zql1_8 (nx138 : Int → HP) (nx284 : Int → OA → Nat → Nat → OA → HP) (Q : QT) (E : ET) (x0 : OA) (l0 c0 : Nat) (x4 x5 : OA) (x6 : Int) (x7 : OA) (l7 c7 : Nat) (x8 : OA) (H : Heap) : Prop :=
 ptr x8 fun q391 =>
 ldI .i64 q391 H fun n392 =>
 nw (.cells #[(.int .i64 0)] 3 (0, 0)) H fun i393 H394 =>
 wr ⟨i393, 0, none⟩ [(.int .i64 n392)] H394 fun H395 =>
 ldI .i64 ⟨i393, 0, none⟩ H395 fun n396 =>
 wr ⟨i393, 0, none⟩ [(.int .i64 (IntKind.wrap .i64 (n396 + 1)))] H395 fun H397 =>
 nx284 x6 x7 l7 c7 (some ⟨i393, 0, none⟩) H397

def zql1_8_M (nx138 : Int → HP) (nx284 : Int → OA → Nat → Nat → OA → HP) (τ : Tau) (H : Heap) : Prop := mSl (τ 0) fun x0 l0 c0 => mP (τ 4) fun x4 => mP (τ 5) fun x5 => mI .i64 (τ 6) fun x6 => mSl (τ 7) fun x7 l7 c7 => mP (τ 8) fun x8 => zql1_8 nx138 nx284 Q E x0 l0 c0 x4 x5 x6 x7 l7 c7 x8 H

theorem zql1_9ok (nx138 : Int → HP) (nx284 : Int → OA → Nat → Nat → OA → HP) : Ok Pr (zql1_8_M Q E nx138 nx284) (sB zql1_p20) (zql1_q9 Q E nx138 nx284) E := fun τ H h =>
  wSl 0 h (fun x0 l0 c0 h => wP 4 h (fun x4 h => wP 5 h (fun x5 h => wI 6 h (fun x6 h => wSl 7 h (fun x7 l7 c7 h => wP 8 h (fun x8 h => (conv (by kernel_rfl) h)))))))

noncomputable def zql1_q10 (nx138 : Int → HP) (nx284 : Int → OA → Nat → Nat → OA → HP) : XT := (xthen (zql1_8_M Q E nx138 nx284) (zql1_q9 Q E nx138 nx284))

noncomputable def zql1_p24 : Code := sB (sI (sA zql1_p20))

noncomputable def zql1_p26 : Code := sB (sB zql1_p24)

noncomputable def zql1_q12 (nx138 : Int → HP) (nx284 : Int → OA → Nat → Nat → OA → HP) : XT := (xblock 4 (xblock 3 (zql1_q10 Q E nx138 nx284)))

noncomputable def zql1_p28 : Code := sI (sB zql1_p26)

noncomputable def zql1_p29 : Code := sB zql1_p28

noncomputable def zql1_p30 : Code := sT zql1_p29

def zql1_10 (nx138 : Int → HP) (nx284 : Int → OA → Nat → Nat → OA → HP) (Q : QT) (E : ET) (x0 : OA) (l0 c0 : Nat) (x4 x5 : OA) (x6 : Int) (x7 : OA) (l7 c7 : Nat) (x8 : OA) (H : Heap) : Prop :=
 ptr x5 fun q450 =>
 ldSl q450 H fun p451 l452 c453 =>
 ptr x8 fun q454 =>
 ldI .i64 q454 H fun n455 =>
 (0 ≤ n455 ∧ n455 < (l452 : Int)) ∧ ptr p451 fun q456 =>
 ldI .i64 (Addr.add q456 (n455.toNat * 1)) H fun n457 =>
 zql1_8 nx138 nx284 Q E x0 l0 c0 x4 x5 (if x6 < n457 then n457 else x6) x7 l7 c7 x8 H

def zql1_10_M (nx138 : Int → HP) (nx284 : Int → OA → Nat → Nat → OA → HP) (τ : Tau) (H : Heap) : Prop := mSl (τ 0) fun x0 l0 c0 => mP (τ 4) fun x4 => mP (τ 5) fun x5 => mI .i64 (τ 6) fun x6 => mSl (τ 7) fun x7 l7 c7 => mP (τ 8) fun x8 => zql1_10 nx138 nx284 Q E x0 l0 c0 x4 x5 x6 x7 l7 c7 x8 H

theorem zql1_11ok (nx138 : Int → HP) (nx284 : Int → OA → Nat → Nat → OA → HP) : Ok Pr (zql1_10_M Q E nx138 nx284) (sB zql1_p30) (zql1_q12 Q E nx138 nx284) E := fun τ H h =>
  wSl 0 h (fun x0 l0 c0 h => wP 4 h (fun x4 h => wP 5 h (fun x5 h => wI 6 h (fun x6 h => wSl 7 h (fun x7 l7 c7 h => wP 8 h (fun x8 h => (conv (by kernel_rfl) h)))))))

noncomputable def zql1_q13 (nx138 : Int → HP) (nx284 : Int → OA → Nat → Nat → OA → HP) : XT := (xthen (zql1_10_M Q E nx138 nx284) (zql1_q12 Q E nx138 nx284))

def zql1_12 (nx138 : Int → HP) (nx284 : Int → OA → Nat → Nat → OA → HP) (Q : QT) (E : ET) (x0 : OA) (l0 c0 : Nat) (x4 x5 : OA) (x6 : Int) (x7 : OA) (l7 c7 : Nat) (x8 x9 : OA) (H : Heap) : Prop :=
 ptr x9 fun q458 =>
 ldB (Addr.add q458 2) H fun b459 =>
 sel (!b459)
 (ptr x4 fun q460 =>
 ldP q460 H fun p461 =>
 ptr x5 fun q462 =>
 ldSl q462 H fun p463 l464 c465 =>
 ptr x8 fun q466 =>
 ldI .i64 q466 H fun n467 =>
 (0 ≤ n467 ∧ n467 < (l464 : Int)) ∧ ptr p463 fun q468 =>
 ldI .i64 (Addr.add q468 (n467.toNat * 1)) H fun n469 =>
 Does Pr 66 #[(.pointer p461), (.int .i64 n469)] H (fun v470 H471 =>
 ∃ (p472 : OA) (l473 c474 : Nat), v470 = (.slice p472 l473 c474) ∧ Q (.tuple #[(.slice p472 l473 c474), (.bool true)]) H471) (fun _ _ => False))
 (zql1_10 nx138 nx284 Q E x0 l0 c0 x4 x5 x6 x7 l7 c7 x8 H)

def zql1_12_M (nx138 : Int → HP) (nx284 : Int → OA → Nat → Nat → OA → HP) (τ : Tau) (H : Heap) : Prop := mSl (τ 0) fun x0 l0 c0 => mP (τ 4) fun x4 => mP (τ 5) fun x5 => mI .i64 (τ 6) fun x6 => mSl (τ 7) fun x7 l7 c7 => mP (τ 8) fun x8 => mP (τ 9) fun x9 => zql1_12 nx138 nx284 Q E x0 l0 c0 x4 x5 x6 x7 l7 c7 x8 x9 H

theorem zql1_13ok (nx138 : Int → HP) (nx284 : Int → OA → Nat → Nat → OA → HP) : Ok Pr (zql1_12_M Q E nx138 nx284) (sA zql1_p30) (zql1_q13 Q E nx138 nx284) E := fun τ H h =>
  wSl 0 h (fun x0 l0 c0 h => wP 4 h (fun x4 h => wP 5 h (fun x5 h => wI 6 h (fun x6 h => wSl 7 h (fun x7 l7 c7 h => wP 8 h (fun x8 h => wP 9 h (fun x9 h => (conv (by kernel_rfl) h))))))))

theorem zql1_14ok (nx138 : Int → HP) (nx284 : Int → OA → Nat → Nat → OA → HP) : Ok Pr (zql1_12_M Q E nx138 nx284) zql1_p30 (zql1_q12 Q E nx138 nx284) E := fun τ H h =>
  (conv (by kernel_rfl) (vc_seq (K := (zql1_10_M Q E nx138 nx284)) (zql1_13ok Q E nx138 nx284 τ H h) (zql1_11ok Q E nx138 nx284)))

def zql1_15 (nx138 : Int → HP) (nx284 : Int → OA → Nat → Nat → OA → HP) (Q : QT) (E : ET) (x0 : OA) (l0 c0 : Nat) (x4 x5 : OA) (x6 : Int) (x7 : OA) (l7 c7 : Nat) (x8 x9 x10 : OA) (x11 : Value) (x50 : Int) (H : Heap) : Prop :=
 sel (x50 == 2)
 (ptr x10 fun q475 =>
 ldI .i64 (Addr.add q475 1) H fun n476 =>
 ptr x9 fun q477 =>
 ldB (Addr.add q477 2) H fun b478 =>
 callV Pr E x11 [(.int .i64 n476), (.bool b478)] (fun v479 H480 =>
 ptr x10 fun q481 =>
 ldI .i64 (Addr.add q481 2) H480 fun n482 =>
 ptr x9 fun q483 =>
 ldB (Addr.add q483 2) H480 fun b484 =>
 callV Pr E x11 [(.int .i64 n482), (.bool b484)] (fun v485 H486 =>
 zql1_8 nx138 nx284 Q E x0 l0 c0 x4 x5 x6 x7 l7 c7 x8 H486) H480) H)
 (sel (x50 == 3)
 (ptr x9 fun q487 =>
 ldB (Addr.add q487 1) H fun b488 =>
 sel b488
 (ptr x10 fun q489 =>
 ldI .i64 (Addr.add q489 1) H fun n490 =>
 ptr x9 fun q491 =>
 ldB (Addr.add q491 2) H fun b492 =>
 callV Pr E x11 [(.int .i64 n490), (.bool b492)] (fun v493 H494 =>
 zql1_8 nx138 nx284 Q E x0 l0 c0 x4 x5 x6 x7 l7 c7 x8 H494) H)
 (zql1_8 nx138 nx284 Q E x0 l0 c0 x4 x5 x6 x7 l7 c7 x8 H))
 (sel (x50 == 4)
 (ptr x10 fun q495 =>
 ldI .i64 (Addr.add q495 1) H fun n496 =>
 callV Pr E x11 [(.int .i64 n496), (.bool true)] (fun v497 H498 =>
 zql1_8 nx138 nx284 Q E x0 l0 c0 x4 x5 x6 x7 l7 c7 x8 H498) H)
 (sel (x50 == 1)
 (ptr x10 fun q499 =>
 ∃ n500 n501 n502 n503 : Int, Heap.rd H (Addr.add q499 3) 0 [(.int .u64 n500), (.int .u64 n501), (.int .u64 n502), (.int .u64 n503)] ∧ ptr x9 fun q504 =>
 ldB (Addr.add q504 2) H fun b505 =>
 Does Pr 67 #[(.agg #[(.int .u64 n500), (.int .u64 n501), (.int .u64 n502), (.int .u64 n503)]), (.bool b505)] H (fun v506 H507 =>
 ∃ n508 : Int, v506 = (.int .i64 n508) ∧ sel (decide (n508 ≥ 0))
 (ptr x4 fun q509 =>
 ldP q509 H507 fun p510 =>
 ptr x10 fun q511 =>
 ldI .i64 (Addr.add q511 1) H507 fun n512 =>
 ptr x5 fun q513 =>
 ldSl q513 H507 fun p514 l515 c516 =>
 ptr x8 fun q517 =>
 ldI .i64 q517 H507 fun n518 =>
 (0 ≤ n518 ∧ n518 < (l515 : Int)) ∧ ptr p514 fun q519 =>
 ldI .i64 (Addr.add q519 (n518.toNat * 1)) H507 fun n520 =>
 Does Pr 64 #[(.pointer p510), (.slice x7 l7 c7), (.agg #[(.int .i64 n512), (.bool (n508 == 10)), (.bool false)]), (.int .i64 n520), (.int .i64 n508)] H507 (fun v521 H522 =>
 ∃ (p523 : OA) (l524 c525 : Nat), v521 = (.slice p523 l524 c525) ∧ zql1_8 nx138 nx284 Q E x0 l0 c0 x4 x5 x6 p523 l524 c525 x8 H522) (fun _ _ => False))
 (zql1_8 nx138 nx284 Q E x0 l0 c0 x4 x5 x6 x7 l7 c7 x8 H507)) E)
 (zql1_8 nx138 nx284 Q E x0 l0 c0 x4 x5 x6 x7 l7 c7 x8 H))))

def zql1_15_M (nx138 : Int → HP) (nx284 : Int → OA → Nat → Nat → OA → HP) (τ : Tau) (H : Heap) : Prop := mSl (τ 0) fun x0 l0 c0 => mP (τ 4) fun x4 => mP (τ 5) fun x5 => mI .i64 (τ 6) fun x6 => mSl (τ 7) fun x7 l7 c7 => mP (τ 8) fun x8 => mP (τ 9) fun x9 => mP (τ 10) fun x10 => mV (τ 11) fun x11 => mI .i64 (τ 50) fun x50 => zql1_15 nx138 nx284 Q E x0 l0 c0 x4 x5 x6 x7 l7 c7 x8 x9 x10 x11 x50 H

theorem zql1_16ok (nx138 : Int → HP) (nx284 : Int → OA → Nat → Nat → OA → HP) : Ok Pr (zql1_15_M Q E nx138 nx284) (sE zql1_p29) (zql1_q12 Q E nx138 nx284) E := fun τ H h =>
  wSl 0 h (fun x0 l0 c0 h => wP 4 h (fun x4 h => wP 5 h (fun x5 h => wI 6 h (fun x6 h => wSl 7 h (fun x7 l7 c7 h => wP 8 h (fun x8 h => wP 9 h (fun x9 h => wP 10 h (fun x10 h => wV 11 h (fun x11 h => wI 50 h (fun x50 h => (conv (by kernel_rfl) h)))))))))))

def zql1_17 (nx138 : Int → HP) (nx284 : Int → OA → Nat → Nat → OA → HP) (Q : QT) (E : ET) (x0 : OA) (l0 c0 : Nat) (x4 x5 : OA) (x6 : Int) (x7 : OA) (l7 c7 : Nat) (x8 x9 x10 : OA) (x11 : Value) (x50 : Int) (x51 : Bool) (H : Heap) : Prop :=
 sel x51
 (zql1_12 nx138 nx284 Q E x0 l0 c0 x4 x5 x6 x7 l7 c7 x8 x9 H)
 (zql1_15 nx138 nx284 Q E x0 l0 c0 x4 x5 x6 x7 l7 c7 x8 x9 x10 x11 x50 H)

def zql1_17_M (nx138 : Int → HP) (nx284 : Int → OA → Nat → Nat → OA → HP) (τ : Tau) (H : Heap) : Prop := mSl (τ 0) fun x0 l0 c0 => mP (τ 4) fun x4 => mP (τ 5) fun x5 => mI .i64 (τ 6) fun x6 => mSl (τ 7) fun x7 l7 c7 => mP (τ 8) fun x8 => mP (τ 9) fun x9 => mP (τ 10) fun x10 => mV (τ 11) fun x11 => mI .i64 (τ 50) fun x50 => mB (τ 51) fun x51 => zql1_17 nx138 nx284 Q E x0 l0 c0 x4 x5 x6 x7 l7 c7 x8 x9 x10 x11 x50 x51 H

theorem zql1_18ok (nx138 : Int → HP) (nx284 : Int → OA → Nat → Nat → OA → HP) : Ok Pr (zql1_17_M Q E nx138 nx284) zql1_p29 (zql1_q12 Q E nx138 nx284) E := fun τ H h =>
  wSl 0 h (fun x0 l0 c0 h => wP 4 h (fun x4 h => wP 5 h (fun x5 h => wI 6 h (fun x6 h => wSl 7 h (fun x7 l7 c7 h => wP 8 h (fun x8 h => wP 9 h (fun x9 h => wP 10 h (fun x10 h => wV 11 h (fun x11 h => wI 50 h (fun x50 h => wB 51 h (fun x51 h => (conv (by kernel_rfl) (sel_mapT (b := x51) (τ := (Tau.upd (Tau.upd (Tau.upd (Tau.upd (Tau.upd (Tau.upd (Tau.upd (Tau.upd (Tau.upd (Tau.upd (Tau.upd τ 0 (.slice x0 l0 c0)) 4 (.pointer x4)) 5 (.pointer x5)) 6 (.int .i64 x6)) 7 (.slice x7 l7 c7)) 8 (.pointer x8)) 9 (.pointer x9)) 10 (.pointer x10)) 11 x11) 50 (.int .i64 x50)) 51 (.bool x51))) (H := H) (zql1_14ok Q E nx138 nx284) (zql1_16ok Q E nx138 nx284) (conv (by kernel_rfl) h))))))))))))))

noncomputable def zql1_q14 (nx138 : Int → HP) (nx284 : Int → OA → Nat → Nat → OA → HP) : XT := (xthen (zql1_17_M Q E nx138 nx284) (zql1_q12 Q E nx138 nx284))

def zql1_19 (nx138 : Int → HP) (nx284 : Int → OA → Nat → Nat → OA → HP) (Q : QT) (E : ET) (x0 : OA) (l0 c0 : Nat) (x4 x5 : OA) (x6 : Int) (x7 : OA) (l7 c7 : Nat) (x8 x9 x10 : OA) (x11 : Value) (x50 : Int) (H : Heap) : Prop :=
 zql1_17 nx138 nx284 Q E x0 l0 c0 x4 x5 x6 x7 l7 c7 x8 x9 x10 x11 x50 (x50 == 5) H

def zql1_19_M (nx138 : Int → HP) (nx284 : Int → OA → Nat → Nat → OA → HP) (τ : Tau) (H : Heap) : Prop := mSl (τ 0) fun x0 l0 c0 => mP (τ 4) fun x4 => mP (τ 5) fun x5 => mI .i64 (τ 6) fun x6 => mSl (τ 7) fun x7 l7 c7 => mP (τ 8) fun x8 => mP (τ 9) fun x9 => mP (τ 10) fun x10 => mV (τ 11) fun x11 => mI .i64 (τ 50) fun x50 => zql1_19 nx138 nx284 Q E x0 l0 c0 x4 x5 x6 x7 l7 c7 x8 x9 x10 x11 x50 H

theorem zql1_20ok (nx138 : Int → HP) (nx284 : Int → OA → Nat → Nat → OA → HP) : Ok Pr (zql1_19_M Q E nx138 nx284) (sA zql1_p28) (zql1_q14 Q E nx138 nx284) E := fun τ H h =>
  wSl 0 h (fun x0 l0 c0 h => wP 4 h (fun x4 h => wP 5 h (fun x5 h => wI 6 h (fun x6 h => wSl 7 h (fun x7 l7 c7 h => wP 8 h (fun x8 h => wP 9 h (fun x9 h => wP 10 h (fun x10 h => wV 11 h (fun x11 h => wI 50 h (fun x50 h => (conv (by kernel_rfl) h)))))))))))

theorem zql1_21ok (nx138 : Int → HP) (nx284 : Int → OA → Nat → Nat → OA → HP) : Ok Pr (zql1_19_M Q E nx138 nx284) zql1_p28 (zql1_q12 Q E nx138 nx284) E := fun τ H h =>
  (conv (by kernel_rfl) (vc_seq (K := (zql1_17_M Q E nx138 nx284)) (zql1_20ok Q E nx138 nx284 τ H h) (zql1_18ok Q E nx138 nx284)))

theorem zql1_22ok (nx138 : Int → HP) (nx284 : Int → OA → Nat → Nat → OA → HP) : Ok Pr (zql1_19_M Q E nx138 nx284) (sB zql1_p26) (xblock 3 (zql1_q10 Q E nx138 nx284)) E := fun τ H h =>
  (conv (by kernel_rfl) (zql1_21ok Q E nx138 nx284 τ H h))

noncomputable def zql1_q15 (nx138 : Int → HP) (nx284 : Int → OA → Nat → Nat → OA → HP) : XT := (xthen (zql1_19_M Q E nx138 nx284) (xblock 3 (zql1_q10 Q E nx138 nx284)))

def zql1_23 (nx138 : Int → HP) (nx284 : Int → OA → Nat → Nat → OA → HP) (Q : QT) (E : ET) (x0 : OA) (l0 c0 : Nat) (x4 x5 : OA) (x6 : Int) (x7 : OA) (l7 c7 : Nat) (x8 x9 x10 : OA) (x11 : Value) (H : Heap) : Prop :=
 ptr x10 fun q526 =>
 ldI .i64 q526 H fun n527 =>
 zql1_19 nx138 nx284 Q E x0 l0 c0 x4 x5 x6 x7 l7 c7 x8 x9 x10 x11 n527 H

def zql1_23_M (nx138 : Int → HP) (nx284 : Int → OA → Nat → Nat → OA → HP) (τ : Tau) (H : Heap) : Prop := mSl (τ 0) fun x0 l0 c0 => mP (τ 4) fun x4 => mP (τ 5) fun x5 => mI .i64 (τ 6) fun x6 => mSl (τ 7) fun x7 l7 c7 => mP (τ 8) fun x8 => mP (τ 9) fun x9 => mP (τ 10) fun x10 => mV (τ 11) fun x11 => zql1_23 nx138 nx284 Q E x0 l0 c0 x4 x5 x6 x7 l7 c7 x8 x9 x10 x11 H

theorem zql1_24ok (nx138 : Int → HP) (nx284 : Int → OA → Nat → Nat → OA → HP) : Ok Pr (zql1_23_M Q E nx138 nx284) (sA zql1_p26) (zql1_q15 Q E nx138 nx284) E := fun τ H h =>
  wSl 0 h (fun x0 l0 c0 h => wP 4 h (fun x4 h => wP 5 h (fun x5 h => wI 6 h (fun x6 h => wSl 7 h (fun x7 l7 c7 h => wP 8 h (fun x8 h => wP 9 h (fun x9 h => wP 10 h (fun x10 h => wV 11 h (fun x11 h => (conv (by kernel_rfl) h))))))))))

theorem zql1_25ok (nx138 : Int → HP) (nx284 : Int → OA → Nat → Nat → OA → HP) : Ok Pr (zql1_23_M Q E nx138 nx284) zql1_p26 (xblock 3 (zql1_q10 Q E nx138 nx284)) E := fun τ H h =>
  (conv (by kernel_rfl) (vc_seq (K := (zql1_19_M Q E nx138 nx284)) (zql1_24ok Q E nx138 nx284 τ H h) (zql1_22ok Q E nx138 nx284)))

noncomputable def zql1_q16 (nx138 : Int → HP) (nx284 : Int → OA → Nat → Nat → OA → HP) : XT := (xthen (zql1_23_M Q E nx138 nx284) (xblock 3 (zql1_q10 Q E nx138 nx284)))

def zql1_26 (nx138 : Int → HP) (nx284 : Int → OA → Nat → Nat → OA → HP) (Q : QT) (E : ET) (x0 : OA) (l0 c0 : Nat) (x4 x5 : OA) (x6 : Int) (x7 : OA) (l7 c7 : Nat) (x8 x9 x10 : OA) (H : Heap) : Prop :=
 zql1_23 nx138 nx284 Q E x0 l0 c0 x4 x5 x6 x7 l7 c7 x8 x9 x10 (.func (.func 65) #[] #[(.pointer x4), (.pointer x5), (.pointer x9), (.pointer x8)]) H

def zql1_26_M (nx138 : Int → HP) (nx284 : Int → OA → Nat → Nat → OA → HP) (τ : Tau) (H : Heap) : Prop := mSl (τ 0) fun x0 l0 c0 => mP (τ 4) fun x4 => mP (τ 5) fun x5 => mI .i64 (τ 6) fun x6 => mSl (τ 7) fun x7 l7 c7 => mP (τ 8) fun x8 => mP (τ 9) fun x9 => mP (τ 10) fun x10 => zql1_26 nx138 nx284 Q E x0 l0 c0 x4 x5 x6 x7 l7 c7 x8 x9 x10 H

theorem zql1_27ok (nx138 : Int → HP) (nx284 : Int → OA → Nat → Nat → OA → HP) : Ok Pr (zql1_26_M Q E nx138 nx284) (sA (sB zql1_p24)) (zql1_q16 Q E nx138 nx284) E := fun τ H h =>
  wSl 0 h (fun x0 l0 c0 h => wP 4 h (fun x4 h => wP 5 h (fun x5 h => wI 6 h (fun x6 h => wSl 7 h (fun x7 l7 c7 h => wP 8 h (fun x8 h => wP 9 h (fun x9 h => wP 10 h (fun x10 h => (conv (by kernel_rfl) h)))))))))

theorem zql1_28ok (nx138 : Int → HP) (nx284 : Int → OA → Nat → Nat → OA → HP) : Ok Pr (zql1_26_M Q E nx138 nx284) (sB zql1_p24) (xblock 3 (zql1_q10 Q E nx138 nx284)) E := fun τ H h =>
  (conv (by kernel_rfl) (vc_seq (K := (zql1_23_M Q E nx138 nx284)) (zql1_27ok Q E nx138 nx284 τ H h) (zql1_25ok Q E nx138 nx284)))

noncomputable def zql1_q17 (nx138 : Int → HP) (nx284 : Int → OA → Nat → Nat → OA → HP) : XT := (xthen (zql1_26_M Q E nx138 nx284) (xblock 3 (zql1_q10 Q E nx138 nx284)))

def zql1_29 (nx138 : Int → HP) (nx284 : Int → OA → Nat → Nat → OA → HP) (Q : QT) (E : ET) (x0 : OA) (l0 c0 : Nat) (x4 x5 : OA) (x6 : Int) (x7 : OA) (l7 c7 : Nat) (x8 x9 : OA) (H : Heap) : Prop :=
 ptr x9 fun q528 =>
 ldI .i64 q528 H fun n529 =>
 (0 ≤ n529 ∧ n529 < (l0 : Int)) ∧ ptr x0 fun q530 =>
 ∃ n531 n532 n533 n534 n535 n536 n537 : Int, Heap.rd H (Addr.add q530 (n529.toNat * 7)) 0 [(.int .i64 n531), (.int .i64 n532), (.int .i64 n533), (.int .u64 n534), (.int .u64 n535), (.int .u64 n536), (.int .u64 n537)] ∧ nw (.cells #[(.int .i64 0), (.int .i64 0), (.int .i64 0), (.int .u64 0), (.int .u64 0), (.int .u64 0), (.int .u64 0)] 91 (0, 0)) H fun i538 H539 =>
 wr ⟨i538, 0, none⟩ [(.int .i64 n531), (.int .i64 n532), (.int .i64 n533), (.int .u64 n534), (.int .u64 n535), (.int .u64 n536), (.int .u64 n537)] H539 fun H540 =>
 zql1_26 nx138 nx284 Q E x0 l0 c0 x4 x5 x6 x7 l7 c7 x8 x9 (some ⟨i538, 0, none⟩) H540

def zql1_29_M (nx138 : Int → HP) (nx284 : Int → OA → Nat → Nat → OA → HP) (τ : Tau) (H : Heap) : Prop := mSl (τ 0) fun x0 l0 c0 => mP (τ 4) fun x4 => mP (τ 5) fun x5 => mI .i64 (τ 6) fun x6 => mSl (τ 7) fun x7 l7 c7 => mP (τ 8) fun x8 => mP (τ 9) fun x9 => zql1_29 nx138 nx284 Q E x0 l0 c0 x4 x5 x6 x7 l7 c7 x8 x9 H

theorem zql1_30ok (nx138 : Int → HP) (nx284 : Int → OA → Nat → Nat → OA → HP) : Ok Pr (zql1_29_M Q E nx138 nx284) (sA zql1_p24) (zql1_q17 Q E nx138 nx284) E := fun τ H h =>
  wSl 0 h (fun x0 l0 c0 h => wP 4 h (fun x4 h => wP 5 h (fun x5 h => wI 6 h (fun x6 h => wSl 7 h (fun x7 l7 c7 h => wP 8 h (fun x8 h => wP 9 h (fun x9 h => (conv (by kernel_rfl) h))))))))

theorem zql1_31ok (nx138 : Int → HP) (nx284 : Int → OA → Nat → Nat → OA → HP) : Ok Pr (zql1_29_M Q E nx138 nx284) zql1_p24 (xblock 3 (zql1_q10 Q E nx138 nx284)) E := fun τ H h =>
  (conv (by kernel_rfl) (vc_seq (K := (zql1_26_M Q E nx138 nx284)) (zql1_30ok Q E nx138 nx284 τ H h) (zql1_28ok Q E nx138 nx284)))

noncomputable def zql1_q18 (nx138 : Int → HP) (nx284 : Int → OA → Nat → Nat → OA → HP) : XT := (xthen (zql1_29_M Q E nx138 nx284) (xblock 3 (zql1_q10 Q E nx138 nx284)))

def zql1_32 (nx138 : Int → HP) (nx284 : Int → OA → Nat → Nat → OA → HP) (Q : QT) (E : ET) (x0 : OA) (l0 c0 : Nat) (x4 x5 : OA) (x6 : Int) (x7 : OA) (l7 c7 : Nat) (x8 : OA) (H : Heap) : Prop :=
 ptr x4 fun q541 =>
 ldP q541 H fun p542 =>
 ptr p542 fun q543 =>
 ldSl (Addr.add q543 2) H fun p544 l545 c546 =>
 ptr x5 fun q547 =>
 ldSl q547 H fun p548 l549 c550 =>
 ptr x8 fun q551 =>
 ldI .i64 q551 H fun n552 =>
 (0 ≤ n552 ∧ n552 < (l549 : Int)) ∧ ptr p548 fun q553 =>
 ldI .i64 (Addr.add q553 (n552.toNat * 1)) H fun n554 =>
 (0 ≤ n554 ∧ n554 < (l545 : Int)) ∧ ptr p544 fun q555 =>
 ∃ n556 : Int, ∃ b557 : Bool, ∃ b558 : Bool, ∃ n559 n560 : Int, Heap.rd H (Addr.add q555 (n554.toNat * 5)) 0 [(.int .i64 n556), (.bool b557), (.bool b558), (.int .i64 n559), (.int .i64 n560)] ∧ nw (.cells #[(.int .i64 0), (.bool false), (.bool false), (.int .i64 0), (.int .i64 0)] 102 (0, 0)) H fun i561 H562 =>
 wr ⟨i561, 0, none⟩ [(.int .i64 n556), (.bool b557), (.bool b558), (.int .i64 n559), (.int .i64 n560)] H562 fun H563 =>
 zql1_29 nx138 nx284 Q E x0 l0 c0 x4 x5 x6 x7 l7 c7 x8 (some ⟨i561, 0, none⟩) H563

def zql1_32_M (nx138 : Int → HP) (nx284 : Int → OA → Nat → Nat → OA → HP) (τ : Tau) (H : Heap) : Prop := mSl (τ 0) fun x0 l0 c0 => mP (τ 4) fun x4 => mP (τ 5) fun x5 => mI .i64 (τ 6) fun x6 => mSl (τ 7) fun x7 l7 c7 => mP (τ 8) fun x8 => zql1_32 nx138 nx284 Q E x0 l0 c0 x4 x5 x6 x7 l7 c7 x8 H

theorem zql1_33ok (nx138 : Int → HP) (nx284 : Int → OA → Nat → Nat → OA → HP) : Ok Pr (zql1_32_M Q E nx138 nx284) (sA (sI (sA zql1_p20))) (zql1_q18 Q E nx138 nx284) E := fun τ H h =>
  wSl 0 h (fun x0 l0 c0 h => wP 4 h (fun x4 h => wP 5 h (fun x5 h => wI 6 h (fun x6 h => wSl 7 h (fun x7 l7 c7 h => wP 8 h (fun x8 h => (conv (by kernel_rfl) h)))))))

theorem zql1_34ok (nx138 : Int → HP) (nx284 : Int → OA → Nat → Nat → OA → HP) : Ok Pr (zql1_32_M Q E nx138 nx284) (sI (sA zql1_p20)) (xblock 3 (zql1_q10 Q E nx138 nx284)) E := fun τ H h =>
  (conv (by kernel_rfl) (vc_seq (K := (zql1_29_M Q E nx138 nx284)) (zql1_33ok Q E nx138 nx284 τ H h) (zql1_31ok Q E nx138 nx284)))

theorem zql1_35ok (nx138 : Int → HP) (nx284 : Int → OA → Nat → Nat → OA → HP) : Ok Pr (zql1_32_M Q E nx138 nx284) (sA zql1_p20) (zql1_q10 Q E nx138 nx284) E := fun τ H h =>
  (conv (by kernel_rfl) (zql1_34ok Q E nx138 nx284 τ H h))

theorem zql1_36ok (nx138 : Int → HP) (nx284 : Int → OA → Nat → Nat → OA → HP) : Ok Pr (zql1_32_M Q E nx138 nx284) zql1_p20 (zql1_q9 Q E nx138 nx284) E := fun τ H h =>
  (conv (by kernel_rfl) (vc_seq (K := (zql1_8_M Q E nx138 nx284)) (zql1_35ok Q E nx138 nx284 τ H h) (zql1_9ok Q E nx138 nx284)))

noncomputable def zql1_q19 (nx138 : Int → HP) (nx284 : Int → OA → Nat → Nat → OA → HP) : XT := (xthen (zql1_32_M Q E nx138 nx284) (zql1_q9 Q E nx138 nx284))

def zql1_37 (nx138 : Int → HP) (nx284 : Int → OA → Nat → Nat → OA → HP) (Q : QT) (E : ET) (x0 : OA) (l0 c0 : Nat) (x4 x5 : OA) (x6 : Int) (x7 : OA) (l7 c7 : Nat) (x8 : OA) (H : Heap) : Prop :=
 ptr x8 fun q564 =>
 ldI .i64 q564 H fun n565 =>
 ptr x5 fun q566 =>
 ldSl q566 H fun p567 l568 c569 =>
 sel (decide (n565 < (l568 : Int)))
 (zql1_32 nx138 nx284 Q E x0 l0 c0 x4 x5 x6 x7 l7 c7 x8 H)
 (zql1_5 nx138 Q E x0 l0 c0 x4 x5 x6 x7 l7 c7 H)

def zql1_37_M (nx138 : Int → HP) (nx284 : Int → OA → Nat → Nat → OA → HP) (τ : Tau) (H : Heap) : Prop := mSl (τ 0) fun x0 l0 c0 => mP (τ 4) fun x4 => mP (τ 5) fun x5 => mI .i64 (τ 6) fun x6 => mSl (τ 7) fun x7 l7 c7 => mP (τ 8) fun x8 => zql1_37 nx138 nx284 Q E x0 l0 c0 x4 x5 x6 x7 l7 c7 x8 H

theorem zql1_38ok (nx138 : Int → HP) (nx284 : Int → OA → Nat → Nat → OA → HP) : Ok Pr (zql1_37_M Q E nx138 nx284) (sA (sI zql1_p18)) (zql1_q19 Q E nx138 nx284) E := fun τ H h =>
  wSl 0 h (fun x0 l0 c0 h => wP 4 h (fun x4 h => wP 5 h (fun x5 h => wI 6 h (fun x6 h => wSl 7 h (fun x7 l7 c7 h => wP 8 h (fun x8 h => (conv (by kernel_rfl) h)))))))

theorem zql1_39ok (nx138 : Int → HP) (nx284 : Int → OA → Nat → Nat → OA → HP) : Ok Pr (zql1_37_M Q E nx138 nx284) (sI zql1_p18) (zql1_q9 Q E nx138 nx284) E := fun τ H h =>
  (conv (by kernel_rfl) (vc_seq (K := (zql1_32_M Q E nx138 nx284)) (zql1_38ok Q E nx138 nx284 τ H h) (zql1_36ok Q E nx138 nx284)))

def zql1_40 (nx138 : Int → HP) (Q : QT) (E : ET) (x0 : OA) (l0 c0 : Nat) (x4 x5 : OA) (x6 : Int) (x7 : OA) (l7 c7 : Nat) (x8 : OA) (H : Heap) : Prop :=
 ∃ (I : Int → OA → Nat → Nat → OA → HP) (μ : Int → OA → Nat → Nat → OA → Heap → Nat), I x6 x7 l7 c7 x8 H ∧ ∀ (x6 : Int) (x7 : OA) (l7 c7 : Nat) (x8 : OA) (H : Heap), I x6 x7 l7 c7 x8 H →
 zql1_37 nx138 (fun x6' x7' l7' c7' x8' H1 => I x6' x7' l7' c7' x8' H1 ∧ μ x6' x7' l7' c7' x8' H1 < μ x6 x7 l7 c7 x8 H) Q E x0 l0 c0 x4 x5 x6 x7 l7 c7 x8 H

def zql1_40_M (nx138 : Int → HP) (τ : Tau) (H : Heap) : Prop := mSl (τ 0) fun x0 l0 c0 => mP (τ 4) fun x4 => mP (τ 5) fun x5 => mI .i64 (τ 6) fun x6 => mSl (τ 7) fun x7 l7 c7 => mP (τ 8) fun x8 => zql1_40 nx138 Q E x0 l0 c0 x4 x5 x6 x7 l7 c7 x8 H

theorem zql1_41ok (nx138 : Int → HP) : Ok Pr (zql1_40_M Q E nx138) zql1_p18 (xblock 2 (zql1_q7 Q E nx138)) E := fun τ H h =>
  wSl 0 h (fun x0 l0 c0 h => wP 4 h (fun x4 h => wP 5 h (fun x5 h => wI 6 h (fun x6 h => wSl 7 h (fun x7 l7 c7 h => wP 8 h (fun x8 h => match h with | ⟨I, μ, h0, hr⟩ => (conv (by kernel_rfl) (vc_loopG (c := sI zql1_p18) (τ := (Tau.upd (Tau.upd (Tau.upd (Tau.upd (Tau.upd (Tau.upd τ 0 (.slice x0 l0 c0)) 4 (.pointer x4)) 5 (.pointer x5)) 6 (.int .i64 x6)) 7 (.slice x7 l7 c7)) 8 (.pointer x8))) [0, 4, 5] (fun τ H => mI .i64 (τ 6) fun x6' => mSl (τ 7) fun x7' l7' c7' => mP (τ 8) fun x8' => I x6' x7' l7' c7' x8' H) (fun τ H => μ (gI (τ 6)) (gL1 (τ 7)) (gL2 (τ 7)) (gL3 (τ 7)) (gP (τ 8)) H) (by kernel_rfl) h0 (fun τ1 H1 hf hI => uF 0 (.slice x0 l0 c0) (hf 0 (by simp)) (uF 4 (.pointer x4) (hf 4 (by simp)) (uF 5 (.pointer x5) (hf 5 (by simp)) (uI 6 hI (fun x6r h => uSl 7 h (fun x7r l7r c7r h => uP 8 h (fun x8r h => lgx (zql1_39ok Q E nx138 (fun x6' x7' l7' c7' x8' H2 => I x6' x7' l7' c7' x8' H2 ∧ μ x6' x7' l7' c7' x8' H2 < μ x6r x7r l7r c7r x8r H1) (Tau.upd (Tau.upd (Tau.upd (Tau.upd (Tau.upd (Tau.upd τ1 0 (.slice x0 l0 c0)) 4 (.pointer x4)) 5 (.pointer x5)) 6 (.int .i64 x6r)) 7 (.slice x7r l7r c7r)) 8 (.pointer x8r)) H1 (conv (by kernel_rfl) (hr x6r x7r l7r c7r x8r H1 h))) (fun τ2 H2 hk => kI 6 hk (fun x6' h => kSl 7 h (fun x7' l7' c7' h => kP 8 h (fun x8' h => conv (by kernel_rfl) h)))))))))))))))))))

theorem zql1_42ok (nx138 : Int → HP) : Ok Pr (zql1_40_M Q E nx138) (sB (sA zql1_p12)) (zql1_q7 Q E nx138) E := fun τ H h =>
  (conv (by kernel_rfl) (zql1_41ok Q E nx138 τ H h))

noncomputable def zql1_q20 (nx138 : Int → HP) : XT := (xthen (zql1_40_M Q E nx138) (zql1_q7 Q E nx138))

def zql1_43 (nx138 : Int → HP) (Q : QT) (E : ET) (x0 : OA) (l0 c0 : Nat) (x4 x5 : OA) (x6 : Int) (x7 : OA) (l7 c7 : Nat) (H : Heap) : Prop :=
 nw (.cells #[(.int .i64 0)] 3 (0, 0)) H fun i570 H571 =>
 wr ⟨i570, 0, none⟩ [(.int .i64 0)] H571 fun H572 =>
 zql1_40 nx138 Q E x0 l0 c0 x4 x5 x6 x7 l7 c7 (some ⟨i570, 0, none⟩) H572

def zql1_43_M (nx138 : Int → HP) (τ : Tau) (H : Heap) : Prop := mSl (τ 0) fun x0 l0 c0 => mP (τ 4) fun x4 => mP (τ 5) fun x5 => mI .i64 (τ 6) fun x6 => mSl (τ 7) fun x7 l7 c7 => zql1_43 nx138 Q E x0 l0 c0 x4 x5 x6 x7 l7 c7 H

theorem zql1_44ok (nx138 : Int → HP) : Ok Pr (zql1_43_M Q E nx138) (sA (sA zql1_p12)) (zql1_q20 Q E nx138) E := fun τ H h =>
  wSl 0 h (fun x0 l0 c0 h => wP 4 h (fun x4 h => wP 5 h (fun x5 h => wI 6 h (fun x6 h => wSl 7 h (fun x7 l7 c7 h => (conv (by kernel_rfl) h))))))

theorem zql1_45ok (nx138 : Int → HP) : Ok Pr (zql1_43_M Q E nx138) (sA zql1_p12) (zql1_q7 Q E nx138) E := fun τ H h =>
  (conv (by kernel_rfl) (vc_seq (K := (zql1_40_M Q E nx138)) (zql1_44ok Q E nx138 τ H h) (zql1_42ok Q E nx138)))

theorem zql1_46ok (nx138 : Int → HP) : Ok Pr (zql1_43_M Q E nx138) zql1_p12 (zql1_q5 Q E nx138) E := fun τ H h =>
  (conv (by kernel_rfl) (vc_seq (K := (zql1_5_M Q E nx138)) (zql1_45ok Q E nx138 τ H h) (zql1_7ok Q E nx138)))

noncomputable def zql1_q21 (nx138 : Int → HP) : XT := (xthen (zql1_43_M Q E nx138) (zql1_q5 Q E nx138))

def zql1_47 (nx138 : Int → HP) (Q : QT) (E : ET) (x0 : OA) (l0 c0 : Nat) (x4 x5 : OA) (x6 : Int) (H : Heap) : Prop :=
 zql1_43 nx138 Q E x0 l0 c0 x4 x5 x6 none 0 0 H

def zql1_47_M (nx138 : Int → HP) (τ : Tau) (H : Heap) : Prop := mSl (τ 0) fun x0 l0 c0 => mP (τ 4) fun x4 => mP (τ 5) fun x5 => mI .i64 (τ 6) fun x6 => zql1_47 nx138 Q E x0 l0 c0 x4 x5 x6 H

theorem zql1_48ok (nx138 : Int → HP) : Ok Pr (zql1_47_M Q E nx138) (sA (sI (sB zql1_p9))) (zql1_q21 Q E nx138) E := fun τ H h =>
  wSl 0 h (fun x0 l0 c0 h => wP 4 h (fun x4 h => wP 5 h (fun x5 h => wI 6 h (fun x6 h => (conv (by kernel_rfl) h)))))

theorem zql1_49ok (nx138 : Int → HP) : Ok Pr (zql1_47_M Q E nx138) (sI (sB zql1_p9)) (zql1_q5 Q E nx138) E := fun τ H h =>
  (conv (by kernel_rfl) (vc_seq (K := (zql1_43_M Q E nx138)) (zql1_48ok Q E nx138 τ H h) (zql1_46ok Q E nx138)))

theorem zql1_50ok (nx138 : Int → HP) : Ok Pr (zql1_47_M Q E nx138) (sB zql1_p9) (zql1_q4 Q E nx138) E := fun τ H h =>
  (conv (by kernel_rfl) (zql1_49ok Q E nx138 τ H h))

noncomputable def zql1_q22 (nx138 : Int → HP) : XT := (xthen (zql1_47_M Q E nx138) (zql1_q4 Q E nx138))

def zql1_51 (nx138 : Int → HP) (Q : QT) (E : ET) (x0 : OA) (l0 c0 : Nat) (x4 x5 : OA) (x6 : Int) (H : Heap) : Prop :=
 ptr x5 fun q573 =>
 ldSl q573 H fun p574 l575 c576 =>
 sel (decide (((l575 : Int) : Int) > 0))
 (zql1_47 nx138 Q E x0 l0 c0 x4 x5 x6 H)
 (zql1_1 Q E  H)

def zql1_51_M (nx138 : Int → HP) (τ : Tau) (H : Heap) : Prop := mSl (τ 0) fun x0 l0 c0 => mP (τ 4) fun x4 => mP (τ 5) fun x5 => mI .i64 (τ 6) fun x6 => zql1_51 nx138 Q E x0 l0 c0 x4 x5 x6 H

theorem zql1_52ok (nx138 : Int → HP) : Ok Pr (zql1_51_M Q E nx138) (sA zql1_p9) (zql1_q22 Q E nx138) E := fun τ H h =>
  wSl 0 h (fun x0 l0 c0 h => wP 4 h (fun x4 h => wP 5 h (fun x5 h => wI 6 h (fun x6 h => (conv (by kernel_rfl) h)))))

theorem zql1_53ok (nx138 : Int → HP) : Ok Pr (zql1_51_M Q E nx138) zql1_p9 (zql1_q4 Q E nx138) E := fun τ H h =>
  (conv (by kernel_rfl) (vc_seq (K := (zql1_47_M Q E nx138)) (zql1_52ok Q E nx138 τ H h) (zql1_50ok Q E nx138)))

def zql1_54 (Q : QT) (E : ET) (x0 : OA) (l0 c0 : Nat) (x4 x5 : OA) (x6 : Int) (H : Heap) : Prop :=
 ∃ (I : Int → HP) (μ : Int → Heap → Nat), I x6 H ∧ ∀ (x6 : Int) (H : Heap), I x6 H →
 zql1_51 (fun x6' H1 => I x6' H1 ∧ μ x6' H1 < μ x6 H) Q E x0 l0 c0 x4 x5 x6 H

def zql1_54_M  (τ : Tau) (H : Heap) : Prop := mSl (τ 0) fun x0 l0 c0 => mP (τ 4) fun x4 => mP (τ 5) fun x5 => mI .i64 (τ 6) fun x6 => zql1_54 Q E x0 l0 c0 x4 x5 x6 H

theorem zql1_55ok  : Ok Pr (zql1_54_M Q E) (sI (sA (sB zql1_p4))) (xblock 0 (zql1_q2 Q E)) E := fun τ H h =>
  wSl 0 h (fun x0 l0 c0 h => wP 4 h (fun x4 h => wP 5 h (fun x5 h => wI 6 h (fun x6 h => match h with | ⟨I, μ, h0, hr⟩ => (conv (by kernel_rfl) (vc_loopG (c := sI (sI (sA (sB zql1_p4)))) (τ := (Tau.upd (Tau.upd (Tau.upd (Tau.upd τ 0 (.slice x0 l0 c0)) 4 (.pointer x4)) 5 (.pointer x5)) 6 (.int .i64 x6))) [0, 4, 5] (fun τ H => mI .i64 (τ 6) fun x6' => I x6' H) (fun τ H => μ (gI (τ 6)) H) (by kernel_rfl) h0 (fun τ1 H1 hf hI => uF 0 (.slice x0 l0 c0) (hf 0 (by simp)) (uF 4 (.pointer x4) (hf 4 (by simp)) (uF 5 (.pointer x5) (hf 5 (by simp)) (uI 6 hI (fun x6r h => lgx (zql1_53ok Q E (fun x6' H2 => I x6' H2 ∧ μ x6' H2 < μ x6r H1) (Tau.upd (Tau.upd (Tau.upd (Tau.upd τ1 0 (.slice x0 l0 c0)) 4 (.pointer x4)) 5 (.pointer x5)) 6 (.int .i64 x6r)) H1 (conv (by kernel_rfl) (hr x6r H1 h))) (fun τ2 H2 hk => kI 6 hk (fun x6' h => conv (by kernel_rfl) h)))))))))))))

theorem zql1_56ok  : Ok Pr (zql1_54_M Q E) (sA (sB zql1_p4)) (zql1_q2 Q E) E := fun τ H h =>
  (conv (by kernel_rfl) (zql1_55ok Q E τ H h))

theorem zql1_57ok  : Ok Pr (zql1_54_M Q E) (sB zql1_p4) (zql1_q1 Q E) E := fun τ H h =>
  (conv (by kernel_rfl) (vc_seq (K := (zql1_1_M Q E)) (zql1_56ok Q E τ H h) (zql1_2ok Q E)))

noncomputable def zql1_q23  : XT := (xthen (zql1_54_M Q E) (zql1_q1 Q E))

def zql1_58 (Q : QT) (E : ET) (x0 : OA) (l0 c0 : Nat) (x4 x5 : OA) (H : Heap) : Prop :=
 zql1_54 Q E x0 l0 c0 x4 x5 (-1) H

def zql1_58_M  (τ : Tau) (H : Heap) : Prop := mSl (τ 0) fun x0 l0 c0 => mP (τ 4) fun x4 => mP (τ 5) fun x5 => zql1_58 Q E x0 l0 c0 x4 x5 H

theorem zql1_59ok  : Ok Pr (zql1_58_M Q E) (sA zql1_p4) (zql1_q23 Q E) E := fun τ H h =>
  wSl 0 h (fun x0 l0 c0 h => wP 4 h (fun x4 h => wP 5 h (fun x5 h => (conv (by kernel_rfl) h))))

theorem zql1_60ok  : Ok Pr (zql1_58_M Q E) zql1_p4 (zql1_q1 Q E) E := fun τ H h =>
  (conv (by kernel_rfl) (vc_seq (K := (zql1_54_M Q E)) (zql1_59ok Q E τ H h) (zql1_57ok Q E)))

noncomputable def zql1_q24  : XT := (xthen (zql1_58_M Q E) (zql1_q1 Q E))

def zql1_61 (Q : QT) (E : ET) (x0 : OA) (l0 c0 : Nat) (x4 : OA) (H : Heap) : Prop :=
 ptr x4 fun q577 =>
 ldP q577 H fun p578 =>
 Does Pr 64 #[(.pointer p578), (.slice none 0 0), (.agg #[(.int .i64 0), (.bool true), (.bool false)]), (.int .i64 (-1)), (.int .i64 (-1))] H (fun v579 H580 =>
 ∃ (p581 : OA) (l582 c583 : Nat), v579 = (.slice p581 l582 c583) ∧ nw (.cells #[(.slice none 0 0)] 22 (0, 0)) H580 fun i584 H585 =>
 wr ⟨i584, 0, none⟩ [(.slice p581 l582 c583)] H585 fun H586 =>
 zql1_58 Q E x0 l0 c0 x4 (some ⟨i584, 0, none⟩) H586) E

def zql1_61_M  (τ : Tau) (H : Heap) : Prop := mSl (τ 0) fun x0 l0 c0 => mP (τ 4) fun x4 => zql1_61 Q E x0 l0 c0 x4 H

theorem zql1_62ok  : Ok Pr (zql1_61_M Q E) (sA (sB (sB zql1_p1))) (zql1_q24 Q E) E := fun τ H h =>
  wSl 0 h (fun x0 l0 c0 h => wP 4 h (fun x4 h => (conv (by kernel_rfl) h)))

theorem zql1_63ok  : Ok Pr (zql1_61_M Q E) (sB (sB zql1_p1)) (zql1_q1 Q E) E := fun τ H h =>
  (conv (by kernel_rfl) (vc_seq (K := (zql1_58_M Q E)) (zql1_62ok Q E τ H h) (zql1_60ok Q E)))

def zql1_64 (Q : QT) (E : ET) (x0 : OA) (l0 c0 : Nat) (H : Heap) : Prop :=
 nw (.map #[] 0) H fun i587 H588 =>
 nw (.cells #[(.slice x0 l0 c0), (.map (some i587)), (.slice none 0 0)] 97 (0, 0)) H588 fun i589 H590 =>
 nw (.cells #[(.pointer none)] 93 (0, 0)) H590 fun i591 H592 =>
 wr ⟨i591, 0, none⟩ [(.pointer (some ⟨i589, 0, none⟩))] H592 fun H593 =>
 zql1_61 Q E x0 l0 c0 (some ⟨i591, 0, none⟩) H593

def zql1_64_M  (τ : Tau) (H : Heap) : Prop := mSl (τ 0) fun x0 l0 c0 => zql1_64 Q E x0 l0 c0 H

theorem zql1_65ok  : Ok Pr (zql1_64_M Q E) (sA (sB zql1_p1)) (xthen (zql1_61_M Q E) (zql1_q1 Q E)) E := fun τ H h =>
  wSl 0 h (fun x0 l0 c0 h => (conv (by kernel_rfl) h))

theorem zql1_66ok  : Ok Pr (zql1_64_M Q E) (sB zql1_p1) (zql1_q1 Q E) E := fun τ H h =>
  (conv (by kernel_rfl) (vc_seq (K := (zql1_61_M Q E)) (zql1_65ok Q E τ H h) (zql1_63ok Q E)))

def zql1_67 (Q : QT) (E : ET) (x0 : OA) (l0 c0 : Nat) (H : Heap) : Prop :=
 Does Pr 62 #[(.slice x0 l0 c0)] H (fun v594 H595 =>
 ∃ b596 : Bool, v594 = (.bool b596) ∧ sel (!b596)
 (Q (.tuple #[(.slice none 0 0), (.bool false)]) H595)
 (zql1_64 Q E x0 l0 c0 H595)) E

def zql1_67_M  (τ : Tau) (H : Heap) : Prop := mSl (τ 0) fun x0 l0 c0 => zql1_67 Q E x0 l0 c0 H

theorem zql1_68ok  : Ok Pr (zql1_67_M Q E) (sA zql1_p1) (xthen (zql1_64_M Q E) (zql1_q1 Q E)) E := fun τ H h =>
  wSl 0 h (fun x0 l0 c0 h => (conv (by kernel_rfl) h))

theorem zql1_69ok  : Ok Pr (zql1_67_M Q E) zql1_p1 (zql1_q1 Q E) E := fun τ H h =>
  (conv (by kernel_rfl) (vc_seq (K := (zql1_64_M Q E)) (zql1_68ok Q E τ H h) (zql1_66ok Q E)))

def zql1 (Q : QT) (E : ET) (a0 : OA) (a0l : Nat) (a0c : Nat) (H : Heap) : Prop :=
 zql1_67 Q E a0 a0l a0c H

theorem zql1_fn (a0 : OA) (a0l : Nat) (a0c : Nat) (Q : QT) (E : ET) (H : Heap) (h : zql1 Q E a0 a0l a0c H)   : Does Pr 37 #[(.slice a0 a0l a0c)] H Q E :=
  Fn_of_vc (fn := Try.f37) (c := (bodyOf Try.f37)) (args := [(.slice a0 a0l a0c)]) mixed (by kernel_rfl) (by kernel_rfl) (by kernel_rfl) (by kernel_rfl) (by kernel_rfl) ((conv (B := vc Pr (bodyOf Try.f37) (argT [(.slice a0 a0l a0c)]) (zql1_q1 Q E) E H) (by kernel_rfl) (vc_seq (K := (zql1_67_M Q E)) (conv (B := vc Pr (sA (bodyOf Try.f37)) (argT [(.slice a0 a0l a0c)]) (xthen (zql1_67_M Q E) (zql1_q1 Q E)) E H) (by kernel_rfl) h) (zql1_69ok Q E))))

/-! jobmux/nfa.valid -/
noncomputable def zqm1_q1 (Q : QT) (E : ET)  : XT := (retQ Pr (Try.f62).results.toList Q)

def zqm1_1 (Q : QT) (E : ET) (x1 : OA) (H : Heap) : Prop :=
 ptr x1 fun q26 =>
 ldSl q26 H fun p27 l28 c29 =>
 sel (decide (((l28 : Int) : Int) ≥ 1))
 (ptr x1 fun q30 =>
 ldSl q30 H fun p31 l32 c33 =>
 Q (.bool (decide (((l32 : Int) : Int) ≤ 513))) H)
 (Q (.bool false) H)

def zqm1_1_M  (τ : Tau) (H : Heap) : Prop := mP (τ 1) fun x1 => zqm1_1 Q E x1 H

theorem zqm1_2ok  : Ok Pr (zqm1_1_M Q E) (sB (sB (sB (bodyOf Try.f62)))) (zqm1_q1 Q E) E := fun τ H h =>
  wP 1 h (fun x1 h => (conv (by kernel_rfl) h))

noncomputable def zqm1_q2  : XT := (xthen (zqm1_1_M Q E) (zqm1_q1 Q E))

noncomputable def zqm1_p4 : Code := sA (sB (sB (bodyOf Try.f62)))

noncomputable def zqm1_q3  : XT := (xblock 0 (zqm1_q2 Q E))

noncomputable def zqm1_q4 (nx37 : Int → HP) : XT := (xthen (fun τ H => mI .i64 (τ 9) fun x9' => nx37 x9' H) (zqm1_q3 Q E))

noncomputable def zqm1_p7 : Code := sI (sI (sB zqm1_p4))

noncomputable def zqm1_p9 : Code := sB (sB zqm1_p7)

def zqm1_3 (nx37 : Int → HP) (Q : QT) (E : ET) (x1 : OA) (x3 : Value) (x7 : OA) (l7 c7 : Nat) (x8 x9 : Int) (H : Heap) : Prop :=
 nx37 (IntKind.wrap .i64 (x9 + 1)) H

def zqm1_3_M (nx37 : Int → HP) (τ : Tau) (H : Heap) : Prop := mP (τ 1) fun x1 => mV (τ 3) fun x3 => mSl (τ 7) fun x7 l7 c7 => mI .i64 (τ 8) fun x8 => mI .i64 (τ 9) fun x9 => zqm1_3 nx37 Q E x1 x3 x7 l7 c7 x8 x9 H

theorem zqm1_4ok (nx37 : Int → HP) : Ok Pr (zqm1_3_M Q E nx37) (sB zqm1_p9) (zqm1_q4 Q E nx37) E := fun τ H h =>
  wP 1 h (fun x1 h => wV 3 h (fun x3 h => wSl 7 h (fun x7 l7 c7 h => wI 8 h (fun x8 h => wI 9 h (fun x9 h => (conv (by kernel_rfl) h))))))

noncomputable def zqm1_q6 (nx37 : Int → HP) : XT := (xblock 1 (xthen (zqm1_3_M Q E nx37) (zqm1_q4 Q E nx37)))

noncomputable def zqm1_p13 : Code := sB (sI (sA zqm1_p9))

def zqm1_5 (nx37 : Int → HP) (Q : QT) (E : ET)  (H : Heap) : Prop :=
 Q (.bool false) H

def zqm1_5_M (nx37 : Int → HP) (τ : Tau) (H : Heap) : Prop := zqm1_5 nx37 Q E  H

theorem zqm1_6ok (nx37 : Int → HP) : Ok Pr (zqm1_5_M Q E nx37) (sB (sI (sB zqm1_p13))) (xblock 2 (zqm1_q6 Q E nx37)) E := fun τ H h =>
  (conv (by kernel_rfl) h)

noncomputable def zqm1_q8 (nx37 : Int → HP) : XT := (xthen (zqm1_5_M Q E nx37) (xblock 2 (zqm1_q6 Q E nx37)))

noncomputable def zqm1_q10 (nx37 : Int → HP) : XT := (xthen (fun τ H => vc Pr (sB (sI (sA (sI (sB zqm1_p13))))) τ (xblock 6 (zqm1_q8 Q E nx37)) E H) (xblock 6 (zqm1_q8 Q E nx37)))

noncomputable def zqm1_p19 : Code := sA (sI (sA (sI (sB zqm1_p13))))

noncomputable def zqm1_q11 (nx37 : Int → HP) : XT := (xblock 5 (zqm1_q10 Q E nx37))

def zqm1_7 (nx37 : Int → HP) (Q : QT) (E : ET) (x1 : OA) (x3 : Value) (x5 x7 : OA) (l7 c7 : Nat) (x8 x9 : Int) (H : Heap) : Prop :=
 ptr x5 fun q90 =>
 ldI .i64 (Addr.add q90 1) H fun n91 =>
 callV Pr E x3 [(.int .i64 n91)] (fun v92 H93 =>
 ∃ b94 : Bool, v92 = (.bool b94) ∧ sel (!b94)
 (Q (.bool false) H93)
 (zqm1_3 nx37 Q E x1 x3 x7 l7 c7 x8 x9 H93)) H

def zqm1_7_M (nx37 : Int → HP) (τ : Tau) (H : Heap) : Prop := mP (τ 1) fun x1 => mV (τ 3) fun x3 => mP (τ 5) fun x5 => mSl (τ 7) fun x7 l7 c7 => mI .i64 (τ 8) fun x8 => mI .i64 (τ 9) fun x9 => zqm1_7 nx37 Q E x1 x3 x5 x7 l7 c7 x8 x9 H

theorem zqm1_8ok (nx37 : Int → HP) : Ok Pr (zqm1_7_M Q E nx37) (sB (sI zqm1_p19)) (zqm1_q11 Q E nx37) E := fun τ H h =>
  wP 1 h (fun x1 h => wV 3 h (fun x3 h => wP 5 h (fun x5 h => wSl 7 h (fun x7 l7 c7 h => wI 8 h (fun x8 h => wI 9 h (fun x9 h => (conv (by kernel_rfl) h)))))))

noncomputable def zqm1_q13 (nx37 : Int → HP) : XT := (xblock 4 (xthen (zqm1_7_M Q E nx37) (zqm1_q11 Q E nx37)))

noncomputable def zqm1_p23 : Code := sI (sA (sI zqm1_p19))

def zqm1_9 (nx37 : Int → HP) (Q : QT) (E : ET) (x1 : OA) (x3 : Value) (x5 x7 : OA) (l7 c7 : Nat) (x8 x9 : Int) (H : Heap) : Prop :=
 ptr x5 fun q95 =>
 ldI .i64 (Addr.add q95 2) H fun n96 =>
 callV Pr E x3 [(.int .i64 n96)] (fun v97 H98 =>
 ∃ b99 : Bool, v97 = (.bool b99) ∧ sel (!b99)
 (Q (.bool false) H98)
 (zqm1_7 nx37 Q E x1 x3 x5 x7 l7 c7 x8 x9 H98)) H

def zqm1_9_M (nx37 : Int → HP) (τ : Tau) (H : Heap) : Prop := mP (τ 1) fun x1 => mV (τ 3) fun x3 => mP (τ 5) fun x5 => mSl (τ 7) fun x7 l7 c7 => mI .i64 (τ 8) fun x8 => mI .i64 (τ 9) fun x9 => zqm1_9 nx37 Q E x1 x3 x5 x7 l7 c7 x8 x9 H

theorem zqm1_10ok (nx37 : Int → HP) : Ok Pr (zqm1_9_M Q E nx37) (sB zqm1_p23) (zqm1_q13 Q E nx37) E := fun τ H h =>
  wP 1 h (fun x1 h => wV 3 h (fun x3 h => wP 5 h (fun x5 h => wSl 7 h (fun x7 l7 c7 h => wI 8 h (fun x8 h => wI 9 h (fun x9 h => (conv (by kernel_rfl) h)))))))

noncomputable def zqm1_q14 (nx37 : Int → HP) : XT := (xthen (zqm1_9_M Q E nx37) (zqm1_q13 Q E nx37))

noncomputable def zqm1_q16 (nx37 : Int → HP) : XT := (xthen (fun τ H => vc Pr (sB (sI (sA zqm1_p23))) τ (xblock 3 (zqm1_q14 Q E nx37)) E H) (xblock 3 (zqm1_q14 Q E nx37)))

noncomputable def zqm1_p27 : Code := sA (sI (sA zqm1_p23))

def zqm1_11 (nx37 : Int → HP) (Q : QT) (E : ET) (x1 : OA) (x3 : Value) (x7 : OA) (l7 c7 : Nat) (x8 x9 x14 : Int) (H : Heap) : Prop :=
 sel (x14 == 5)
 (zqm1_3 nx37 Q E x1 x3 x7 l7 c7 x8 x9 H)
 (zqm1_5 nx37 Q E  H)

def zqm1_11_M (nx37 : Int → HP) (τ : Tau) (H : Heap) : Prop := mP (τ 1) fun x1 => mV (τ 3) fun x3 => mSl (τ 7) fun x7 l7 c7 => mI .i64 (τ 8) fun x8 => mI .i64 (τ 9) fun x9 => mI .i64 (τ 14) fun x14 => zqm1_11 nx37 Q E x1 x3 x7 l7 c7 x8 x9 x14 H

theorem zqm1_12ok (nx37 : Int → HP) : Ok Pr (zqm1_11_M Q E nx37) (sB (sB zqm1_p27)) (zqm1_q16 Q E nx37) E := fun τ H h =>
  wP 1 h (fun x1 h => wV 3 h (fun x3 h => wSl 7 h (fun x7 l7 c7 h => wI 8 h (fun x8 h => wI 9 h (fun x9 h => wI 14 h (fun x14 h => (conv (by kernel_rfl) h)))))))

noncomputable def zqm1_q17 (nx37 : Int → HP) : XT := (xthen (zqm1_11_M Q E nx37) (zqm1_q16 Q E nx37))

noncomputable def zqm1_p30 : Code := sA (sB zqm1_p27)

def zqm1_13 (nx37 : Int → HP) (Q : QT) (E : ET) (x1 : OA) (x3 : Value) (x5 x7 : OA) (l7 c7 : Nat) (x8 x9 x14 : Int) (x17 : Bool) (H : Heap) : Prop :=
 sel x17
 (zqm1_7 nx37 Q E x1 x3 x5 x7 l7 c7 x8 x9 H)
 (zqm1_11 nx37 Q E x1 x3 x7 l7 c7 x8 x9 x14 H)

def zqm1_13_M (nx37 : Int → HP) (τ : Tau) (H : Heap) : Prop := mP (τ 1) fun x1 => mV (τ 3) fun x3 => mP (τ 5) fun x5 => mSl (τ 7) fun x7 l7 c7 => mI .i64 (τ 8) fun x8 => mI .i64 (τ 9) fun x9 => mI .i64 (τ 14) fun x14 => mB (τ 17) fun x17 => zqm1_13 nx37 Q E x1 x3 x5 x7 l7 c7 x8 x9 x14 x17 H

theorem zqm1_14ok (nx37 : Int → HP) : Ok Pr (zqm1_13_M Q E nx37) (sB zqm1_p30) (zqm1_q17 Q E nx37) E := fun τ H h =>
  wP 1 h (fun x1 h => wV 3 h (fun x3 h => wP 5 h (fun x5 h => wSl 7 h (fun x7 l7 c7 h => wI 8 h (fun x8 h => wI 9 h (fun x9 h => wI 14 h (fun x14 h => wB 17 h (fun x17 h => (conv (by kernel_rfl) h)))))))))

noncomputable def zqm1_q18 (nx37 : Int → HP) : XT := (xthen (zqm1_13_M Q E nx37) (zqm1_q17 Q E nx37))

def zqm1_15 (nx37 : Int → HP) (Q : QT) (E : ET) (x1 : OA) (x3 : Value) (x5 x7 : OA) (l7 c7 : Nat) (x8 x9 x14 : Int) (H : Heap) : Prop :=
 sel (x14 == 1)
 (zqm1_13 nx37 Q E x1 x3 x5 x7 l7 c7 x8 x9 x14 (x14 == 1) H)
 (sel (x14 == 3)
 (zqm1_13 nx37 Q E x1 x3 x5 x7 l7 c7 x8 x9 x14 (x14 == 3) H)
 (zqm1_13 nx37 Q E x1 x3 x5 x7 l7 c7 x8 x9 x14 (x14 == 4) H))

def zqm1_15_M (nx37 : Int → HP) (τ : Tau) (H : Heap) : Prop := mP (τ 1) fun x1 => mV (τ 3) fun x3 => mP (τ 5) fun x5 => mSl (τ 7) fun x7 l7 c7 => mI .i64 (τ 8) fun x8 => mI .i64 (τ 9) fun x9 => mI .i64 (τ 14) fun x14 => zqm1_15 nx37 Q E x1 x3 x5 x7 l7 c7 x8 x9 x14 H

theorem zqm1_16ok (nx37 : Int → HP) : Ok Pr (zqm1_15_M Q E nx37) (sA zqm1_p30) (zqm1_q18 Q E nx37) E := fun τ H h =>
  wP 1 h (fun x1 h => wV 3 h (fun x3 h => wP 5 h (fun x5 h => wSl 7 h (fun x7 l7 c7 h => wI 8 h (fun x8 h => wI 9 h (fun x9 h => wI 14 h (fun x14 h => (conv (by kernel_rfl) h))))))))

theorem zqm1_17ok (nx37 : Int → HP) : Ok Pr (zqm1_15_M Q E nx37) zqm1_p30 (zqm1_q17 Q E nx37) E := fun τ H h =>
  (conv (by kernel_rfl) (vc_seq (K := (zqm1_13_M Q E nx37)) (zqm1_16ok Q E nx37 τ H h) (zqm1_14ok Q E nx37)))

theorem zqm1_18ok (nx37 : Int → HP) : Ok Pr (zqm1_15_M Q E nx37) (sB zqm1_p27) (zqm1_q16 Q E nx37) E := fun τ H h =>
  (conv (by kernel_rfl) (vc_seq (K := (zqm1_11_M Q E nx37)) (zqm1_17ok Q E nx37 τ H h) (zqm1_12ok Q E nx37)))

noncomputable def zqm1_q19 (nx37 : Int → HP) : XT := (xthen (zqm1_15_M Q E nx37) (zqm1_q16 Q E nx37))

def zqm1_19 (nx37 : Int → HP) (Q : QT) (E : ET) (x1 : OA) (x3 : Value) (x5 x7 : OA) (l7 c7 : Nat) (x8 x9 x14 : Int) (H : Heap) : Prop :=
 sel (x14 == 2)
 (zqm1_9 nx37 Q E x1 x3 x5 x7 l7 c7 x8 x9 H)
 (zqm1_15 nx37 Q E x1 x3 x5 x7 l7 c7 x8 x9 x14 H)

def zqm1_19_M (nx37 : Int → HP) (τ : Tau) (H : Heap) : Prop := mP (τ 1) fun x1 => mV (τ 3) fun x3 => mP (τ 5) fun x5 => mSl (τ 7) fun x7 l7 c7 => mI .i64 (τ 8) fun x8 => mI .i64 (τ 9) fun x9 => mI .i64 (τ 14) fun x14 => zqm1_19 nx37 Q E x1 x3 x5 x7 l7 c7 x8 x9 x14 H

theorem zqm1_20ok (nx37 : Int → HP) : Ok Pr (zqm1_19_M Q E nx37) (sA zqm1_p27) (zqm1_q19 Q E nx37) E := fun τ H h =>
  wP 1 h (fun x1 h => wV 3 h (fun x3 h => wP 5 h (fun x5 h => wSl 7 h (fun x7 l7 c7 h => wI 8 h (fun x8 h => wI 9 h (fun x9 h => wI 14 h (fun x14 h => (conv (by kernel_rfl) h))))))))

theorem zqm1_21ok (nx37 : Int → HP) : Ok Pr (zqm1_19_M Q E nx37) zqm1_p27 (zqm1_q16 Q E nx37) E := fun τ H h =>
  (conv (by kernel_rfl) (vc_seq (K := (zqm1_15_M Q E nx37)) (zqm1_20ok Q E nx37 τ H h) (zqm1_18ok Q E nx37)))

theorem zqm1_22ok (nx37 : Int → HP) : Ok Pr (zqm1_19_M Q E nx37) (sI (sA zqm1_p23)) (xblock 3 (zqm1_q14 Q E nx37)) E := fun τ H h =>
  (conv (by kernel_rfl) (zqm1_21ok Q E nx37 τ H h))

theorem zqm1_23ok (nx37 : Int → HP) : Ok Pr (zqm1_19_M Q E nx37) (sA zqm1_p23) (zqm1_q14 Q E nx37) E := fun τ H h =>
  (conv (by kernel_rfl) (zqm1_22ok Q E nx37 τ H h))

theorem zqm1_24ok (nx37 : Int → HP) : Ok Pr (zqm1_19_M Q E nx37) zqm1_p23 (zqm1_q13 Q E nx37) E := fun τ H h =>
  (conv (by kernel_rfl) (vc_seq (K := (zqm1_9_M Q E nx37)) (zqm1_23ok Q E nx37 τ H h) (zqm1_10ok Q E nx37)))

theorem zqm1_25ok (nx37 : Int → HP) : Ok Pr (zqm1_19_M Q E nx37) (sA (sI zqm1_p19)) (xthen (zqm1_7_M Q E nx37) (zqm1_q11 Q E nx37)) E := fun τ H h =>
  (conv (by kernel_rfl) (zqm1_24ok Q E nx37 τ H h))

theorem zqm1_26ok (nx37 : Int → HP) : Ok Pr (zqm1_19_M Q E nx37) (sI zqm1_p19) (zqm1_q11 Q E nx37) E := fun τ H h =>
  (conv (by kernel_rfl) (vc_seq (K := (zqm1_7_M Q E nx37)) (zqm1_25ok Q E nx37 τ H h) (zqm1_8ok Q E nx37)))

theorem zqm1_27ok (nx37 : Int → HP) : Ok Pr (zqm1_19_M Q E nx37) zqm1_p19 (zqm1_q10 Q E nx37) E := fun τ H h =>
  (conv (by kernel_rfl) (zqm1_26ok Q E nx37 τ H h))

theorem zqm1_28ok (nx37 : Int → HP) : Ok Pr (zqm1_19_M Q E nx37) (sI (sA (sI (sB zqm1_p13)))) (xblock 6 (zqm1_q8 Q E nx37)) E := fun τ H h =>
  (conv (by kernel_rfl) (zqm1_27ok Q E nx37 τ H h))

theorem zqm1_29ok (nx37 : Int → HP) : Ok Pr (zqm1_19_M Q E nx37) (sA (sI (sB zqm1_p13))) (zqm1_q8 Q E nx37) E := fun τ H h =>
  (conv (by kernel_rfl) (zqm1_28ok Q E nx37 τ H h))

theorem zqm1_30ok (nx37 : Int → HP) : Ok Pr (zqm1_19_M Q E nx37) (sI (sB zqm1_p13)) (xblock 2 (zqm1_q6 Q E nx37)) E := fun τ H h =>
  (conv (by kernel_rfl) (vc_seq (K := (zqm1_5_M Q E nx37)) (zqm1_29ok Q E nx37 τ H h) (zqm1_6ok Q E nx37)))

theorem zqm1_31ok (nx37 : Int → HP) : Ok Pr (zqm1_19_M Q E nx37) (sB zqm1_p13) (zqm1_q6 Q E nx37) E := fun τ H h =>
  (conv (by kernel_rfl) (zqm1_30ok Q E nx37 τ H h))

noncomputable def zqm1_q20 (nx37 : Int → HP) : XT := (xthen (zqm1_19_M Q E nx37) (zqm1_q6 Q E nx37))

def zqm1_32 (nx37 : Int → HP) (Q : QT) (E : ET) (x1 : OA) (x3 : Value) (x5 x7 : OA) (l7 c7 : Nat) (x8 x9 : Int) (H : Heap) : Prop :=
 ptr x5 fun q100 =>
 ldI .i64 q100 H fun n101 =>
 zqm1_19 nx37 Q E x1 x3 x5 x7 l7 c7 x8 x9 n101 H

def zqm1_32_M (nx37 : Int → HP) (τ : Tau) (H : Heap) : Prop := mP (τ 1) fun x1 => mV (τ 3) fun x3 => mP (τ 5) fun x5 => mSl (τ 7) fun x7 l7 c7 => mI .i64 (τ 8) fun x8 => mI .i64 (τ 9) fun x9 => zqm1_32 nx37 Q E x1 x3 x5 x7 l7 c7 x8 x9 H

theorem zqm1_33ok (nx37 : Int → HP) : Ok Pr (zqm1_32_M Q E nx37) (sA zqm1_p13) (zqm1_q20 Q E nx37) E := fun τ H h =>
  wP 1 h (fun x1 h => wV 3 h (fun x3 h => wP 5 h (fun x5 h => wSl 7 h (fun x7 l7 c7 h => wI 8 h (fun x8 h => wI 9 h (fun x9 h => (conv (by kernel_rfl) h)))))))

theorem zqm1_34ok (nx37 : Int → HP) : Ok Pr (zqm1_32_M Q E nx37) zqm1_p13 (zqm1_q6 Q E nx37) E := fun τ H h =>
  (conv (by kernel_rfl) (vc_seq (K := (zqm1_19_M Q E nx37)) (zqm1_33ok Q E nx37 τ H h) (zqm1_31ok Q E nx37)))

noncomputable def zqm1_q21 (nx37 : Int → HP) : XT := (xthen (zqm1_32_M Q E nx37) (zqm1_q6 Q E nx37))

def zqm1_35 (nx37 : Int → HP) (Q : QT) (E : ET) (x1 : OA) (x3 : Value) (x7 : OA) (l7 c7 : Nat) (x8 x9 : Int) (H : Heap) : Prop :=
 (0 ≤ x9 ∧ x9 < (l7 : Int)) ∧ ptr x7 fun q102 =>
 ∃ n103 n104 n105 n106 n107 n108 n109 : Int, Heap.rd H (Addr.add q102 (x9.toNat * 7)) 0 [(.int .i64 n103), (.int .i64 n104), (.int .i64 n105), (.int .u64 n106), (.int .u64 n107), (.int .u64 n108), (.int .u64 n109)] ∧ nw (.cells #[(.int .i64 0), (.int .i64 0), (.int .i64 0), (.int .u64 0), (.int .u64 0), (.int .u64 0), (.int .u64 0)] 91 (0, 0)) H fun i110 H111 =>
 wr ⟨i110, 0, none⟩ [(.int .i64 n103), (.int .i64 n104), (.int .i64 n105), (.int .u64 n106), (.int .u64 n107), (.int .u64 n108), (.int .u64 n109)] H111 fun H112 =>
 zqm1_32 nx37 Q E x1 x3 (some ⟨i110, 0, none⟩) x7 l7 c7 x8 x9 H112

def zqm1_35_M (nx37 : Int → HP) (τ : Tau) (H : Heap) : Prop := mP (τ 1) fun x1 => mV (τ 3) fun x3 => mSl (τ 7) fun x7 l7 c7 => mI .i64 (τ 8) fun x8 => mI .i64 (τ 9) fun x9 => zqm1_35 nx37 Q E x1 x3 x7 l7 c7 x8 x9 H

theorem zqm1_36ok (nx37 : Int → HP) : Ok Pr (zqm1_35_M Q E nx37) (sA (sI (sA zqm1_p9))) (zqm1_q21 Q E nx37) E := fun τ H h =>
  wP 1 h (fun x1 h => wV 3 h (fun x3 h => wSl 7 h (fun x7 l7 c7 h => wI 8 h (fun x8 h => wI 9 h (fun x9 h => (conv (by kernel_rfl) h))))))

theorem zqm1_37ok (nx37 : Int → HP) : Ok Pr (zqm1_35_M Q E nx37) (sI (sA zqm1_p9)) (zqm1_q6 Q E nx37) E := fun τ H h =>
  (conv (by kernel_rfl) (vc_seq (K := (zqm1_32_M Q E nx37)) (zqm1_36ok Q E nx37 τ H h) (zqm1_34ok Q E nx37)))

theorem zqm1_38ok (nx37 : Int → HP) : Ok Pr (zqm1_35_M Q E nx37) (sA zqm1_p9) (xthen (zqm1_3_M Q E nx37) (zqm1_q4 Q E nx37)) E := fun τ H h =>
  (conv (by kernel_rfl) (zqm1_37ok Q E nx37 τ H h))

theorem zqm1_39ok (nx37 : Int → HP) : Ok Pr (zqm1_35_M Q E nx37) zqm1_p9 (zqm1_q4 Q E nx37) E := fun τ H h =>
  (conv (by kernel_rfl) (vc_seq (K := (zqm1_3_M Q E nx37)) (zqm1_38ok Q E nx37 τ H h) (zqm1_4ok Q E nx37)))

noncomputable def zqm1_q22 (nx37 : Int → HP) : XT := (xthen (zqm1_35_M Q E nx37) (zqm1_q4 Q E nx37))

def zqm1_40 (nx37 : Int → HP) (Q : QT) (E : ET) (x1 : OA) (x3 : Value) (x7 : OA) (l7 c7 : Nat) (x8 x9 : Int) (x10 : Bool) (H : Heap) : Prop :=
 sel x10
 (zqm1_35 nx37 Q E x1 x3 x7 l7 c7 x8 x9 H)
 (zqm1_1 Q E x1 H)

def zqm1_40_M (nx37 : Int → HP) (τ : Tau) (H : Heap) : Prop := mP (τ 1) fun x1 => mV (τ 3) fun x3 => mSl (τ 7) fun x7 l7 c7 => mI .i64 (τ 8) fun x8 => mI .i64 (τ 9) fun x9 => mB (τ 10) fun x10 => zqm1_40 nx37 Q E x1 x3 x7 l7 c7 x8 x9 x10 H

theorem zqm1_41ok (nx37 : Int → HP) : Ok Pr (zqm1_40_M Q E nx37) (sA (sB zqm1_p7)) (zqm1_q22 Q E nx37) E := fun τ H h =>
  wP 1 h (fun x1 h => wV 3 h (fun x3 h => wSl 7 h (fun x7 l7 c7 h => wI 8 h (fun x8 h => wI 9 h (fun x9 h => wB 10 h (fun x10 h => (conv (by kernel_rfl) h)))))))

theorem zqm1_42ok (nx37 : Int → HP) : Ok Pr (zqm1_40_M Q E nx37) (sB zqm1_p7) (zqm1_q4 Q E nx37) E := fun τ H h =>
  (conv (by kernel_rfl) (vc_seq (K := (zqm1_35_M Q E nx37)) (zqm1_41ok Q E nx37 τ H h) (zqm1_39ok Q E nx37)))

noncomputable def zqm1_q23 (nx37 : Int → HP) : XT := (xthen (zqm1_40_M Q E nx37) (zqm1_q4 Q E nx37))

def zqm1_43 (nx37 : Int → HP) (Q : QT) (E : ET) (x1 : OA) (x3 : Value) (x7 : OA) (l7 c7 : Nat) (x8 x9 : Int) (H : Heap) : Prop :=
 zqm1_40 nx37 Q E x1 x3 x7 l7 c7 x8 x9 (decide (x9 < x8)) H

def zqm1_43_M (nx37 : Int → HP) (τ : Tau) (H : Heap) : Prop := mP (τ 1) fun x1 => mV (τ 3) fun x3 => mSl (τ 7) fun x7 l7 c7 => mI .i64 (τ 8) fun x8 => mI .i64 (τ 9) fun x9 => zqm1_43 nx37 Q E x1 x3 x7 l7 c7 x8 x9 H

theorem zqm1_44ok (nx37 : Int → HP) : Ok Pr (zqm1_43_M Q E nx37) (sA zqm1_p7) (zqm1_q23 Q E nx37) E := fun τ H h =>
  wP 1 h (fun x1 h => wV 3 h (fun x3 h => wSl 7 h (fun x7 l7 c7 h => wI 8 h (fun x8 h => wI 9 h (fun x9 h => (conv (by kernel_rfl) h))))))

theorem zqm1_45ok (nx37 : Int → HP) : Ok Pr (zqm1_43_M Q E nx37) zqm1_p7 (zqm1_q4 Q E nx37) E := fun τ H h =>
  (conv (by kernel_rfl) (vc_seq (K := (zqm1_40_M Q E nx37)) (zqm1_44ok Q E nx37 τ H h) (zqm1_42ok Q E nx37)))

def zqm1_46 (Q : QT) (E : ET) (x1 : OA) (x3 : Value) (x7 : OA) (l7 c7 : Nat) (x8 x9 : Int) (H : Heap) : Prop :=
 ∃ (I : Int → HP) (μ : Int → Heap → Nat), I x9 H ∧ ∀ (x9 : Int) (H : Heap), I x9 H →
 zqm1_43 (fun x9' H1 => I x9' H1 ∧ μ x9' H1 < μ x9 H) Q E x1 x3 x7 l7 c7 x8 x9 H

def zqm1_46_M  (τ : Tau) (H : Heap) : Prop := mP (τ 1) fun x1 => mV (τ 3) fun x3 => mSl (τ 7) fun x7 l7 c7 => mI .i64 (τ 8) fun x8 => mI .i64 (τ 9) fun x9 => zqm1_46 Q E x1 x3 x7 l7 c7 x8 x9 H

theorem zqm1_47ok  : Ok Pr (zqm1_46_M Q E) (sI (sB zqm1_p4)) (zqm1_q3 Q E) E := fun τ H h =>
  wP 1 h (fun x1 h => wV 3 h (fun x3 h => wSl 7 h (fun x7 l7 c7 h => wI 8 h (fun x8 h => wI 9 h (fun x9 h => match h with | ⟨I, μ, h0, hr⟩ => (conv (by kernel_rfl) (vc_loopG (c := sI (sI (sB zqm1_p4))) (τ := (Tau.upd (Tau.upd (Tau.upd (Tau.upd (Tau.upd τ 1 (.pointer x1)) 3 x3) 7 (.slice x7 l7 c7)) 8 (.int .i64 x8)) 9 (.int .i64 x9))) [1, 3, 7, 8] (fun τ H => mI .i64 (τ 9) fun x9' => I x9' H) (fun τ H => μ (gI (τ 9)) H) (by kernel_rfl) h0 (fun τ1 H1 hf hI => uF 1 (.pointer x1) (hf 1 (by simp)) (uF 3 x3 (hf 3 (by simp)) (uF 7 (.slice x7 l7 c7) (hf 7 (by simp)) (uF 8 (.int .i64 x8) (hf 8 (by simp)) (uI 9 hI (fun x9r h => lgx (zqm1_45ok Q E (fun x9' H2 => I x9' H2 ∧ μ x9' H2 < μ x9r H1) (Tau.upd (Tau.upd (Tau.upd (Tau.upd (Tau.upd τ1 1 (.pointer x1)) 3 x3) 7 (.slice x7 l7 c7)) 8 (.int .i64 x8)) 9 (.int .i64 x9r)) H1 (conv (by kernel_rfl) (hr x9r H1 h))) (fun τ2 H2 hk => kI 9 hk (fun x9' h => conv (by kernel_rfl) h)))))))))))))))

theorem zqm1_48ok  : Ok Pr (zqm1_46_M Q E) (sB zqm1_p4) (zqm1_q2 Q E) E := fun τ H h =>
  (conv (by kernel_rfl) (zqm1_47ok Q E τ H h))

noncomputable def zqm1_q24  : XT := (xthen (zqm1_46_M Q E) (zqm1_q2 Q E))

def zqm1_49 (Q : QT) (E : ET) (x1 : OA) (x3 : Value) (H : Heap) : Prop :=
 ptr x1 fun q113 =>
 ldSl q113 H fun p114 l115 c116 =>
 zqm1_46 Q E x1 x3 p114 l115 c116 (l115 : Int) 0 H

def zqm1_49_M  (τ : Tau) (H : Heap) : Prop := mP (τ 1) fun x1 => mV (τ 3) fun x3 => zqm1_49 Q E x1 x3 H

theorem zqm1_50ok  : Ok Pr (zqm1_49_M Q E) (sA zqm1_p4) (zqm1_q24 Q E) E := fun τ H h =>
  wP 1 h (fun x1 h => wV 3 h (fun x3 h => (conv (by kernel_rfl) h)))

theorem zqm1_51ok  : Ok Pr (zqm1_49_M Q E) zqm1_p4 (zqm1_q2 Q E) E := fun τ H h =>
  (conv (by kernel_rfl) (vc_seq (K := (zqm1_46_M Q E)) (zqm1_50ok Q E τ H h) (zqm1_48ok Q E)))

theorem zqm1_52ok  : Ok Pr (zqm1_49_M Q E) (sB (sB (bodyOf Try.f62))) (zqm1_q1 Q E) E := fun τ H h =>
  (conv (by kernel_rfl) (vc_seq (K := (zqm1_1_M Q E)) (zqm1_51ok Q E τ H h) (zqm1_2ok Q E)))

def zqm1_53 (Q : QT) (E : ET) (x1 : OA) (H : Heap) : Prop :=
 zqm1_49 Q E x1 (.func (.func 96) #[] #[(.pointer x1)]) H

def zqm1_53_M  (τ : Tau) (H : Heap) : Prop := mP (τ 1) fun x1 => zqm1_53 Q E x1 H

theorem zqm1_54ok  : Ok Pr (zqm1_53_M Q E) (sA (sB (bodyOf Try.f62))) (xthen (zqm1_49_M Q E) (zqm1_q1 Q E)) E := fun τ H h =>
  wP 1 h (fun x1 h => (conv (by kernel_rfl) h))

theorem zqm1_55ok  : Ok Pr (zqm1_53_M Q E) (sB (bodyOf Try.f62)) (zqm1_q1 Q E) E := fun τ H h =>
  (conv (by kernel_rfl) (vc_seq (K := (zqm1_49_M Q E)) (zqm1_54ok Q E τ H h) (zqm1_52ok Q E)))

def zqm1 (Q : QT) (E : ET) (a0 : OA) (a0l : Nat) (a0c : Nat) (H : Heap) : Prop :=
 nw (.cells #[(.slice a0 a0l a0c)] 50 (0, 0)) H fun i117 H118 =>
 zqm1_53 Q E (some ⟨i117, 0, none⟩) H118

theorem zqm1_fn (a0 : OA) (a0l : Nat) (a0c : Nat) (Q : QT) (E : ET) (H : Heap) (h : zqm1 Q E a0 a0l a0c H)   : Does Pr 62 #[(.slice a0 a0l a0c)] H Q E :=
  Fn_of_vc (fn := Try.f62) (c := (bodyOf Try.f62)) (args := [(.slice a0 a0l a0c)]) mixed (by kernel_rfl) (by kernel_rfl) (by kernel_rfl) (by kernel_rfl) (by kernel_rfl) ((conv (B := vc Pr (bodyOf Try.f62) (argT [(.slice a0 a0l a0c)]) (zqm1_q1 Q E) E H) (by kernel_rfl) (vc_seq (K := (zqm1_53_M Q E)) (conv (B := vc Pr (sA (bodyOf Try.f62)) (argT [(.slice a0 a0l a0c)]) (xthen (zqm1_53_M Q E) (zqm1_q1 Q E)) E H) (by kernel_rfl) h) (zqm1_55ok Q E))))

/-! (*jobmux/nfa.search).reach -/
noncomputable def zqn1_q1 (Q : QT) (E : ET)  : XT := (retQ Pr (Try.f64).results.toList Q)

def zqn1_1 (Q : QT) (E : ET) (x0 x1 : OA) (l1 c1 : Nat) (x3 x4 : Int) (x7 : OA) (H : Heap) : Prop :=
 ptr x0 fun q10 =>
 ldM (Addr.add q10 1) H fun m11 =>
 ptr x7 fun q12 =>
 ∃ n13 : Int, ∃ b14 : Bool, ∃ b15 : Bool, Heap.rd H q12 0 [(.int .i64 n13), (.bool b14), (.bool b15)] ∧ msets Pr 100 m11 (.agg #[(.int .i64 n13), (.bool b14), (.bool b15)]) (.bool true) H fun H16 =>
 ptr x0 fun q17 =>
 ldSl (Addr.add q17 2) H16 fun p18 l19 c20 =>
 ptr x7 fun q21 =>
 ∃ n22 : Int, ∃ b23 : Bool, ∃ b24 : Bool, Heap.rd H16 q21 0 [(.int .i64 n22), (.bool b23), (.bool b24)] ∧ nw (.cells #[(.int .i64 n22), (.bool b23), (.bool b24), (.int .i64 x3), (.int .i64 x4)] 102 (0, 0)) H16 fun i25 H26 =>
 app Pr 95 p18 l19 c20 (.slice (some ⟨i25, 0, none⟩) 1 1) H26 fun p27 l28 c29 H30 =>
 ptr x0 fun q31 =>
 wr (Addr.add q31 2) [(.slice p27 l28 c29)] H30 fun H32 =>
 ptr x0 fun q33 =>
 ldSl (Addr.add q33 2) H32 fun p34 l35 c36 =>
 nw (.cells #[(.int .i64 (IntKind.wrap .i64 ((l35 : Int) - 1)))] 3 (0, 0)) H32 fun i37 H38 =>
 app Pr 22 x1 l1 c1 (.slice (some ⟨i37, 0, none⟩) 1 1) H38 fun p39 l40 c41 H42 =>
 Q (.slice p39 l40 c41) H42

def zqn1_1_M  (τ : Tau) (H : Heap) : Prop := mP (τ 0) fun x0 => mSl (τ 1) fun x1 l1 c1 => mI .i64 (τ 3) fun x3 => mI .i64 (τ 4) fun x4 => mP (τ 7) fun x7 => zqn1_1 Q E x0 x1 l1 c1 x3 x4 x7 H

theorem zqn1_2ok  : Ok Pr (zqn1_1_M Q E) (sB (sB (bodyOf Try.f64))) (zqn1_q1 Q E) E := fun τ H h =>
  wP 0 h (fun x0 h => wSl 1 h (fun x1 l1 c1 h => wI 3 h (fun x3 h => wI 4 h (fun x4 h => wP 7 h (fun x7 h => (conv (by kernel_rfl) h))))))

noncomputable def zqn1_q2  : XT := (xthen (zqn1_1_M Q E) (zqn1_q1 Q E))

def zqn1_3 (Q : QT) (E : ET) (x0 x1 : OA) (l1 c1 : Nat) (x3 x4 : Int) (x7 : OA) (H : Heap) : Prop :=
 ptr x0 fun q43 =>
 ldM (Addr.add q43 1) H fun m44 =>
 ptr x7 fun q45 =>
 ∃ n46 : Int, ∃ b47 : Bool, ∃ b48 : Bool, Heap.rd H q45 0 [(.int .i64 n46), (.bool b47), (.bool b48)] ∧ ∃ b50 : Bool, ∃ b49 : Bool, mgets Pr 100 m44 (.agg #[(.int .i64 n46), (.bool b47), (.bool b48)]) (.bool false) H (.bool b50) b49 ∧ sel b50
 (Q (.slice x1 l1 c1) H)
 (zqn1_1 Q E x0 x1 l1 c1 x3 x4 x7 H)

def zqn1_3_M  (τ : Tau) (H : Heap) : Prop := mP (τ 0) fun x0 => mSl (τ 1) fun x1 l1 c1 => mI .i64 (τ 3) fun x3 => mI .i64 (τ 4) fun x4 => mP (τ 7) fun x7 => zqn1_3 Q E x0 x1 l1 c1 x3 x4 x7 H

theorem zqn1_4ok  : Ok Pr (zqn1_3_M Q E) (sA (sB (bodyOf Try.f64))) (zqn1_q2 Q E) E := fun τ H h =>
  wP 0 h (fun x0 h => wSl 1 h (fun x1 l1 c1 h => wI 3 h (fun x3 h => wI 4 h (fun x4 h => wP 7 h (fun x7 h => (conv (by kernel_rfl) h))))))

theorem zqn1_5ok  : Ok Pr (zqn1_3_M Q E) (sB (bodyOf Try.f64)) (zqn1_q1 Q E) E := fun τ H h =>
  (conv (by kernel_rfl) (vc_seq (K := (zqn1_1_M Q E)) (zqn1_4ok Q E τ H h) (zqn1_2ok Q E)))

def zqn1 (Q : QT) (E : ET) (a0 : OA) (a1 : OA) (a1l : Nat) (a1c : Nat) (a2_0 : Int) (a2_1 : Bool) (a2_2 : Bool) (a3 : Int) (a4 : Int) (H : Heap) : Prop :=
 nw (.cells #[(.int .i64 a2_0), (.bool a2_1), (.bool a2_2)] 100 (0, 0)) H fun i51 H52 =>
 zqn1_3 Q E a0 a1 a1l a1c a3 a4 (some ⟨i51, 0, none⟩) H52

theorem zqn1_fn (a0 : OA) (a1 : OA) (a1l : Nat) (a1c : Nat) (a2_0 : Int) (a2_1 : Bool) (a2_2 : Bool) (a3 : Int) (a4 : Int) (Q : QT) (E : ET) (H : Heap) (h : zqn1 Q E a0 a1 a1l a1c a2_0 a2_1 a2_2 a3 a4 H)   : Does Pr 64 #[(.pointer a0), (.slice a1 a1l a1c), (.agg #[(.int .i64 a2_0), (.bool a2_1), (.bool a2_2)]), (.int .i64 a3), (.int .i64 a4)] H Q E :=
  Fn_of_vc (fn := Try.f64) (c := (bodyOf Try.f64)) (args := [(.pointer a0), (.slice a1 a1l a1c), (.agg #[(.int .i64 a2_0), (.bool a2_1), (.bool a2_2)]), (.int .i64 a3), (.int .i64 a4)]) mixed (by kernel_rfl) (by kernel_rfl) (by kernel_rfl) (by kernel_rfl) (by kernel_rfl) ((conv (B := vc Pr (bodyOf Try.f64) (argT [(.pointer a0), (.slice a1 a1l a1c), (.agg #[(.int .i64 a2_0), (.bool a2_1), (.bool a2_2)]), (.int .i64 a3), (.int .i64 a4)]) (zqn1_q1 Q E) E H) (by kernel_rfl) (vc_seq (K := (zqn1_3_M Q E)) (conv (B := vc Pr (sA (bodyOf Try.f64)) (argT [(.pointer a0), (.slice a1 a1l a1c), (.agg #[(.int .i64 a2_0), (.bool a2_1), (.bool a2_2)]), (.int .i64 a3), (.int .i64 a4)]) (xthen (zqn1_3_M Q E) (zqn1_q1 Q E)) E H) (by kernel_rfl) h) (zqn1_5ok Q E))))

/-! jobmux/nfa.Sample$1 -/
noncomputable def zqo1_q1 (Q : QT) (E : ET)  : XT := (retQ Pr (Try.f65).results.toList Q)

def zqo1 (Q : QT) (E : ET) (a0 : Int) (a1 : Bool) (a2 : OA) (a3 : OA) (a4 : OA) (a5 : OA) (H : Heap) : Prop :=
 ptr a2 fun q1 =>
 ldP q1 H fun p2 =>
 ptr a3 fun q3 =>
 ldSl q3 H fun p4 l5 c6 =>
 ptr a4 fun q7 =>
 ldB (Addr.add q7 1) H fun b8 =>
 ptr a3 fun q9 =>
 ldSl q9 H fun p10 l11 c12 =>
 ptr a5 fun q13 =>
 ldI .i64 q13 H fun n14 =>
 (0 ≤ n14 ∧ n14 < (l11 : Int)) ∧ ptr p10 fun q15 =>
 ldI .i64 (Addr.add q15 (n14.toNat * 1)) H fun n16 =>
 Does Pr 64 #[(.pointer p2), (.slice p4 l5 c6), (.agg #[(.int .i64 a0), (.bool b8), (.bool a1)]), (.int .i64 n16), (.int .i64 (-1))] H (fun v17 H18 =>
 ∃ (p19 : OA) (l20 c21 : Nat), v17 = (.slice p19 l20 c21) ∧ ptr a3 fun q23 =>
 wr q23 [(.slice p19 l20 c21)] H18 fun H22 =>
 Q (.tuple #[]) H22) (fun _ _ => False)

theorem zqo1_fn (a0 : Int) (a1 : Bool) (a2 : OA) (a3 : OA) (a4 : OA) (a5 : OA) (Q : QT) (E : ET) (H : Heap) (h : zqo1 Q E a0 a1 a2 a3 a4 a5 H)   : Does Pr 65 #[(.int .i64 a0), (.bool a1), (.pointer a2), (.pointer a3), (.pointer a4), (.pointer a5)] H Q E :=
  Fn_of_vc (fn := Try.f65) (c := (bodyOf Try.f65)) (args := [(.int .i64 a0), (.bool a1), (.pointer a2), (.pointer a3), (.pointer a4), (.pointer a5)]) mixed (by kernel_rfl) (by kernel_rfl) (by kernel_rfl) (by kernel_rfl) (by kernel_rfl) ((conv (B := vc Pr (bodyOf Try.f65) (argT [(.int .i64 a0), (.bool a1), (.pointer a2), (.pointer a3), (.pointer a4), (.pointer a5)]) (zqo1_q1 Q E) E H) (by kernel_rfl) h))

/-! (*jobmux/nfa.search).text -/
noncomputable def zqp1_q1 (Q : QT) (E : ET)  : XT := (retQ Pr (Try.f66).results.toList Q)

noncomputable def zqp1_p1 : Code := sB (bodyOf Try.f66)

def zqp1_1 (Q : QT) (E : ET) (x5 : OA) (l5 c5 : Nat) (H : Heap) : Prop :=
 Q (.slice x5 l5 c5) H

def zqp1_1_M  (τ : Tau) (H : Heap) : Prop := mSl (τ 5) fun x5 l5 c5 => zqp1_1 Q E x5 l5 c5 H

theorem zqp1_2ok  : Ok Pr (zqp1_1_M Q E) (sB (sB zqp1_p1)) (zqp1_q1 Q E) E := fun τ H h =>
  wSl 5 h (fun x5 l5 c5 h => (conv (by kernel_rfl) h))

noncomputable def zqp1_q2  : XT := (xthen (zqp1_1_M Q E) (zqp1_q1 Q E))

noncomputable def zqp1_q4 (nx19 : Int → OA → Nat → Nat → HP) : XT := (xthen (fun τ H => mI .i64 (τ 1) fun x1' => mSl (τ 5) fun x5' l5' c5' => nx19 x1' x5' l5' c5' H) (xblock 0 (zqp1_q2 Q E)))

noncomputable def zqp1_p6 : Code := sI (sI (sA (sB zqp1_p1)))

def zqp1_3 (nx19 : Int → OA → Nat → Nat → HP) (Q : QT) (E : ET) (x0 : OA) (x1 : Int) (x5 : OA) (l5 c5 : Nat) (H : Heap) : Prop :=
 ptr x0 fun q32 =>
 ldSl (Addr.add q32 2) H fun p33 l34 c35 =>
 (0 ≤ x1 ∧ x1 < (l34 : Int)) ∧ ptr p33 fun q36 =>
 ldI .i64 (Addr.add (Addr.add q36 (x1.toNat * 5)) 3) H fun n37 =>
 nx19 n37 x5 l5 c5 H

def zqp1_3_M (nx19 : Int → OA → Nat → Nat → HP) (τ : Tau) (H : Heap) : Prop := mP (τ 0) fun x0 => mI .i64 (τ 1) fun x1 => mSl (τ 5) fun x5 l5 c5 => zqp1_3 nx19 Q E x0 x1 x5 l5 c5 H

theorem zqp1_4ok (nx19 : Int → OA → Nat → Nat → HP) : Ok Pr (zqp1_3_M Q E nx19) (sB (sB zqp1_p6)) (zqp1_q4 Q E nx19) E := fun τ H h =>
  wP 0 h (fun x0 h => wI 1 h (fun x1 h => wSl 5 h (fun x5 l5 c5 h => (conv (by kernel_rfl) h))))

noncomputable def zqp1_q5 (nx19 : Int → OA → Nat → Nat → HP) : XT := (xthen (zqp1_3_M Q E nx19) (zqp1_q4 Q E nx19))

def zqp1_5 (nx19 : Int → OA → Nat → Nat → HP) (Q : QT) (E : ET) (x0 : OA) (x1 : Int) (x5 : OA) (l5 c5 : Nat) (H : Heap) : Prop :=
 ptr x0 fun q38 =>
 ldSl (Addr.add q38 2) H fun p39 l40 c41 =>
 (0 ≤ x1 ∧ x1 < (l40 : Int)) ∧ ptr p39 fun q42 =>
 ldI .i64 (Addr.add (Addr.add q42 (x1.toNat * 5)) 4) H fun n43 =>
 sel (decide (n43 ≥ 0))
 (nw (.cells #[(.int .u8 (IntKind.wrap .u8 n43))] 5 (0, 0)) H fun i44 H45 =>
 app Pr 24 (some ⟨i44, 0, none⟩) 1 1 (.slice x5 l5 c5) H45 fun p46 l47 c48 H49 =>
 zqp1_3 nx19 Q E x0 x1 p46 l47 c48 H49)
 (zqp1_3 nx19 Q E x0 x1 x5 l5 c5 H)

def zqp1_5_M (nx19 : Int → OA → Nat → Nat → HP) (τ : Tau) (H : Heap) : Prop := mP (τ 0) fun x0 => mI .i64 (τ 1) fun x1 => mSl (τ 5) fun x5 l5 c5 => zqp1_5 nx19 Q E x0 x1 x5 l5 c5 H

theorem zqp1_6ok (nx19 : Int → OA → Nat → Nat → HP) : Ok Pr (zqp1_5_M Q E nx19) (sA (sB zqp1_p6)) (zqp1_q5 Q E nx19) E := fun τ H h =>
  wP 0 h (fun x0 h => wI 1 h (fun x1 h => wSl 5 h (fun x5 l5 c5 h => (conv (by kernel_rfl) h))))

theorem zqp1_7ok (nx19 : Int → OA → Nat → Nat → HP) : Ok Pr (zqp1_5_M Q E nx19) (sB zqp1_p6) (zqp1_q4 Q E nx19) E := fun τ H h =>
  (conv (by kernel_rfl) (vc_seq (K := (zqp1_3_M Q E nx19)) (zqp1_6ok Q E nx19 τ H h) (zqp1_4ok Q E nx19)))

noncomputable def zqp1_q6 (nx19 : Int → OA → Nat → Nat → HP) : XT := (xthen (zqp1_5_M Q E nx19) (zqp1_q4 Q E nx19))

def zqp1_8 (nx19 : Int → OA → Nat → Nat → HP) (Q : QT) (E : ET) (x0 : OA) (x1 : Int) (x5 : OA) (l5 c5 : Nat) (H : Heap) : Prop :=
 sel (decide (x1 ≥ 0))
 (zqp1_5 nx19 Q E x0 x1 x5 l5 c5 H)
 (zqp1_1 Q E x5 l5 c5 H)

def zqp1_8_M (nx19 : Int → OA → Nat → Nat → HP) (τ : Tau) (H : Heap) : Prop := mP (τ 0) fun x0 => mI .i64 (τ 1) fun x1 => mSl (τ 5) fun x5 l5 c5 => zqp1_8 nx19 Q E x0 x1 x5 l5 c5 H

theorem zqp1_9ok (nx19 : Int → OA → Nat → Nat → HP) : Ok Pr (zqp1_8_M Q E nx19) (sA zqp1_p6) (zqp1_q6 Q E nx19) E := fun τ H h =>
  wP 0 h (fun x0 h => wI 1 h (fun x1 h => wSl 5 h (fun x5 l5 c5 h => (conv (by kernel_rfl) h))))

theorem zqp1_10ok (nx19 : Int → OA → Nat → Nat → HP) : Ok Pr (zqp1_8_M Q E nx19) zqp1_p6 (zqp1_q4 Q E nx19) E := fun τ H h =>
  (conv (by kernel_rfl) (vc_seq (K := (zqp1_5_M Q E nx19)) (zqp1_9ok Q E nx19 τ H h) (zqp1_7ok Q E nx19)))

def zqp1_11 (Q : QT) (E : ET) (x0 : OA) (x1 : Int) (x5 : OA) (l5 c5 : Nat) (H : Heap) : Prop :=
 ∃ (I : Int → OA → Nat → Nat → HP) (μ : Int → OA → Nat → Nat → Heap → Nat), I x1 x5 l5 c5 H ∧ ∀ (x1 : Int) (x5 : OA) (l5 c5 : Nat) (H : Heap), I x1 x5 l5 c5 H →
 zqp1_8 (fun x1' x5' l5' c5' H1 => I x1' x5' l5' c5' H1 ∧ μ x1' x5' l5' c5' H1 < μ x1 x5 l5 c5 H) Q E x0 x1 x5 l5 c5 H

def zqp1_11_M  (τ : Tau) (H : Heap) : Prop := mP (τ 0) fun x0 => mI .i64 (τ 1) fun x1 => mSl (τ 5) fun x5 l5 c5 => zqp1_11 Q E x0 x1 x5 l5 c5 H

theorem zqp1_12ok  : Ok Pr (zqp1_11_M Q E) (sI (sA (sB zqp1_p1))) (xblock 0 (zqp1_q2 Q E)) E := fun τ H h =>
  wP 0 h (fun x0 h => wI 1 h (fun x1 h => wSl 5 h (fun x5 l5 c5 h => match h with | ⟨I, μ, h0, hr⟩ => (conv (by kernel_rfl) (vc_loopG (c := sI (sI (sA (sB zqp1_p1)))) (τ := (Tau.upd (Tau.upd (Tau.upd τ 0 (.pointer x0)) 1 (.int .i64 x1)) 5 (.slice x5 l5 c5))) [0] (fun τ H => mI .i64 (τ 1) fun x1' => mSl (τ 5) fun x5' l5' c5' => I x1' x5' l5' c5' H) (fun τ H => μ (gI (τ 1)) (gL1 (τ 5)) (gL2 (τ 5)) (gL3 (τ 5)) H) (by kernel_rfl) h0 (fun τ1 H1 hf hI => uF 0 (.pointer x0) (hf 0 (by simp)) (uI 1 hI (fun x1r h => uSl 5 h (fun x5r l5r c5r h => lgx (zqp1_10ok Q E (fun x1' x5' l5' c5' H2 => I x1' x5' l5' c5' H2 ∧ μ x1' x5' l5' c5' H2 < μ x1r x5r l5r c5r H1) (Tau.upd (Tau.upd (Tau.upd τ1 0 (.pointer x0)) 1 (.int .i64 x1r)) 5 (.slice x5r l5r c5r)) H1 (conv (by kernel_rfl) (hr x1r x5r l5r c5r H1 h))) (fun τ2 H2 hk => kI 1 hk (fun x1' h => kSl 5 h (fun x5' l5' c5' h => conv (by kernel_rfl) h))))))))))))

theorem zqp1_13ok  : Ok Pr (zqp1_11_M Q E) (sA (sB zqp1_p1)) (zqp1_q2 Q E) E := fun τ H h =>
  (conv (by kernel_rfl) (zqp1_12ok Q E τ H h))

theorem zqp1_14ok  : Ok Pr (zqp1_11_M Q E) (sB zqp1_p1) (zqp1_q1 Q E) E := fun τ H h =>
  (conv (by kernel_rfl) (vc_seq (K := (zqp1_1_M Q E)) (zqp1_13ok Q E τ H h) (zqp1_2ok Q E)))

noncomputable def zqp1_q7  : XT := (xthen (zqp1_11_M Q E) (zqp1_q1 Q E))

def zqp1_15 (Q : QT) (E : ET) (x0 : OA) (x1 : Int) (H : Heap) : Prop :=
 zqp1_11 Q E x0 x1 none 0 0 H

def zqp1_15_M  (τ : Tau) (H : Heap) : Prop := mP (τ 0) fun x0 => mI .i64 (τ 1) fun x1 => zqp1_15 Q E x0 x1 H

theorem zqp1_16ok  : Ok Pr (zqp1_15_M Q E) (sA zqp1_p1) (zqp1_q7 Q E) E := fun τ H h =>
  wP 0 h (fun x0 h => wI 1 h (fun x1 h => (conv (by kernel_rfl) h)))

theorem zqp1_17ok  : Ok Pr (zqp1_15_M Q E) zqp1_p1 (zqp1_q1 Q E) E := fun τ H h =>
  (conv (by kernel_rfl) (vc_seq (K := (zqp1_11_M Q E)) (zqp1_16ok Q E τ H h) (zqp1_14ok Q E)))

def zqp1 (Q : QT) (E : ET) (a0 : OA) (a1 : Int) (H : Heap) : Prop :=
 zqp1_15 Q E a0 a1 H

theorem zqp1_fn (a0 : OA) (a1 : Int) (Q : QT) (E : ET) (H : Heap) (h : zqp1 Q E a0 a1 H)   : Does Pr 66 #[(.pointer a0), (.int .i64 a1)] H Q E :=
  Fn_of_vc (fn := Try.f66) (c := (bodyOf Try.f66)) (args := [(.pointer a0), (.int .i64 a1)]) mixed (by kernel_rfl) (by kernel_rfl) (by kernel_rfl) (by kernel_rfl) (by kernel_rfl) ((conv (B := vc Pr (bodyOf Try.f66) (argT [(.pointer a0), (.int .i64 a1)]) (zqp1_q1 Q E) E H) (by kernel_rfl) (vc_seq (K := (zqp1_15_M Q E)) (conv (B := vc Pr (sA (bodyOf Try.f66)) (argT [(.pointer a0), (.int .i64 a1)]) (xthen (zqp1_15_M Q E) (zqp1_q1 Q E)) E H) (by kernel_rfl) h) (zqp1_17ok Q E))))

/-! jobmux/nfa.pick -/
noncomputable def zqq1_q1 (Q : QT) (E : ET)  : XT := (retQ Pr (Try.f67).results.toList Q)

noncomputable def zqq1_p1 : Code := sB (bodyOf Try.f67)

def zqq1_1 (Q : QT) (E : ET)  (H : Heap) : Prop :=
 Q (.int .i64 (-1)) H

def zqq1_1_M  (τ : Tau) (H : Heap) : Prop := zqq1_1 Q E  H

theorem zqq1_2ok  : Ok Pr (zqq1_1_M Q E) (sB (sB (sB zqq1_p1))) (zqq1_q1 Q E) E := fun τ H h =>
  (conv (by kernel_rfl) h)

noncomputable def zqq1_q2  : XT := (xthen (zqq1_1_M Q E) (zqq1_q1 Q E))

noncomputable def zqq1_p5 : Code := sA (sB (sB zqq1_p1))

noncomputable def zqq1_q4 (nx9 : Int → HP) : XT := (xthen (fun τ H => mI .i64 (τ 6) fun x6' => nx9 x6' H) (xblock 0 (zqq1_q2 Q E)))

noncomputable def zqq1_p8 : Code := sI (sI (sB zqq1_p5))

def zqq1_3 (nx9 : Int → HP) (Q : QT) (E : ET) (x1 : Bool) (x5 : Value) (x6 : Int) (H : Heap) : Prop :=
 nx9 (IntKind.wrap .i64 (x6 + 1)) H

def zqq1_3_M (nx9 : Int → HP) (τ : Tau) (H : Heap) : Prop := mB (τ 1) fun x1 => mV (τ 5) fun x5 => mI .i64 (τ 6) fun x6 => zqq1_3 nx9 Q E x1 x5 x6 H

theorem zqq1_4ok (nx9 : Int → HP) : Ok Pr (zqq1_3_M Q E nx9) (sB (sB zqq1_p8)) (zqq1_q4 Q E nx9) E := fun τ H h =>
  wB 1 h (fun x1 h => wV 5 h (fun x5 h => wI 6 h (fun x6 h => (conv (by kernel_rfl) h))))

noncomputable def zqq1_q5 (nx9 : Int → HP) : XT := (xthen (zqq1_3_M Q E nx9) (zqq1_q4 Q E nx9))

def zqq1_5 (nx9 : Int → HP) (Q : QT) (E : ET) (x1 : Bool) (x5 : Value) (x6 : Int) (H : Heap) : Prop :=
 callV Pr E x5 [(.int .i64 x6)] (fun v13 H14 =>
 ∃ b15 : Bool, v13 = (.bool b15) ∧ sel b15
 (Q (.int .i64 x6) H14)
 (zqq1_3 nx9 Q E x1 x5 x6 H14)) H

def zqq1_5_M (nx9 : Int → HP) (τ : Tau) (H : Heap) : Prop := mB (τ 1) fun x1 => mV (τ 5) fun x5 => mI .i64 (τ 6) fun x6 => zqq1_5 nx9 Q E x1 x5 x6 H

theorem zqq1_6ok (nx9 : Int → HP) : Ok Pr (zqq1_5_M Q E nx9) (sA (sB zqq1_p8)) (zqq1_q5 Q E nx9) E := fun τ H h =>
  wB 1 h (fun x1 h => wV 5 h (fun x5 h => wI 6 h (fun x6 h => (conv (by kernel_rfl) h))))

theorem zqq1_7ok (nx9 : Int → HP) : Ok Pr (zqq1_5_M Q E nx9) (sB zqq1_p8) (zqq1_q4 Q E nx9) E := fun τ H h =>
  (conv (by kernel_rfl) (vc_seq (K := (zqq1_3_M Q E nx9)) (zqq1_6ok Q E nx9 τ H h) (zqq1_4ok Q E nx9)))

noncomputable def zqq1_q6 (nx9 : Int → HP) : XT := (xthen (zqq1_5_M Q E nx9) (zqq1_q4 Q E nx9))

def zqq1_8 (nx9 : Int → HP) (Q : QT) (E : ET) (x1 : Bool) (x5 : Value) (x6 : Int) (x15 : Bool) (H : Heap) : Prop :=
 sel x15
 (zqq1_5 nx9 Q E x1 x5 x6 H)
 (zqq1_1 Q E  H)

def zqq1_8_M (nx9 : Int → HP) (τ : Tau) (H : Heap) : Prop := mB (τ 1) fun x1 => mV (τ 5) fun x5 => mI .i64 (τ 6) fun x6 => mB (τ 15) fun x15 => zqq1_8 nx9 Q E x1 x5 x6 x15 H

theorem zqq1_9ok (nx9 : Int → HP) : Ok Pr (zqq1_8_M Q E nx9) (sB (sA zqq1_p8)) (zqq1_q6 Q E nx9) E := fun τ H h =>
  wB 1 h (fun x1 h => wV 5 h (fun x5 h => wI 6 h (fun x6 h => wB 15 h (fun x15 h => (conv (by kernel_rfl) h)))))

noncomputable def zqq1_q7 (nx9 : Int → HP) : XT := (xthen (zqq1_8_M Q E nx9) (zqq1_q6 Q E nx9))

def zqq1_10 (nx9 : Int → HP) (Q : QT) (E : ET) (x1 : Bool) (x5 : Value) (x6 : Int) (H : Heap) : Prop :=
 sel (decide (x6 < 256))
 (zqq1_8 nx9 Q E x1 x5 x6 (!x1) H)
 (zqq1_8 nx9 Q E x1 x5 x6 false H)

def zqq1_10_M (nx9 : Int → HP) (τ : Tau) (H : Heap) : Prop := mB (τ 1) fun x1 => mV (τ 5) fun x5 => mI .i64 (τ 6) fun x6 => zqq1_10 nx9 Q E x1 x5 x6 H

theorem zqq1_11ok (nx9 : Int → HP) : Ok Pr (zqq1_10_M Q E nx9) (sA (sA zqq1_p8)) (zqq1_q7 Q E nx9) E := fun τ H h =>
  wB 1 h (fun x1 h => wV 5 h (fun x5 h => wI 6 h (fun x6 h => (conv (by kernel_rfl) h))))

theorem zqq1_12ok (nx9 : Int → HP) : Ok Pr (zqq1_10_M Q E nx9) (sA zqq1_p8) (zqq1_q6 Q E nx9) E := fun τ H h =>
  (conv (by kernel_rfl) (vc_seq (K := (zqq1_8_M Q E nx9)) (zqq1_11ok Q E nx9 τ H h) (zqq1_9ok Q E nx9)))

theorem zqq1_13ok (nx9 : Int → HP) : Ok Pr (zqq1_10_M Q E nx9) zqq1_p8 (zqq1_q4 Q E nx9) E := fun τ H h =>
  (conv (by kernel_rfl) (vc_seq (K := (zqq1_5_M Q E nx9)) (zqq1_12ok Q E nx9 τ H h) (zqq1_7ok Q E nx9)))

def zqq1_14 (Q : QT) (E : ET) (x1 : Bool) (x5 : Value) (x6 : Int) (H : Heap) : Prop :=
 ∃ (I : Int → HP) (μ : Int → Heap → Nat), I x6 H ∧ ∀ (x6 : Int) (H : Heap), I x6 H →
 zqq1_10 (fun x6' H1 => I x6' H1 ∧ μ x6' H1 < μ x6 H) Q E x1 x5 x6 H

def zqq1_14_M  (τ : Tau) (H : Heap) : Prop := mB (τ 1) fun x1 => mV (τ 5) fun x5 => mI .i64 (τ 6) fun x6 => zqq1_14 Q E x1 x5 x6 H

theorem zqq1_15ok  : Ok Pr (zqq1_14_M Q E) (sI (sB zqq1_p5)) (xblock 0 (zqq1_q2 Q E)) E := fun τ H h =>
  wB 1 h (fun x1 h => wV 5 h (fun x5 h => wI 6 h (fun x6 h => match h with | ⟨I, μ, h0, hr⟩ => (conv (by kernel_rfl) (vc_loopG (c := sI (sI (sB zqq1_p5))) (τ := (Tau.upd (Tau.upd (Tau.upd τ 1 (.bool x1)) 5 x5) 6 (.int .i64 x6))) [1, 5] (fun τ H => mI .i64 (τ 6) fun x6' => I x6' H) (fun τ H => μ (gI (τ 6)) H) (by kernel_rfl) h0 (fun τ1 H1 hf hI => uF 1 (.bool x1) (hf 1 (by simp)) (uF 5 x5 (hf 5 (by simp)) (uI 6 hI (fun x6r h => lgx (zqq1_13ok Q E (fun x6' H2 => I x6' H2 ∧ μ x6' H2 < μ x6r H1) (Tau.upd (Tau.upd (Tau.upd τ1 1 (.bool x1)) 5 x5) 6 (.int .i64 x6r)) H1 (conv (by kernel_rfl) (hr x6r H1 h))) (fun τ2 H2 hk => kI 6 hk (fun x6' h => conv (by kernel_rfl) h)))))))))))

theorem zqq1_16ok  : Ok Pr (zqq1_14_M Q E) (sB zqq1_p5) (zqq1_q2 Q E) E := fun τ H h =>
  (conv (by kernel_rfl) (zqq1_15ok Q E τ H h))

noncomputable def zqq1_q8  : XT := (xthen (zqq1_14_M Q E) (zqq1_q2 Q E))

def zqq1_17 (Q : QT) (E : ET) (x1 : Bool) (x5 : Value) (H : Heap) : Prop :=
 zqq1_14 Q E x1 x5 0 H

def zqq1_17_M  (τ : Tau) (H : Heap) : Prop := mB (τ 1) fun x1 => mV (τ 5) fun x5 => zqq1_17 Q E x1 x5 H

theorem zqq1_18ok  : Ok Pr (zqq1_17_M Q E) (sA zqq1_p5) (zqq1_q8 Q E) E := fun τ H h =>
  wB 1 h (fun x1 h => wV 5 h (fun x5 h => (conv (by kernel_rfl) h)))

theorem zqq1_19ok  : Ok Pr (zqq1_17_M Q E) zqq1_p5 (zqq1_q2 Q E) E := fun τ H h =>
  (conv (by kernel_rfl) (vc_seq (K := (zqq1_14_M Q E)) (zqq1_18ok Q E τ H h) (zqq1_16ok Q E)))

theorem zqq1_20ok  : Ok Pr (zqq1_17_M Q E) (sB (sB zqq1_p1)) (zqq1_q1 Q E) E := fun τ H h =>
  (conv (by kernel_rfl) (vc_seq (K := (zqq1_1_M Q E)) (zqq1_19ok Q E τ H h) (zqq1_2ok Q E)))

noncomputable def zqq1_q9  : XT := (xthen (zqq1_17_M Q E) (zqq1_q1 Q E))

def zqq1_21 (Q : QT) (E : ET) (x1 : Bool) (x5 : Value) (H : Heap) : Prop :=
 callV Pr E x5 [(.int .i64 10)] (fun v16 H17 =>
 ∃ b18 : Bool, v16 = (.bool b18) ∧ sel b18
 (Q (.int .i64 10) H17)
 (zqq1_17 Q E x1 x5 H17)) H

def zqq1_21_M  (τ : Tau) (H : Heap) : Prop := mB (τ 1) fun x1 => mV (τ 5) fun x5 => zqq1_21 Q E x1 x5 H

theorem zqq1_22ok  : Ok Pr (zqq1_21_M Q E) (sA (sB zqq1_p1)) (zqq1_q9 Q E) E := fun τ H h =>
  wB 1 h (fun x1 h => wV 5 h (fun x5 h => (conv (by kernel_rfl) h)))

theorem zqq1_23ok  : Ok Pr (zqq1_21_M Q E) (sB zqq1_p1) (zqq1_q1 Q E) E := fun τ H h =>
  (conv (by kernel_rfl) (vc_seq (K := (zqq1_17_M Q E)) (zqq1_22ok Q E τ H h) (zqq1_20ok Q E)))

noncomputable def zqq1_q10  : XT := (xthen (zqq1_21_M Q E) (zqq1_q1 Q E))

def zqq1_24 (Q : QT) (E : ET) (x1 : Bool) (x2 : OA) (H : Heap) : Prop :=
 zqq1_21 Q E x1 (.func (.func 97) #[] #[(.pointer x2)]) H

def zqq1_24_M  (τ : Tau) (H : Heap) : Prop := mB (τ 1) fun x1 => mP (τ 2) fun x2 => zqq1_24 Q E x1 x2 H

theorem zqq1_25ok  : Ok Pr (zqq1_24_M Q E) (sA zqq1_p1) (zqq1_q10 Q E) E := fun τ H h =>
  wB 1 h (fun x1 h => wP 2 h (fun x2 h => (conv (by kernel_rfl) h)))

theorem zqq1_26ok  : Ok Pr (zqq1_24_M Q E) zqq1_p1 (zqq1_q1 Q E) E := fun τ H h =>
  (conv (by kernel_rfl) (vc_seq (K := (zqq1_21_M Q E)) (zqq1_25ok Q E τ H h) (zqq1_23ok Q E)))

def zqq1 (Q : QT) (E : ET) (a0_0 : Int) (a0_1 : Int) (a0_2 : Int) (a0_3 : Int) (a1 : Bool) (H : Heap) : Prop :=
 nw (.cells #[(.int .u64 a0_0), (.int .u64 a0_1), (.int .u64 a0_2), (.int .u64 a0_3)] 46 (0, 0)) H fun i19 H20 =>
 zqq1_24 Q E a1 (some ⟨i19, 0, none⟩) H20

theorem zqq1_fn (a0_0 : Int) (a0_1 : Int) (a0_2 : Int) (a0_3 : Int) (a1 : Bool) (Q : QT) (E : ET) (H : Heap) (h : zqq1 Q E a0_0 a0_1 a0_2 a0_3 a1 H)   : Does Pr 67 #[(.agg #[(.int .u64 a0_0), (.int .u64 a0_1), (.int .u64 a0_2), (.int .u64 a0_3)]), (.bool a1)] H Q E :=
  Fn_of_vc (fn := Try.f67) (c := (bodyOf Try.f67)) (args := [(.agg #[(.int .u64 a0_0), (.int .u64 a0_1), (.int .u64 a0_2), (.int .u64 a0_3)]), (.bool a1)]) mixed (by kernel_rfl) (by kernel_rfl) (by kernel_rfl) (by kernel_rfl) (by kernel_rfl) ((conv (B := vc Pr (bodyOf Try.f67) (argT [(.agg #[(.int .u64 a0_0), (.int .u64 a0_1), (.int .u64 a0_2), (.int .u64 a0_3)]), (.bool a1)]) (zqq1_q1 Q E) E H) (by kernel_rfl) (vc_seq (K := (zqq1_24_M Q E)) (conv (B := vc Pr (sA (bodyOf Try.f67)) (argT [(.agg #[(.int .u64 a0_0), (.int .u64 a0_1), (.int .u64 a0_2), (.int .u64 a0_3)]), (.bool a1)]) (xthen (zqq1_24_M Q E) (zqq1_q1 Q E)) E H) (by kernel_rfl) h) (zqq1_26ok Q E))))

/-! jobmux/nfa.valid$1 -/
noncomputable def zqr1_q1 (Q : QT) (E : ET)  : XT := (retQ Pr (Try.f96).results.toList Q)

def zqr1 (Q : QT) (E : ET) (a0 : Int) (a1 : OA) (H : Heap) : Prop :=
 sel (decide ((a0 : Int) ≥ 0))
 (ptr a1 fun q1 =>
 ldSl q1 H fun p2 l3 c4 =>
 Q (.bool (decide ((a0 : Int) < (l3 : Int)))) H)
 (Q (.bool false) H)

theorem zqr1_fn (a0 : Int) (a1 : OA) (Q : QT) (E : ET) (H : Heap) (h : zqr1 Q E a0 a1 H)   : Does Pr 96 #[(.int .i64 a0), (.pointer a1)] H Q E :=
  Fn_of_vc (fn := Try.f96) (c := (bodyOf Try.f96)) (args := [(.int .i64 a0), (.pointer a1)]) mixed (by kernel_rfl) (by kernel_rfl) (by kernel_rfl) (by kernel_rfl) (by kernel_rfl) ((conv (B := vc Pr (bodyOf Try.f96) (argT [(.int .i64 a0), (.pointer a1)]) (zqr1_q1 Q E) E H) (by kernel_rfl) h))

/-! jobmux/nfa.pick$1 -/
noncomputable def zqs1_q1 (Q : QT) (E : ET)  : XT := (retQ Pr (Try.f97).results.toList Q)

def zqs1 (Q : QT) (E : ET) (a0 : Int) (a1 : OA) (H : Heap) : Prop :=
 (64 : Int) ≠ 0 ∧ ptr a1 fun q1 =>
 (0 ≤ ((IntKind.wrap .i64 (Int.tdiv a0 64)) : Int) ∧ ((IntKind.wrap .i64 (Int.tdiv a0 64)) : Int) < ((4 : Nat) : Int)) ∧ ldI .u64 (Addr.add q1 (((IntKind.wrap .i64 (Int.tdiv a0 64)) : Int).toNat * 1)) H fun n2 =>
 (64 : Int) ≠ 0 ∧ 0 ≤ ((Int.tmod a0 64) : Int) ∧ Q (.bool (((IntKind.wrap .u64 (BitVec.ofInt (IntKind.bits .u64) (Int.fdiv n2 (2 ^ min ((Int.tmod a0 64) : Int).toNat (IntKind.bits .u64))) &&& BitVec.ofInt (IntKind.bits .u64) 1).toNat) : Int) == 1)) H

theorem zqs1_fn (a0 : Int) (a1 : OA) (Q : QT) (E : ET) (H : Heap) (h : zqs1 Q E a0 a1 H)   : Does Pr 97 #[(.int .i64 a0), (.pointer a1)] H Q E :=
  Fn_of_vc (fn := Try.f97) (c := (bodyOf Try.f97)) (args := [(.int .i64 a0), (.pointer a1)]) mixed (by kernel_rfl) (by kernel_rfl) (by kernel_rfl) (by kernel_rfl) (by kernel_rfl) ((conv (B := vc Pr (bodyOf Try.f97) (argT [(.int .i64 a0), (.pointer a1)]) (zqs1_q1 Q E) E H) (by kernel_rfl) h))

end Go.Proofs.Ytaffcoiomggpfaa
