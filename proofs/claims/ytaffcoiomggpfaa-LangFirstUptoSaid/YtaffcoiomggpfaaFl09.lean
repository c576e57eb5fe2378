import Derived.Test.YtaffcoiomggpfaaVPr
/- Printed by gen.py: the Go functions of package l09 over a heap view, and that the model does so. -/
namespace Go.Proofs.Ytaffcoiomggpfaa
open Go.V
set_option linter.unusedVariables false
set_option maxRecDepth 100000
/-! jobmux/jobmuxlaw09.LangFirst -/
@[reducible] noncomputable def zqj1_q1 (Q : QT) (E : ET) : Exit → Tau → Heap → Prop := (retQ Pr (Try.f3).results.toList Q)

@[reducible] noncomputable def zqj1_p0 : Code := bodyOf Try.f3

@[reducible] noncomputable def zqj1_p1 : Code := sB zqj1_p0

@[reducible] noncomputable def zqj1_p2 : Code := sB zqj1_p1

@[reducible] noncomputable def zqj1_p3 : Code := sB zqj1_p2

def zqj1_1 (Q : QT) (E : ET) (x0 : OA) (l0 : Nat) (c0 : Nat) (x1 : OA) (l1 : Nat) (c1 : Nat) (x2 : OA) (l2 : Nat) (c2 : Nat) (H : Heap) : Prop :=
 Does Pr 18 #[(.slice x0 l0 c0)] H (fun v4 H5 =>
 ∃ (p6 : OA) (l7 c8 : Nat), ∃ (p9 : OA) (l10 c11 : Nat), v4 = (.tuple #[(.slice p6 l7 c8), (.slice p9 l10 c11)]) ∧ Does Pr 19 #[(.slice p6 l7 c8), (.slice p9 l10 c11)] H5 (fun v12 H13 =>
 ∃ n14 : Int, v12 = (.int .i64 n14) ∧ Does Pr 20 #[(.slice p6 l7 c8), (.slice p9 l10 c11)] H13 (fun v15 H16 =>
 ∃ n17 : Int, v15 = (.int .i64 n17) ∧ sel ((n14 : Int) == n17)
 (Does Pr 19 #[(.slice p6 l7 c8), (.slice x2 l2 c2)] H16 (fun v18 H19 =>
 ∃ n20 : Int, v18 = (.int .i64 n20) ∧ Does Pr 20 #[(.slice p6 l7 c8), (.slice x2 l2 c2)] H19 (fun v21 H22 =>
 ∃ n23 : Int, v21 = (.int .i64 n23) ∧ sel ((n20 : Int) == n23)
 (Does Pr 19 #[(.slice x1 l1 c1), (.slice x2 l2 c2)] H22 (fun v24 H25 =>
 ∃ n26 : Int, v24 = (.int .i64 n26) ∧ Does Pr 20 #[(.slice x1 l1 c1), (.slice x2 l2 c2)] H25 (fun v27 H28 =>
 ∃ n29 : Int, v27 = (.int .i64 n29) ∧ Q (.bool ((n26 : Int) == n29)) H28) E) E)
 (Q (.bool false) H22)) E) E)
 (Q (.bool false) H16)) E) E) E

def zqj1_1_M (Q : QT) (E : ET) (τ : Tau) (H : Heap) : Prop := mSl (τ 0) fun x0 l0 c0 => mSl (τ 1) fun x1 l1 c1 => mSl (τ 2) fun x2 l2 c2 => zqj1_1 Q E x0 l0 c0 x1 l1 c1 x2 l2 c2 H

theorem zqj1_2ok (Q : QT) (E : ET) (τ : Tau) (H : Heap) (h : zqj1_1_M Q E τ H) : vc Pr zqj1_p3 τ (zqj1_q1 Q E) E H :=
  vSl (i := 0) h (fun x0 l0 c0 h => vSl (i := 1) h (fun x1 l1 c1 h => vSl (i := 2) h (fun x2 l2 c2 h => (conv (by kernel_rfl) h))))

@[reducible] noncomputable def zqj1_q2 (Q : QT) (E : ET) : Exit → Tau → Heap → Prop := (xthen (zqj1_1_M Q E) (zqj1_q1 Q E))

@[reducible] noncomputable def zqj1_p4 : Code := sA zqj1_p2

@[reducible] noncomputable def zqj1_p5 : Code := sB zqj1_p4

def zqj1_3 (Q : QT) (E : ET) (x0 : OA) (l0 : Nat) (c0 : Nat) (x1 : OA) (l1 : Nat) (c1 : Nat) (x2 : OA) (l2 : Nat) (c2 : Nat) (x18 : Bool) (H : Heap) : Prop :=
 sel x18
 (Q (.bool true) H)
 (zqj1_1 Q E x0 l0 c0 x1 l1 c1 x2 l2 c2 H)

def zqj1_3_M (Q : QT) (E : ET) (τ : Tau) (H : Heap) : Prop := mSl (τ 0) fun x0 l0 c0 => mSl (τ 1) fun x1 l1 c1 => mSl (τ 2) fun x2 l2 c2 => mB (τ 18) fun x18 => zqj1_3 Q E x0 l0 c0 x1 l1 c1 x2 l2 c2 x18 H

theorem zqj1_4ok (Q : QT) (E : ET) (τ : Tau) (H : Heap) (h : zqj1_3_M Q E τ H) : vc Pr zqj1_p5 τ (zqj1_q2 Q E) E H :=
  vSl (i := 0) h (fun x0 l0 c0 h => vSl (i := 1) h (fun x1 l1 c1 h => vSl (i := 2) h (fun x2 l2 c2 h => vB (i := 18) h (fun x18 h => (conv (by kernel_rfl) h)))))

@[reducible] noncomputable def zqj1_q3 (Q : QT) (E : ET) : Exit → Tau → Heap → Prop := (xthen (zqj1_3_M Q E) (zqj1_q2 Q E))

@[reducible] noncomputable def zqj1_p6 : Code := sA zqj1_p4

def zqj1_5 (Q : QT) (E : ET) (x0 : OA) (l0 : Nat) (c0 : Nat) (x1 : OA) (l1 : Nat) (c1 : Nat) (x2 : OA) (l2 : Nat) (c2 : Nat) (H : Heap) : Prop :=
 sel (decide ((((l1 : Nat) : Int) : Int) > 20))
 (zqj1_3 Q E x0 l0 c0 x1 l1 c1 x2 l2 c2 true H)
 (zqj1_3 Q E x0 l0 c0 x1 l1 c1 x2 l2 c2 (decide ((((l2 : Nat) : Int) : Int) > 12)) H)

def zqj1_5_M (Q : QT) (E : ET) (τ : Tau) (H : Heap) : Prop := mSl (τ 0) fun x0 l0 c0 => mSl (τ 1) fun x1 l1 c1 => mSl (τ 2) fun x2 l2 c2 => zqj1_5 Q E x0 l0 c0 x1 l1 c1 x2 l2 c2 H

theorem zqj1_6ok (Q : QT) (E : ET) (τ : Tau) (H : Heap) (h : zqj1_5_M Q E τ H) : vc Pr zqj1_p6 τ (zqj1_q3 Q E) E H :=
  vSl (i := 0) h (fun x0 l0 c0 h => vSl (i := 1) h (fun x1 l1 c1 h => vSl (i := 2) h (fun x2 l2 c2 h => (conv (by kernel_rfl) h))))

theorem zqj1_7ok (Q : QT) (E : ET) (τ : Tau) (H : Heap) (h : zqj1_5_M Q E τ H) : vc Pr zqj1_p4 τ (zqj1_q2 Q E) E H :=
  (conv (B := vc Pr zqj1_p4 τ (zqj1_q2 Q E) E H) (by kernel_rfl) (vc_seq (K := (zqj1_3_M Q E)) (zqj1_6ok Q E τ H h) (zqj1_4ok Q E)))

theorem zqj1_8ok (Q : QT) (E : ET) (τ : Tau) (H : Heap) (h : zqj1_5_M Q E τ H) : vc Pr zqj1_p2 τ (zqj1_q1 Q E) E H :=
  (conv (B := vc Pr zqj1_p2 τ (zqj1_q1 Q E) E H) (by kernel_rfl) (vc_seq (K := (zqj1_1_M Q E)) (zqj1_7ok Q E τ H h) (zqj1_2ok Q E)))

@[reducible] noncomputable def zqj1_q4 (Q : QT) (E : ET) : Exit → Tau → Heap → Prop := (xthen (zqj1_5_M Q E) (zqj1_q1 Q E))

@[reducible] noncomputable def zqj1_p7 : Code := sA zqj1_p1

def zqj1_9 (Q : QT) (E : ET) (x0 : OA) (l0 : Nat) (c0 : Nat) (x1 : OA) (l1 : Nat) (c1 : Nat) (x2 : OA) (l2 : Nat) (c2 : Nat) (H : Heap) : Prop :=
 Does Pr 17 #[] H (fun v30 H31 =>
 ∃ b32 : Bool, v30 = (.bool b32) ∧ sel (!b32)
 (Q (.bool false) H31)
 (zqj1_5 Q E x0 l0 c0 x1 l1 c1 x2 l2 c2 H31)) E

def zqj1_9_M (Q : QT) (E : ET) (τ : Tau) (H : Heap) : Prop := mSl (τ 0) fun x0 l0 c0 => mSl (τ 1) fun x1 l1 c1 => mSl (τ 2) fun x2 l2 c2 => zqj1_9 Q E x0 l0 c0 x1 l1 c1 x2 l2 c2 H

theorem zqj1_10ok (Q : QT) (E : ET) (τ : Tau) (H : Heap) (h : zqj1_9_M Q E τ H) : vc Pr zqj1_p7 τ (zqj1_q4 Q E) E H :=
  vSl (i := 0) h (fun x0 l0 c0 h => vSl (i := 1) h (fun x1 l1 c1 h => vSl (i := 2) h (fun x2 l2 c2 h => (conv (by kernel_rfl) h))))

theorem zqj1_11ok (Q : QT) (E : ET) (τ : Tau) (H : Heap) (h : zqj1_9_M Q E τ H) : vc Pr zqj1_p1 τ (zqj1_q1 Q E) E H :=
  (conv (B := vc Pr zqj1_p1 τ (zqj1_q1 Q E) E H) (by kernel_rfl) (vc_seq (K := (zqj1_5_M Q E)) (zqj1_10ok Q E τ H h) (zqj1_8ok Q E)))

@[reducible] noncomputable def zqj1_q5 (Q : QT) (E : ET) : Exit → Tau → Heap → Prop := (xthen (zqj1_9_M Q E) (zqj1_q1 Q E))

@[reducible] noncomputable def zqj1_p8 : Code := sA zqj1_p0

def zqj1 (Q : QT) (E : ET) (a0 : OA) (a0l : Nat) (a0c : Nat) (a1 : OA) (a1l : Nat) (a1c : Nat) (a2 : OA) (a2l : Nat) (a2c : Nat) (H : Heap) : Prop :=
 zqj1_9 Q E a0 a0l a0c a1 a1l a1c a2 a2l a2c H

theorem zqj1_fn (a0 : OA) (a0l : Nat) (a0c : Nat) (a1 : OA) (a1l : Nat) (a1c : Nat) (a2 : OA) (a2l : Nat) (a2c : Nat) (Q : QT) (E : ET) (H : Heap) (h : zqj1 Q E a0 a0l a0c a1 a1l a1c a2 a2l a2c H)   : Does Pr 3 #[(.slice a0 a0l a0c), (.slice a1 a1l a1c), (.slice a2 a2l a2c)] H Q E :=
  Fn_of_vc (fn := Try.f3) (c := zqj1_p0) (args := [(.slice a0 a0l a0c), (.slice a1 a1l a1c), (.slice a2 a2l a2c)]) mixed (by kernel_rfl) (by kernel_rfl) (by kernel_rfl) (by kernel_rfl) (by kernel_rfl) ((conv (B := vc Pr zqj1_p0 (argT [(.slice a0 a0l a0c), (.slice a1 a1l a1c), (.slice a2 a2l a2c)]) (zqj1_q1 Q E) E H) (by kernel_rfl) (vc_seq (K := (zqj1_9_M Q E)) (conv (B := vc Pr zqj1_p8 (argT [(.slice a0 a0l a0c), (.slice a1 a1l a1c), (.slice a2 a2l a2c)]) (zqj1_q5 Q E) E H) (by kernel_rfl) h) (zqj1_11ok Q E))))

/-! jobmux/jobmuxlaw09.sane -/
@[reducible] noncomputable def zqk1_q1 (Q : QT) (E : ET) : Exit → Tau → Heap → Prop := (retQ Pr (Try.f17).results.toList Q)

@[reducible] noncomputable def zqk1_p0 : Code := bodyOf Try.f17

def zqk1 (Q : QT) (E : ET)  (H : Heap) : Prop :=
 Does Pr 23 #[(.string ⟨[97, 42, 98].toArray⟩)] H (fun v1 H2 =>
 ∃ (p3 : OA) (l4 c5 : Nat), ∃ n6 : Int, v1 = (.tuple #[(.slice p3 l4 c5), (.int .i64 n6)]) ∧ Does Pr 23 #[(.string ⟨[36].toArray⟩)] H2 (fun v7 H8 =>
 ∃ (p9 : OA) (l10 c11 : Nat), ∃ n12 : Int, v7 = (.tuple #[(.slice p9 l10 c11), (.int .i64 n12)]) ∧ nw (.cells #[(.int .u8 97), (.int .u8 97), (.int .u8 98)] 5 (0, 0)) H8 fun i13 H14 =>
 ∃ (cs15 : Array Value) (t16 : TypeId), H14 i13 = some (.cells cs15 t16 (0, 0)) ∧ (fun H17 =>
 Does Pr 24 #[(.slice p3 l4 c5), (.slice (some ⟨i13, 0, none⟩) 3 3), (.int .i64 0)] H17 (fun v18 H19 =>
 ∃ (p20 : OA) (l21 c22 : Nat), v18 = (.slice p20 l21 c22) ∧ nw (.cells #[(.int .i64 3)] 3 (0, 0)) H19 fun i23 H24 =>
 Does Pr 26 #[(.slice p20 l21 c22), (.slice (some ⟨i23, 0, none⟩) 1 1)] H24 (fun v25 H26 =>
 ∃ b27 : Bool, v25 = (.bool b27) ∧ sel b27
 (nw (.cells #[(.int .u8 97), (.int .u8 97), (.int .u8 98)] 5 (0, 0)) H26 fun i28 H29 =>
 ∃ (cs30 : Array Value) (t31 : TypeId), H29 i28 = some (.cells cs30 t31 (0, 0)) ∧ (fun H32 =>
 Does Pr 19 #[(.slice p3 l4 c5), (.slice (some ⟨i28, 0, none⟩) 3 3)] H32 (fun v33 H34 =>
 ∃ n35 : Int, v33 = (.int .i64 n35) ∧ sel ((n35 : Int) == 3)
 (nw (.cells #[(.int .u8 120), (.int .u8 10)] 5 (0, 0)) H34 fun i36 H37 =>
 ∃ (cs38 : Array Value) (t39 : TypeId), H37 i36 = some (.cells cs38 t39 (0, 0)) ∧ (fun H40 =>
 Does Pr 19 #[(.slice p9 l10 c11), (.slice (some ⟨i36, 0, none⟩) 2 2)] H40 (fun v41 H42 =>
 ∃ n43 : Int, v41 = (.int .i64 n43) ∧ Q (.bool ((n43 : Int) == 2)) H42) E) (Heap.set H37 i36 (.cells cs38 t39 (cs38.size, cs38.size + 1))))
 (Q (.bool false) H34)) E) (Heap.set H29 i28 (.cells cs30 t31 (cs30.size, cs30.size + 1))))
 (Q (.bool false) H26)) E) E) (Heap.set H14 i13 (.cells cs15 t16 (cs15.size, cs15.size + 1)))) E) E

theorem zqk1_fn  (Q : QT) (E : ET) (H : Heap) (h : zqk1 Q E  H)   : Does Pr 17 #[] H Q E :=
  Fn_of_vc (fn := Try.f17) (c := zqk1_p0) (args := []) mixed (by kernel_rfl) (by kernel_rfl) (by kernel_rfl) (by kernel_rfl) (by kernel_rfl) ((conv (B := vc Pr zqk1_p0 (argT []) (zqk1_q1 Q E) E H) (by kernel_rfl) h))

/-! jobmux/jobmuxlaw09.pattern -/
@[reducible] noncomputable def zql1_q1 (Q : QT) (E : ET) : Exit → Tau → Heap → Prop := (retQ Pr (Try.f18).results.toList Q)

@[reducible] noncomputable def zql1_p0 : Code := bodyOf Try.f18

@[reducible] noncomputable def zql1_p1 : Code := sB zql1_p0

@[reducible] noncomputable def zql1_p2 : Code := sB zql1_p1

@[reducible] noncomputable def zql1_p3 : Code := sB zql1_p2

@[reducible] noncomputable def zql1_p4 : Code := sB zql1_p3

@[reducible] noncomputable def zql1_p5 : Code := sB zql1_p4

@[reducible] noncomputable def zql1_p6 : Code := sB zql1_p5

@[reducible] noncomputable def zql1_p7 : Code := sB zql1_p6

def zql1_1 (Q : QT) (E : ET) (x6 : OA) (l6 : Nat) (c6 : Nat) (x9 : OA) (l9 : Nat) (c9 : Nat) (H : Heap) : Prop :=
 Q (.tuple #[(.slice x9 l9 c9), (.slice x6 l6 c6)]) H

def zql1_1_M (Q : QT) (E : ET) (τ : Tau) (H : Heap) : Prop := mSl (τ 6) fun x6 l6 c6 => mSl (τ 9) fun x9 l9 c9 => zql1_1 Q E x6 l6 c6 x9 l9 c9 H

theorem zql1_2ok (Q : QT) (E : ET) (τ : Tau) (H : Heap) (h : zql1_1_M Q E τ H) : vc Pr zql1_p7 τ (zql1_q1 Q E) E H :=
  vSl (i := 6) h (fun x6 l6 c6 h => vSl (i := 9) h (fun x9 l9 c9 h => (conv (by kernel_rfl) h)))

@[reducible] noncomputable def zql1_q2 (Q : QT) (E : ET) : Exit → Tau → Heap → Prop := (xthen (zql1_1_M Q E) (zql1_q1 Q E))

@[reducible] noncomputable def zql1_p8 : Code := sA zql1_p6

def zql1_3 (Q : QT) (E : ET) (x4 : OA) (x6 : OA) (l6 : Nat) (c6 : Nat) (x9 : OA) (l9 : Nat) (c9 : Nat) (x10 : Int) (H : Heap) : Prop :=
 sel ((x10 : Int) != 0)
 (Does Pr 21 #[] H (fun v51 H52 =>
 ∃ (p53 : OA) (l54 c55 : Nat), v51 = (.slice p53 l54 c55) ∧ Does Pr 49 #[(.pointer x4), (.int .i64 7)] H52 (fun v56 H57 =>
 ∃ n58 : Int, v56 = (.int .i64 n58) ∧ (0 ≤ (n58 : Int) ∧ (n58 : Int) < ((l54 : Nat) : Int)) ∧ ptr p53 fun q59 =>
 ldS (Addr.add q59 ((n58 : Int).toNat * 1)) H57 fun s60 =>
 Does Pr 23 #[(.string s60)] H57 (fun v61 H62 =>
 ∃ (p63 : OA) (l64 c65 : Nat), ∃ n66 : Int, v61 = (.tuple #[(.slice p63 l64 c65), (.int .i64 n66)]) ∧ zql1_1 Q E x6 l6 c6 p63 l64 c65 H62) E) E) E)
 (zql1_1 Q E x6 l6 c6 x9 l9 c9 H)

def zql1_3_M (Q : QT) (E : ET) (τ : Tau) (H : Heap) : Prop := mP (τ 4) fun x4 => mSl (τ 6) fun x6 l6 c6 => mSl (τ 9) fun x9 l9 c9 => mI .i64 (τ 10) fun x10 => zql1_3 Q E x4 x6 l6 c6 x9 l9 c9 x10 H

theorem zql1_4ok (Q : QT) (E : ET) (τ : Tau) (H : Heap) (h : zql1_3_M Q E τ H) : vc Pr zql1_p8 τ (zql1_q2 Q E) E H :=
  vP (i := 4) h (fun x4 h => vSl (i := 6) h (fun x6 l6 c6 h => vSl (i := 9) h (fun x9 l9 c9 h => vI (i := 10) h (fun x10 h => (conv (by kernel_rfl) h)))))

theorem zql1_5ok (Q : QT) (E : ET) (τ : Tau) (H : Heap) (h : zql1_3_M Q E τ H) : vc Pr zql1_p6 τ (zql1_q1 Q E) E H :=
  (conv (B := vc Pr zql1_p6 τ (zql1_q1 Q E) E H) (by kernel_rfl) (vc_seq (K := (zql1_1_M Q E)) (zql1_4ok Q E τ H h) (zql1_2ok Q E)))

@[reducible] noncomputable def zql1_q3 (Q : QT) (E : ET) : Exit → Tau → Heap → Prop := (xthen (zql1_3_M Q E) (zql1_q1 Q E))

@[reducible] noncomputable def zql1_p9 : Code := sA zql1_p5

def zql1_6 (Q : QT) (E : ET) (x4 : OA) (x5 : OA) (l5 : Nat) (c5 : Nat) (x6 : OA) (l6 : Nat) (c6 : Nat) (H : Heap) : Prop :=
 ∃ bs67 : List UInt8, bs67.length = l5 ∧ Heap.rdS H x5 (bs67.map byteV) ∧ Does Pr 23 #[(.string (⟨bs67.toArray⟩ : ByteArray))] H (fun v68 H69 =>
 ∃ (p70 : OA) (l71 c72 : Nat), ∃ n73 : Int, v68 = (.tuple #[(.slice p70 l71 c72), (.int .i64 n73)]) ∧ zql1_3 Q E x4 x6 l6 c6 p70 l71 c72 n73 H69) E

def zql1_6_M (Q : QT) (E : ET) (τ : Tau) (H : Heap) : Prop := mP (τ 4) fun x4 => mSl (τ 5) fun x5 l5 c5 => mSl (τ 6) fun x6 l6 c6 => zql1_6 Q E x4 x5 l5 c5 x6 l6 c6 H

theorem zql1_7ok (Q : QT) (E : ET) (τ : Tau) (H : Heap) (h : zql1_6_M Q E τ H) : vc Pr zql1_p9 τ (zql1_q3 Q E) E H :=
  vP (i := 4) h (fun x4 h => vSl (i := 5) h (fun x5 l5 c5 h => vSl (i := 6) h (fun x6 l6 c6 h => (conv (by kernel_rfl) h))))

theorem zql1_8ok (Q : QT) (E : ET) (τ : Tau) (H : Heap) (h : zql1_6_M Q E τ H) : vc Pr zql1_p5 τ (zql1_q1 Q E) E H :=
  (conv (B := vc Pr zql1_p5 τ (zql1_q1 Q E) E H) (by kernel_rfl) (vc_seq (K := (zql1_3_M Q E)) (zql1_7ok Q E τ H h) (zql1_5ok Q E)))

@[reducible] noncomputable def zql1_q4 (Q : QT) (E : ET) : Exit → Tau → Heap → Prop := (xthen (zql1_6_M Q E) (zql1_q1 Q E))

@[reducible] noncomputable def zql1_p10 : Code := sA zql1_p4

@[reducible] noncomputable def zql1_p11 : Code := sB zql1_p10

@[reducible] noncomputable def zql1_q5 (Q : QT) (E : ET) : Exit → Tau → Heap → Prop := (xblock 2 (zql1_q4 Q E))

@[reducible] noncomputable def zql1_p12 : Code := sI zql1_p11

@[reducible] noncomputable def zql1_q6 (nx77 : Option Addr → Nat → Nat → Int → HP) (Q : QT) (E : ET) : Exit → Tau → Heap → Prop := (xthen (fun τ H => mSl (τ 6) fun x6' l6' c6' => mI .i64 (τ 8) fun x8' => nx77 x6' l6' c6' x8' H) (zql1_q5 Q E))

@[reducible] noncomputable def zql1_p13 : Code := sI zql1_p12

@[reducible] noncomputable def zql1_p14 : Code := sB zql1_p13

def zql1_9 (nx77 : Option Addr → Nat → Nat → Int → HP) (Q : QT) (E : ET) (x4 : OA) (x5 : OA) (l5 : Nat) (c5 : Nat) (x6 : OA) (l6 : Nat) (c6 : Nat) (x8 : Int) (H : Heap) : Prop :=
 Does Pr 49 #[(.pointer x4), (.int .i64 6)] H (fun v78 H79 =>
 ∃ n80 : Int, v78 = (.int .i64 n80) ∧ (0 ≤ (n80 : Int) ∧ (n80 : Int) < ((ByteArray.size ⟨[97, 98, 97, 98, 10, 120].toArray⟩ : Nat) : Int)) ∧ nw (.cells #[(.int .u8 (sAt ⟨[97, 98, 97, 98, 10, 120].toArray⟩ n80))] 5 (0, 0)) H79 fun i81 H82 =>
 app Pr 24 x6 l6 c6 (.slice (some ⟨i81, 0, none⟩) 1 1) H82 fun p83 l84 c85 H86 =>
 nx77 p83 l84 c85 (IntKind.wrap .i64 (x8 - 1)) H86) E

def zql1_9_M (nx77 : Option Addr → Nat → Nat → Int → HP) (Q : QT) (E : ET) (τ : Tau) (H : Heap) : Prop := mP (τ 4) fun x4 => mSl (τ 5) fun x5 l5 c5 => mSl (τ 6) fun x6 l6 c6 => mI .i64 (τ 8) fun x8 => zql1_9 nx77 Q E x4 x5 l5 c5 x6 l6 c6 x8 H

theorem zql1_10ok (nx77 : Option Addr → Nat → Nat → Int → HP) (Q : QT) (E : ET) (τ : Tau) (H : Heap) (h : zql1_9_M nx77 Q E τ H) : vc Pr zql1_p14 τ (zql1_q6 nx77 Q E) E H :=
  vP (i := 4) h (fun x4 h => vSl (i := 5) h (fun x5 l5 c5 h => vSl (i := 6) h (fun x6 l6 c6 h => vI (i := 8) h (fun x8 h => (conv (by kernel_rfl) h)))))

@[reducible] noncomputable def zql1_q7 (nx77 : Option Addr → Nat → Nat → Int → HP) (Q : QT) (E : ET) : Exit → Tau → Heap → Prop := (xthen (zql1_9_M nx77 Q E) (zql1_q6 nx77 Q E))

@[reducible] noncomputable def zql1_p15 : Code := sA zql1_p13

def zql1_11 (nx77 : Option Addr → Nat → Nat → Int → HP) (Q : QT) (E : ET) (x4 : OA) (x5 : OA) (l5 : Nat) (c5 : Nat) (x6 : OA) (l6 : Nat) (c6 : Nat) (x8 : Int) (H : Heap) : Prop :=
 sel (decide ((x8 : Int) > 0))
 (zql1_9 nx77 Q E x4 x5 l5 c5 x6 l6 c6 x8 H)
 (zql1_6 Q E x4 x5 l5 c5 x6 l6 c6 H)

def zql1_11_M (nx77 : Option Addr → Nat → Nat → Int → HP) (Q : QT) (E : ET) (τ : Tau) (H : Heap) : Prop := mP (τ 4) fun x4 => mSl (τ 5) fun x5 l5 c5 => mSl (τ 6) fun x6 l6 c6 => mI .i64 (τ 8) fun x8 => zql1_11 nx77 Q E x4 x5 l5 c5 x6 l6 c6 x8 H

theorem zql1_12ok (nx77 : Option Addr → Nat → Nat → Int → HP) (Q : QT) (E : ET) (τ : Tau) (H : Heap) (h : zql1_11_M nx77 Q E τ H) : vc Pr zql1_p15 τ (zql1_q7 nx77 Q E) E H :=
  vP (i := 4) h (fun x4 h => vSl (i := 5) h (fun x5 l5 c5 h => vSl (i := 6) h (fun x6 l6 c6 h => vI (i := 8) h (fun x8 h => (conv (by kernel_rfl) h)))))

theorem zql1_13ok (nx77 : Option Addr → Nat → Nat → Int → HP) (Q : QT) (E : ET) (τ : Tau) (H : Heap) (h : zql1_11_M nx77 Q E τ H) : vc Pr zql1_p13 τ (zql1_q6 nx77 Q E) E H :=
  (conv (B := vc Pr zql1_p13 τ (zql1_q6 nx77 Q E) E H) (by kernel_rfl) (vc_seq (K := (zql1_9_M nx77 Q E)) (zql1_12ok nx77 Q E τ H h) (zql1_10ok nx77 Q E)))

def zql1_14 (Q : QT) (E : ET) (x4 : OA) (x5 : OA) (l5 : Nat) (c5 : Nat) (x6 : OA) (l6 : Nat) (c6 : Nat) (x8 : Int) (H : Heap) : Prop :=
 ∃ (I : Option Addr → Nat → Nat → Int → HP) (μ : Option Addr → Nat → Nat → Int → Heap → Nat), I x6 l6 c6 x8 H ∧ ∀ (x6 : OA) (l6 : Nat) (c6 : Nat) (x8 : Int) (H : Heap), I x6 l6 c6 x8 H →
 zql1_11 (fun x6' l6' c6' x8' H1 => I x6' l6' c6' x8' H1 ∧ μ x6' l6' c6' x8' H1 < μ x6 l6 c6 x8 H) Q E x4 x5 l5 c5 x6 l6 c6 x8 H

def zql1_14_M (Q : QT) (E : ET) (τ : Tau) (H : Heap) : Prop := mP (τ 4) fun x4 => mSl (τ 5) fun x5 l5 c5 => mSl (τ 6) fun x6 l6 c6 => mI .i64 (τ 8) fun x8 => zql1_14 Q E x4 x5 l5 c5 x6 l6 c6 x8 H

theorem zql1_15ok (Q : QT) (E : ET) (τ : Tau) (H : Heap) (h : zql1_14_M Q E τ H) : vc Pr zql1_p12 τ (zql1_q5 Q E) E H :=
  vP (i := 4) h (fun x4 h => vSl (i := 5) h (fun x5 l5 c5 h => vSl (i := 6) h (fun x6 l6 c6 h => vI (i := 8) h (fun x8 h => match h with | ⟨I, μ, h0, hr⟩ => (conv (B := vc Pr zql1_p12 (Tau.upd (Tau.upd (Tau.upd (Tau.upd τ 4 (.pointer x4)) 5 (.slice x5 l5 c5)) 6 (.slice x6 l6 c6)) 8 (.int .i64 x8)) (zql1_q5 Q E) E H) (by kernel_rfl) (vc_loop (c := sI zql1_p12) (τ := (Tau.upd (Tau.upd (Tau.upd (Tau.upd τ 4 (.pointer x4)) 5 (.slice x5 l5 c5)) 6 (.slice x6 l6 c6)) 8 (.int .i64 x8))) [4, 5] (fun τ H => mSl (τ 6) fun x6' l6' c6' => mI .i64 (τ 8) fun x8' => I x6' l6' c6' x8' H) (fun τ H => μ (gL1 (τ 6)) (gL2 (τ 6)) (gL3 (τ 6)) (gI (τ 8)) H) (by kernel_rfl) h0 (fun τ1 H1 hf hI => fix_elim (τ := τ1) (i := 4) (v := (.pointer x4)) (G := fun τ => vc Pr (sI zql1_p12) τ (xthen (fun τ2 H2 => (mSl (τ2 6) fun x6' l6' c6' => mI .i64 (τ2 8) fun x8' => I x6' l6' c6' x8' H2) ∧ μ (gL1 (τ2 6)) (gL2 (τ2 6)) (gL3 (τ2 6)) (gI (τ2 8)) H2 < μ (gL1 (τ 6)) (gL2 (τ 6)) (gL3 (τ 6)) (gI (τ 8)) H1) (zql1_q5 Q E)) E H1) (hf 4 (by simp)) (fix_elim (τ := (Tau.upd τ1 4 (.pointer x4))) (i := 5) (v := (.slice x5 l5 c5)) (G := fun τ => vc Pr (sI zql1_p12) τ (xthen (fun τ2 H2 => (mSl (τ2 6) fun x6' l6' c6' => mI .i64 (τ2 8) fun x8' => I x6' l6' c6' x8' H2) ∧ μ (gL1 (τ2 6)) (gL2 (τ2 6)) (gL3 (τ2 6)) (gI (τ2 8)) H2 < μ (gL1 (τ 6)) (gL2 (τ 6)) (gL3 (τ 6)) (gI (τ 8)) H1) (zql1_q5 Q E)) E H1) (hf 5 (by simp)) (mSl_elim (i := 6) (G := fun τ => vc Pr (sI zql1_p12) τ (xthen (fun τ2 H2 => (mSl (τ2 6) fun x6' l6' c6' => mI .i64 (τ2 8) fun x8' => I x6' l6' c6' x8' H2) ∧ μ (gL1 (τ2 6)) (gL2 (τ2 6)) (gL3 (τ2 6)) (gI (τ2 8)) H2 < μ (gL1 (τ 6)) (gL2 (τ 6)) (gL3 (τ 6)) (gI (τ 8)) H1) (zql1_q5 Q E)) E H1) hI (fun x6r l6r c6r h => mI_elim (i := 8) (G := fun τ => vc Pr (sI zql1_p12) τ (xthen (fun τ2 H2 => (mSl (τ2 6) fun x6' l6' c6' => mI .i64 (τ2 8) fun x8' => I x6' l6' c6' x8' H2) ∧ μ (gL1 (τ2 6)) (gL2 (τ2 6)) (gL3 (τ2 6)) (gI (τ2 8)) H2 < μ (gL1 (τ 6)) (gL2 (τ 6)) (gL3 (τ 6)) (gI (τ 8)) H1) (zql1_q5 Q E)) E H1) h (fun x8r h => (conv (B := vc Pr (sI zql1_p12) (Tau.upd (Tau.upd (Tau.upd (Tau.upd τ1 4 (.pointer x4)) 5 (.slice x5 l5 c5)) 6 (.slice x6r l6r c6r)) 8 (.int .i64 x8r)) (xthen (fun τ2 H2 => (mSl (τ2 6) fun x6' l6' c6' => mI .i64 (τ2 8) fun x8' => I x6' l6' c6' x8' H2) ∧ μ (gL1 (τ2 6)) (gL2 (τ2 6)) (gL3 (τ2 6)) (gI (τ2 8)) H2 < μ (gL1 ((Tau.upd (Tau.upd (Tau.upd (Tau.upd τ1 4 (.pointer x4)) 5 (.slice x5 l5 c5)) 6 (.slice x6r l6r c6r)) 8 (.int .i64 x8r)) 6)) (gL2 ((Tau.upd (Tau.upd (Tau.upd (Tau.upd τ1 4 (.pointer x4)) 5 (.slice x5 l5 c5)) 6 (.slice x6r l6r c6r)) 8 (.int .i64 x8r)) 6)) (gL3 ((Tau.upd (Tau.upd (Tau.upd (Tau.upd τ1 4 (.pointer x4)) 5 (.slice x5 l5 c5)) 6 (.slice x6r l6r c6r)) 8 (.int .i64 x8r)) 6)) (gI ((Tau.upd (Tau.upd (Tau.upd (Tau.upd τ1 4 (.pointer x4)) 5 (.slice x5 l5 c5)) 6 (.slice x6r l6r c6r)) 8 (.int .i64 x8r)) 8)) H1) (zql1_q5 Q E)) E H1) (by kernel_rfl) (vc_xthen (zql1_13ok (fun x6' l6' c6' x8' H2 => I x6' l6' c6' x8' H2 ∧ μ x6' l6' c6' x8' H2 < μ x6r l6r c6r x8r H1) Q E (Tau.upd (Tau.upd (Tau.upd (Tau.upd τ1 4 (.pointer x4)) 5 (.slice x5 l5 c5)) 6 (.slice x6r l6r c6r)) 8 (.int .i64 x8r)) H1 (conv (B := zql1_11_M (fun x6' l6' c6' x8' H2 => I x6' l6' c6' x8' H2 ∧ μ x6' l6' c6' x8' H2 < μ x6r l6r c6r x8r H1) Q E (Tau.upd (Tau.upd (Tau.upd (Tau.upd τ1 4 (.pointer x4)) 5 (.slice x5 l5 c5)) 6 (.slice x6r l6r c6r)) 8 (.int .i64 x8r)) H1) (by kernel_rfl) (hr x6r l6r c6r x8r H1 h))) (fun τ2 H2 hk => mSl_elim (i := 6) (G := fun τ => (mSl (τ 6) fun x6' l6' c6' => mI .i64 (τ 8) fun x8' => I x6' l6' c6' x8' H2) ∧ μ (gL1 (τ 6)) (gL2 (τ 6)) (gL3 (τ 6)) (gI (τ 8)) H2 < μ x6r l6r c6r x8r H1) hk (fun x6' l6' c6' h => mI_elim (i := 8) (G := fun τ => (mSl (τ 6) fun x6' l6' c6' => mI .i64 (τ 8) fun x8' => I x6' l6' c6' x8' H2) ∧ μ (gL1 (τ 6)) (gL2 (τ 6)) (gL3 (τ 6)) (gI (τ 8)) H2 < μ x6r l6r c6r x8r H1) h (fun x8' h => h))))))))))))))))

theorem zql1_16ok (Q : QT) (E : ET) (τ : Tau) (H : Heap) (h : zql1_14_M Q E τ H) : vc Pr zql1_p11 τ (zql1_q4 Q E) E H :=
  (conv (B := vc Pr zql1_p11 τ (zql1_q4 Q E) E H) (by kernel_rfl) (zql1_15ok Q E τ H h))

@[reducible] noncomputable def zql1_q8 (Q : QT) (E : ET) : Exit → Tau → Heap → Prop := (xthen (zql1_14_M Q E) (zql1_q4 Q E))

@[reducible] noncomputable def zql1_p16 : Code := sA zql1_p10

def zql1_17 (Q : QT) (E : ET) (x4 : OA) (x5 : OA) (l5 : Nat) (c5 : Nat) (x6 : OA) (l6 : Nat) (c6 : Nat) (H : Heap) : Prop :=
 Does Pr 49 #[(.pointer x4), (.int .i64 10)] H (fun v87 H88 =>
 ∃ n89 : Int, v87 = (.int .i64 n89) ∧ zql1_14 Q E x4 x5 l5 c5 x6 l6 c6 n89 H88) E

def zql1_17_M (Q : QT) (E : ET) (τ : Tau) (H : Heap) : Prop := mP (τ 4) fun x4 => mSl (τ 5) fun x5 l5 c5 => mSl (τ 6) fun x6 l6 c6 => zql1_17 Q E x4 x5 l5 c5 x6 l6 c6 H

theorem zql1_18ok (Q : QT) (E : ET) (τ : Tau) (H : Heap) (h : zql1_17_M Q E τ H) : vc Pr zql1_p16 τ (zql1_q8 Q E) E H :=
  vP (i := 4) h (fun x4 h => vSl (i := 5) h (fun x5 l5 c5 h => vSl (i := 6) h (fun x6 l6 c6 h => (conv (by kernel_rfl) h))))

theorem zql1_19ok (Q : QT) (E : ET) (τ : Tau) (H : Heap) (h : zql1_17_M Q E τ H) : vc Pr zql1_p10 τ (zql1_q4 Q E) E H :=
  (conv (B := vc Pr zql1_p10 τ (zql1_q4 Q E) E H) (by kernel_rfl) (vc_seq (K := (zql1_14_M Q E)) (zql1_18ok Q E τ H h) (zql1_16ok Q E)))

theorem zql1_20ok (Q : QT) (E : ET) (τ : Tau) (H : Heap) (h : zql1_17_M Q E τ H) : vc Pr zql1_p4 τ (zql1_q1 Q E) E H :=
  (conv (B := vc Pr zql1_p4 τ (zql1_q1 Q E) E H) (by kernel_rfl) (vc_seq (K := (zql1_6_M Q E)) (zql1_19ok Q E τ H h) (zql1_8ok Q E)))

@[reducible] noncomputable def zql1_q9 (Q : QT) (E : ET) : Exit → Tau → Heap → Prop := (xthen (zql1_17_M Q E) (zql1_q1 Q E))

@[reducible] noncomputable def zql1_p17 : Code := sA zql1_p3

@[reducible] noncomputable def zql1_p18 : Code := sB zql1_p17

@[reducible] noncomputable def zql1_q10 (Q : QT) (E : ET) : Exit → Tau → Heap → Prop := (xblock 0 (zql1_q9 Q E))

@[reducible] noncomputable def zql1_p19 : Code := sI zql1_p18

@[reducible] noncomputable def zql1_q11 (nx93 : Option Addr → Nat → Nat → Int → HP) (Q : QT) (E : ET) : Exit → Tau → Heap → Prop := (xthen (fun τ H => mSl (τ 5) fun x5' l5' c5' => mI .i64 (τ 7) fun x7' => nx93 x5' l5' c5' x7' H) (zql1_q10 Q E))

@[reducible] noncomputable def zql1_p20 : Code := sI zql1_p19

@[reducible] noncomputable def zql1_p21 : Code := sB zql1_p20

def zql1_21 (nx93 : Option Addr → Nat → Nat → Int → HP) (Q : QT) (E : ET) (x4 : OA) (x5 : OA) (l5 : Nat) (c5 : Nat) (x6 : OA) (l6 : Nat) (c6 : Nat) (x7 : Int) (H : Heap) : Prop :=
 Does Pr 49 #[(.pointer x4), (.int .i64 14)] H (fun v94 H95 =>
 ∃ n96 : Int, v94 = (.int .i64 n96) ∧ (0 ≤ (n96 : Int) ∧ (n96 : Int) < ((ByteArray.size ⟨[97, 98, 46, 40, 42, 124, 41, 43, 63, 94, 36, 91, 98, 93].toArray⟩ : Nat) : Int)) ∧ nw (.cells #[(.int .u8 (sAt ⟨[97, 98, 46, 40, 42, 124, 41, 43, 63, 94, 36, 91, 98, 93].toArray⟩ n96))] 5 (0, 0)) H95 fun i97 H98 =>
 app Pr 24 x5 l5 c5 (.slice (some ⟨i97, 0, none⟩) 1 1) H98 fun p99 l100 c101 H102 =>
 nx93 p99 l100 c101 (IntKind.wrap .i64 (x7 - 1)) H102) E

def zql1_21_M (nx93 : Option Addr → Nat → Nat → Int → HP) (Q : QT) (E : ET) (τ : Tau) (H : Heap) : Prop := mP (τ 4) fun x4 => mSl (τ 5) fun x5 l5 c5 => mSl (τ 6) fun x6 l6 c6 => mI .i64 (τ 7) fun x7 => zql1_21 nx93 Q E x4 x5 l5 c5 x6 l6 c6 x7 H

theorem zql1_22ok (nx93 : Option Addr → Nat → Nat → Int → HP) (Q : QT) (E : ET) (τ : Tau) (H : Heap) (h : zql1_21_M nx93 Q E τ H) : vc Pr zql1_p21 τ (zql1_q11 nx93 Q E) E H :=
  vP (i := 4) h (fun x4 h => vSl (i := 5) h (fun x5 l5 c5 h => vSl (i := 6) h (fun x6 l6 c6 h => vI (i := 7) h (fun x7 h => (conv (by kernel_rfl) h)))))

@[reducible] noncomputable def zql1_q12 (nx93 : Option Addr → Nat → Nat → Int → HP) (Q : QT) (E : ET) : Exit → Tau → Heap → Prop := (xthen (zql1_21_M nx93 Q E) (zql1_q11 nx93 Q E))

@[reducible] noncomputable def zql1_p22 : Code := sA zql1_p20

def zql1_23 (nx93 : Option Addr → Nat → Nat → Int → HP) (Q : QT) (E : ET) (x4 : OA) (x5 : OA) (l5 : Nat) (c5 : Nat) (x6 : OA) (l6 : Nat) (c6 : Nat) (x7 : Int) (H : Heap) : Prop :=
 sel (decide ((x7 : Int) > 0))
 (zql1_21 nx93 Q E x4 x5 l5 c5 x6 l6 c6 x7 H)
 (zql1_17 Q E x4 x5 l5 c5 x6 l6 c6 H)

def zql1_23_M (nx93 : Option Addr → Nat → Nat → Int → HP) (Q : QT) (E : ET) (τ : Tau) (H : Heap) : Prop := mP (τ 4) fun x4 => mSl (τ 5) fun x5 l5 c5 => mSl (τ 6) fun x6 l6 c6 => mI .i64 (τ 7) fun x7 => zql1_23 nx93 Q E x4 x5 l5 c5 x6 l6 c6 x7 H

theorem zql1_24ok (nx93 : Option Addr → Nat → Nat → Int → HP) (Q : QT) (E : ET) (τ : Tau) (H : Heap) (h : zql1_23_M nx93 Q E τ H) : vc Pr zql1_p22 τ (zql1_q12 nx93 Q E) E H :=
  vP (i := 4) h (fun x4 h => vSl (i := 5) h (fun x5 l5 c5 h => vSl (i := 6) h (fun x6 l6 c6 h => vI (i := 7) h (fun x7 h => (conv (by kernel_rfl) h)))))

theorem zql1_25ok (nx93 : Option Addr → Nat → Nat → Int → HP) (Q : QT) (E : ET) (τ : Tau) (H : Heap) (h : zql1_23_M nx93 Q E τ H) : vc Pr zql1_p20 τ (zql1_q11 nx93 Q E) E H :=
  (conv (B := vc Pr zql1_p20 τ (zql1_q11 nx93 Q E) E H) (by kernel_rfl) (vc_seq (K := (zql1_21_M nx93 Q E)) (zql1_24ok nx93 Q E τ H h) (zql1_22ok nx93 Q E)))

def zql1_26 (Q : QT) (E : ET) (x4 : OA) (x6 : OA) (l6 : Nat) (c6 : Nat) (x5 : OA) (l5 : Nat) (c5 : Nat) (x7 : Int) (H : Heap) : Prop :=
 ∃ (I : Option Addr → Nat → Nat → Int → HP) (μ : Option Addr → Nat → Nat → Int → Heap → Nat), I x5 l5 c5 x7 H ∧ ∀ (x5 : OA) (l5 : Nat) (c5 : Nat) (x7 : Int) (H : Heap), I x5 l5 c5 x7 H →
 zql1_23 (fun x5' l5' c5' x7' H1 => I x5' l5' c5' x7' H1 ∧ μ x5' l5' c5' x7' H1 < μ x5 l5 c5 x7 H) Q E x4 x5 l5 c5 x6 l6 c6 x7 H

def zql1_26_M (Q : QT) (E : ET) (τ : Tau) (H : Heap) : Prop := mP (τ 4) fun x4 => mSl (τ 6) fun x6 l6 c6 => mSl (τ 5) fun x5 l5 c5 => mI .i64 (τ 7) fun x7 => zql1_26 Q E x4 x6 l6 c6 x5 l5 c5 x7 H

theorem zql1_27ok (Q : QT) (E : ET) (τ : Tau) (H : Heap) (h : zql1_26_M Q E τ H) : vc Pr zql1_p19 τ (zql1_q10 Q E) E H :=
  vP (i := 4) h (fun x4 h => vSl (i := 6) h (fun x6 l6 c6 h => vSl (i := 5) h (fun x5 l5 c5 h => vI (i := 7) h (fun x7 h => match h with | ⟨I, μ, h0, hr⟩ => (conv (B := vc Pr zql1_p19 (Tau.upd (Tau.upd (Tau.upd (Tau.upd τ 4 (.pointer x4)) 6 (.slice x6 l6 c6)) 5 (.slice x5 l5 c5)) 7 (.int .i64 x7)) (zql1_q10 Q E) E H) (by kernel_rfl) (vc_loop (c := sI zql1_p19) (τ := (Tau.upd (Tau.upd (Tau.upd (Tau.upd τ 4 (.pointer x4)) 6 (.slice x6 l6 c6)) 5 (.slice x5 l5 c5)) 7 (.int .i64 x7))) [4, 6] (fun τ H => mSl (τ 5) fun x5' l5' c5' => mI .i64 (τ 7) fun x7' => I x5' l5' c5' x7' H) (fun τ H => μ (gL1 (τ 5)) (gL2 (τ 5)) (gL3 (τ 5)) (gI (τ 7)) H) (by kernel_rfl) h0 (fun τ1 H1 hf hI => fix_elim (τ := τ1) (i := 4) (v := (.pointer x4)) (G := fun τ => vc Pr (sI zql1_p19) τ (xthen (fun τ2 H2 => (mSl (τ2 5) fun x5' l5' c5' => mI .i64 (τ2 7) fun x7' => I x5' l5' c5' x7' H2) ∧ μ (gL1 (τ2 5)) (gL2 (τ2 5)) (gL3 (τ2 5)) (gI (τ2 7)) H2 < μ (gL1 (τ 5)) (gL2 (τ 5)) (gL3 (τ 5)) (gI (τ 7)) H1) (zql1_q10 Q E)) E H1) (hf 4 (by simp)) (fix_elim (τ := (Tau.upd τ1 4 (.pointer x4))) (i := 6) (v := (.slice x6 l6 c6)) (G := fun τ => vc Pr (sI zql1_p19) τ (xthen (fun τ2 H2 => (mSl (τ2 5) fun x5' l5' c5' => mI .i64 (τ2 7) fun x7' => I x5' l5' c5' x7' H2) ∧ μ (gL1 (τ2 5)) (gL2 (τ2 5)) (gL3 (τ2 5)) (gI (τ2 7)) H2 < μ (gL1 (τ 5)) (gL2 (τ 5)) (gL3 (τ 5)) (gI (τ 7)) H1) (zql1_q10 Q E)) E H1) (hf 6 (by simp)) (mSl_elim (i := 5) (G := fun τ => vc Pr (sI zql1_p19) τ (xthen (fun τ2 H2 => (mSl (τ2 5) fun x5' l5' c5' => mI .i64 (τ2 7) fun x7' => I x5' l5' c5' x7' H2) ∧ μ (gL1 (τ2 5)) (gL2 (τ2 5)) (gL3 (τ2 5)) (gI (τ2 7)) H2 < μ (gL1 (τ 5)) (gL2 (τ 5)) (gL3 (τ 5)) (gI (τ 7)) H1) (zql1_q10 Q E)) E H1) hI (fun x5r l5r c5r h => mI_elim (i := 7) (G := fun τ => vc Pr (sI zql1_p19) τ (xthen (fun τ2 H2 => (mSl (τ2 5) fun x5' l5' c5' => mI .i64 (τ2 7) fun x7' => I x5' l5' c5' x7' H2) ∧ μ (gL1 (τ2 5)) (gL2 (τ2 5)) (gL3 (τ2 5)) (gI (τ2 7)) H2 < μ (gL1 (τ 5)) (gL2 (τ 5)) (gL3 (τ 5)) (gI (τ 7)) H1) (zql1_q10 Q E)) E H1) h (fun x7r h => (conv (B := vc Pr (sI zql1_p19) (Tau.upd (Tau.upd (Tau.upd (Tau.upd τ1 4 (.pointer x4)) 6 (.slice x6 l6 c6)) 5 (.slice x5r l5r c5r)) 7 (.int .i64 x7r)) (xthen (fun τ2 H2 => (mSl (τ2 5) fun x5' l5' c5' => mI .i64 (τ2 7) fun x7' => I x5' l5' c5' x7' H2) ∧ μ (gL1 (τ2 5)) (gL2 (τ2 5)) (gL3 (τ2 5)) (gI (τ2 7)) H2 < μ (gL1 ((Tau.upd (Tau.upd (Tau.upd (Tau.upd τ1 4 (.pointer x4)) 6 (.slice x6 l6 c6)) 5 (.slice x5r l5r c5r)) 7 (.int .i64 x7r)) 5)) (gL2 ((Tau.upd (Tau.upd (Tau.upd (Tau.upd τ1 4 (.pointer x4)) 6 (.slice x6 l6 c6)) 5 (.slice x5r l5r c5r)) 7 (.int .i64 x7r)) 5)) (gL3 ((Tau.upd (Tau.upd (Tau.upd (Tau.upd τ1 4 (.pointer x4)) 6 (.slice x6 l6 c6)) 5 (.slice x5r l5r c5r)) 7 (.int .i64 x7r)) 5)) (gI ((Tau.upd (Tau.upd (Tau.upd (Tau.upd τ1 4 (.pointer x4)) 6 (.slice x6 l6 c6)) 5 (.slice x5r l5r c5r)) 7 (.int .i64 x7r)) 7)) H1) (zql1_q10 Q E)) E H1) (by kernel_rfl) (vc_xthen (zql1_25ok (fun x5' l5' c5' x7' H2 => I x5' l5' c5' x7' H2 ∧ μ x5' l5' c5' x7' H2 < μ x5r l5r c5r x7r H1) Q E (Tau.upd (Tau.upd (Tau.upd (Tau.upd τ1 4 (.pointer x4)) 6 (.slice x6 l6 c6)) 5 (.slice x5r l5r c5r)) 7 (.int .i64 x7r)) H1 (conv (B := zql1_23_M (fun x5' l5' c5' x7' H2 => I x5' l5' c5' x7' H2 ∧ μ x5' l5' c5' x7' H2 < μ x5r l5r c5r x7r H1) Q E (Tau.upd (Tau.upd (Tau.upd (Tau.upd τ1 4 (.pointer x4)) 6 (.slice x6 l6 c6)) 5 (.slice x5r l5r c5r)) 7 (.int .i64 x7r)) H1) (by kernel_rfl) (hr x5r l5r c5r x7r H1 h))) (fun τ2 H2 hk => mSl_elim (i := 5) (G := fun τ => (mSl (τ 5) fun x5' l5' c5' => mI .i64 (τ 7) fun x7' => I x5' l5' c5' x7' H2) ∧ μ (gL1 (τ 5)) (gL2 (τ 5)) (gL3 (τ 5)) (gI (τ 7)) H2 < μ x5r l5r c5r x7r H1) hk (fun x5' l5' c5' h => mI_elim (i := 7) (G := fun τ => (mSl (τ 5) fun x5' l5' c5' => mI .i64 (τ 7) fun x7' => I x5' l5' c5' x7' H2) ∧ μ (gL1 (τ 5)) (gL2 (τ 5)) (gL3 (τ 5)) (gI (τ 7)) H2 < μ x5r l5r c5r x7r H1) h (fun x7' h => h))))))))))))))))

theorem zql1_28ok (Q : QT) (E : ET) (τ : Tau) (H : Heap) (h : zql1_26_M Q E τ H) : vc Pr zql1_p18 τ (zql1_q9 Q E) E H :=
  (conv (B := vc Pr zql1_p18 τ (zql1_q9 Q E) E H) (by kernel_rfl) (zql1_27ok Q E τ H h))

@[reducible] noncomputable def zql1_q13 (Q : QT) (E : ET) : Exit → Tau → Heap → Prop := (xthen (zql1_26_M Q E) (zql1_q9 Q E))

@[reducible] noncomputable def zql1_p23 : Code := sA zql1_p17

def zql1_29 (Q : QT) (E : ET) (x4 : OA) (x5 : OA) (l5 : Nat) (c5 : Nat) (x6 : OA) (l6 : Nat) (c6 : Nat) (H : Heap) : Prop :=
 Does Pr 48 #[(.pointer x4), (.int .i64 1), (.int .i64 14)] H (fun v103 H104 =>
 ∃ n105 : Int, v103 = (.int .i64 n105) ∧ zql1_26 Q E x4 x6 l6 c6 x5 l5 c5 n105 H104) E

def zql1_29_M (Q : QT) (E : ET) (τ : Tau) (H : Heap) : Prop := mP (τ 4) fun x4 => mSl (τ 5) fun x5 l5 c5 => mSl (τ 6) fun x6 l6 c6 => zql1_29 Q E x4 x5 l5 c5 x6 l6 c6 H

theorem zql1_30ok (Q : QT) (E : ET) (τ : Tau) (H : Heap) (h : zql1_29_M Q E τ H) : vc Pr zql1_p23 τ (zql1_q13 Q E) E H :=
  vP (i := 4) h (fun x4 h => vSl (i := 5) h (fun x5 l5 c5 h => vSl (i := 6) h (fun x6 l6 c6 h => (conv (by kernel_rfl) h))))

theorem zql1_31ok (Q : QT) (E : ET) (τ : Tau) (H : Heap) (h : zql1_29_M Q E τ H) : vc Pr zql1_p17 τ (zql1_q9 Q E) E H :=
  (conv (B := vc Pr zql1_p17 τ (zql1_q9 Q E) E H) (by kernel_rfl) (vc_seq (K := (zql1_26_M Q E)) (zql1_30ok Q E τ H h) (zql1_28ok Q E)))

theorem zql1_32ok (Q : QT) (E : ET) (τ : Tau) (H : Heap) (h : zql1_29_M Q E τ H) : vc Pr zql1_p3 τ (zql1_q1 Q E) E H :=
  (conv (B := vc Pr zql1_p3 τ (zql1_q1 Q E) E H) (by kernel_rfl) (vc_seq (K := (zql1_17_M Q E)) (zql1_31ok Q E τ H h) (zql1_20ok Q E)))

@[reducible] noncomputable def zql1_q14 (Q : QT) (E : ET) : Exit → Tau → Heap → Prop := (xthen (zql1_29_M Q E) (zql1_q1 Q E))

@[reducible] noncomputable def zql1_p24 : Code := sA zql1_p2

def zql1_33 (Q : QT) (E : ET) (x4 : OA) (H : Heap) : Prop :=
 zql1_29 Q E x4 none 0 0 none 0 0 H

def zql1_33_M (Q : QT) (E : ET) (τ : Tau) (H : Heap) : Prop := mP (τ 4) fun x4 => zql1_33 Q E x4 H

theorem zql1_34ok (Q : QT) (E : ET) (τ : Tau) (H : Heap) (h : zql1_33_M Q E τ H) : vc Pr zql1_p24 τ (zql1_q14 Q E) E H :=
  vP (i := 4) h (fun x4 h => (conv (by kernel_rfl) h))

theorem zql1_35ok (Q : QT) (E : ET) (τ : Tau) (H : Heap) (h : zql1_33_M Q E τ H) : vc Pr zql1_p2 τ (zql1_q1 Q E) E H :=
  (conv (B := vc Pr zql1_p2 τ (zql1_q1 Q E) E H) (by kernel_rfl) (vc_seq (K := (zql1_29_M Q E)) (zql1_34ok Q E τ H h) (zql1_32ok Q E)))

@[reducible] noncomputable def zql1_q15 (Q : QT) (E : ET) : Exit → Tau → Heap → Prop := (xthen (zql1_33_M Q E) (zql1_q1 Q E))

@[reducible] noncomputable def zql1_p25 : Code := sA zql1_p1

def zql1_36 (Q : QT) (E : ET) (x0 : OA) (l0 : Nat) (c0 : Nat) (H : Heap) : Prop :=
 Does Pr 47 #[(.slice x0 l0 c0)] H (fun v106 H107 =>
 ∃ p108 : Option Addr, v106 = (.pointer p108) ∧ zql1_33 Q E p108 H107) E

def zql1_36_M (Q : QT) (E : ET) (τ : Tau) (H : Heap) : Prop := mSl (τ 0) fun x0 l0 c0 => zql1_36 Q E x0 l0 c0 H

theorem zql1_37ok (Q : QT) (E : ET) (τ : Tau) (H : Heap) (h : zql1_36_M Q E τ H) : vc Pr zql1_p25 τ (zql1_q15 Q E) E H :=
  vSl (i := 0) h (fun x0 l0 c0 h => (conv (by kernel_rfl) h))

theorem zql1_38ok (Q : QT) (E : ET) (τ : Tau) (H : Heap) (h : zql1_36_M Q E τ H) : vc Pr zql1_p1 τ (zql1_q1 Q E) E H :=
  (conv (B := vc Pr zql1_p1 τ (zql1_q1 Q E) E H) (by kernel_rfl) (vc_seq (K := (zql1_33_M Q E)) (zql1_37ok Q E τ H h) (zql1_35ok Q E)))

@[reducible] noncomputable def zql1_q16 (Q : QT) (E : ET) : Exit → Tau → Heap → Prop := (xthen (zql1_36_M Q E) (zql1_q1 Q E))

@[reducible] noncomputable def zql1_p26 : Code := sA zql1_p0

def zql1 (Q : QT) (E : ET) (a0 : OA) (a0l : Nat) (a0c : Nat) (H : Heap) : Prop :=
 zql1_36 Q E a0 a0l a0c H

theorem zql1_fn (a0 : OA) (a0l : Nat) (a0c : Nat) (Q : QT) (E : ET) (H : Heap) (h : zql1 Q E a0 a0l a0c H)   : Does Pr 18 #[(.slice a0 a0l a0c)] H Q E :=
  Fn_of_vc (fn := Try.f18) (c := zql1_p0) (args := [(.slice a0 a0l a0c)]) mixed (by kernel_rfl) (by kernel_rfl) (by kernel_rfl) (by kernel_rfl) (by kernel_rfl) ((conv (B := vc Pr zql1_p0 (argT [(.slice a0 a0l a0c)]) (zql1_q1 Q E) E H) (by kernel_rfl) (vc_seq (K := (zql1_36_M Q E)) (conv (B := vc Pr zql1_p26 (argT [(.slice a0 a0l a0c)]) (zql1_q16 Q E) E H) (by kernel_rfl) h) (zql1_38ok Q E))))

/-! jobmux/jobmuxlaw09.same -/
@[reducible] noncomputable def zqm1_q1 (Q : QT) (E : ET) : Exit → Tau → Heap → Prop := (retQ Pr (Try.f26).results.toList Q)

@[reducible] noncomputable def zqm1_p0 : Code := bodyOf Try.f26

@[reducible] noncomputable def zqm1_p1 : Code := sB zqm1_p0

@[reducible] noncomputable def zqm1_p2 : Code := sB zqm1_p1

@[reducible] noncomputable def zqm1_p3 : Code := sB zqm1_p2

def zqm1_1 (Q : QT) (E : ET)  (H : Heap) : Prop :=
 Q (.bool true) H

def zqm1_1_M (Q : QT) (E : ET) (τ : Tau) (H : Heap) : Prop := zqm1_1 Q E  H

theorem zqm1_2ok (Q : QT) (E : ET) (τ : Tau) (H : Heap) (h : zqm1_1_M Q E τ H) : vc Pr zqm1_p3 τ (zqm1_q1 Q E) E H :=
  (conv (B := vc Pr zqm1_p3 τ (zqm1_q1 Q E) E H) (by kernel_rfl) h)

@[reducible] noncomputable def zqm1_q2 (Q : QT) (E : ET) : Exit → Tau → Heap → Prop := (xthen (zqm1_1_M Q E) (zqm1_q1 Q E))

@[reducible] noncomputable def zqm1_p4 : Code := sA zqm1_p2

@[reducible] noncomputable def zqm1_p5 : Code := sB zqm1_p4

@[reducible] noncomputable def zqm1_q3 (Q : QT) (E : ET) : Exit → Tau → Heap → Prop := (xblock 0 (zqm1_q2 Q E))

@[reducible] noncomputable def zqm1_p6 : Code := sI zqm1_p5

@[reducible] noncomputable def zqm1_q4 (nx5 : Int → HP) (Q : QT) (E : ET) : Exit → Tau → Heap → Prop := (xthen (fun τ H => mI .i64 (τ 13) fun x13' => nx5 x13' H) (zqm1_q3 Q E))

@[reducible] noncomputable def zqm1_p7 : Code := sI zqm1_p6

@[reducible] noncomputable def zqm1_p8 : Code := sB zqm1_p7

@[reducible] noncomputable def zqm1_p9 : Code := sB zqm1_p8

@[reducible] noncomputable def zqm1_p10 : Code := sB zqm1_p9

def zqm1_3 (nx5 : Int → HP) (Q : QT) (E : ET) (x0 : OA) (l0 : Nat) (c0 : Nat) (x1 : OA) (l1 : Nat) (c1 : Nat) (x12 : Int) (x13 : Int) (H : Heap) : Prop :=
 nx5 (IntKind.wrap .i64 (x13 + 1)) H

def zqm1_3_M (nx5 : Int → HP) (Q : QT) (E : ET) (τ : Tau) (H : Heap) : Prop := mSl (τ 0) fun x0 l0 c0 => mSl (τ 1) fun x1 l1 c1 => mI .i64 (τ 12) fun x12 => mI .i64 (τ 13) fun x13 => zqm1_3 nx5 Q E x0 l0 c0 x1 l1 c1 x12 x13 H

theorem zqm1_4ok (nx5 : Int → HP) (Q : QT) (E : ET) (τ : Tau) (H : Heap) (h : zqm1_3_M nx5 Q E τ H) : vc Pr zqm1_p10 τ (zqm1_q4 nx5 Q E) E H :=
  vSl (i := 0) h (fun x0 l0 c0 h => vSl (i := 1) h (fun x1 l1 c1 h => vI (i := 12) h (fun x12 h => vI (i := 13) h (fun x13 h => (conv (by kernel_rfl) h)))))

@[reducible] noncomputable def zqm1_q5 (nx5 : Int → HP) (Q : QT) (E : ET) : Exit → Tau → Heap → Prop := (xthen (zqm1_3_M nx5 Q E) (zqm1_q4 nx5 Q E))

@[reducible] noncomputable def zqm1_p11 : Code := sA zqm1_p9

def zqm1_5 (nx5 : Int → HP) (Q : QT) (E : ET) (x0 : OA) (l0 : Nat) (c0 : Nat) (x1 : OA) (l1 : Nat) (c1 : Nat) (x12 : Int) (x13 : Int) (H : Heap) : Prop :=
 (0 ≤ (x13 : Int) ∧ (x13 : Int) < ((l0 : Nat) : Int)) ∧ ptr x0 fun q10 =>
 ldI .i64 (Addr.add q10 ((x13 : Int).toNat * 1)) H fun n11 =>
 (0 ≤ (x13 : Int) ∧ (x13 : Int) < ((l1 : Nat) : Int)) ∧ ptr x1 fun q12 =>
 ldI .i64 (Addr.add q12 ((x13 : Int).toNat * 1)) H fun n13 =>
 sel ((n11 : Int) != n13)
 (Q (.bool false) H)
 (zqm1_3 nx5 Q E x0 l0 c0 x1 l1 c1 x12 x13 H)

def zqm1_5_M (nx5 : Int → HP) (Q : QT) (E : ET) (τ : Tau) (H : Heap) : Prop := mSl (τ 0) fun x0 l0 c0 => mSl (τ 1) fun x1 l1 c1 => mI .i64 (τ 12) fun x12 => mI .i64 (τ 13) fun x13 => zqm1_5 nx5 Q E x0 l0 c0 x1 l1 c1 x12 x13 H

theorem zqm1_6ok (nx5 : Int → HP) (Q : QT) (E : ET) (τ : Tau) (H : Heap) (h : zqm1_5_M nx5 Q E τ H) : vc Pr zqm1_p11 τ (zqm1_q5 nx5 Q E) E H :=
  vSl (i := 0) h (fun x0 l0 c0 h => vSl (i := 1) h (fun x1 l1 c1 h => vI (i := 12) h (fun x12 h => vI (i := 13) h (fun x13 h => (conv (by kernel_rfl) h)))))

theorem zqm1_7ok (nx5 : Int → HP) (Q : QT) (E : ET) (τ : Tau) (H : Heap) (h : zqm1_5_M nx5 Q E τ H) : vc Pr zqm1_p9 τ (zqm1_q4 nx5 Q E) E H :=
  (conv (B := vc Pr zqm1_p9 τ (zqm1_q4 nx5 Q E) E H) (by kernel_rfl) (vc_seq (K := (zqm1_3_M nx5 Q E)) (zqm1_6ok nx5 Q E τ H h) (zqm1_4ok nx5 Q E)))

@[reducible] noncomputable def zqm1_q6 (nx5 : Int → HP) (Q : QT) (E : ET) : Exit → Tau → Heap → Prop := (xthen (zqm1_5_M nx5 Q E) (zqm1_q4 nx5 Q E))

@[reducible] noncomputable def zqm1_p12 : Code := sA zqm1_p8

def zqm1_8 (nx5 : Int → HP) (Q : QT) (E : ET) (x0 : OA) (l0 : Nat) (c0 : Nat) (x1 : OA) (l1 : Nat) (c1 : Nat) (x12 : Int) (x13 : Int) (x14 : Bool) (H : Heap) : Prop :=
 sel x14
 (zqm1_5 nx5 Q E x0 l0 c0 x1 l1 c1 x12 x13 H)
 (zqm1_1 Q E  H)

def zqm1_8_M (nx5 : Int → HP) (Q : QT) (E : ET) (τ : Tau) (H : Heap) : Prop := mSl (τ 0) fun x0 l0 c0 => mSl (τ 1) fun x1 l1 c1 => mI .i64 (τ 12) fun x12 => mI .i64 (τ 13) fun x13 => mB (τ 14) fun x14 => zqm1_8 nx5 Q E x0 l0 c0 x1 l1 c1 x12 x13 x14 H

theorem zqm1_9ok (nx5 : Int → HP) (Q : QT) (E : ET) (τ : Tau) (H : Heap) (h : zqm1_8_M nx5 Q E τ H) : vc Pr zqm1_p12 τ (zqm1_q6 nx5 Q E) E H :=
  vSl (i := 0) h (fun x0 l0 c0 h => vSl (i := 1) h (fun x1 l1 c1 h => vI (i := 12) h (fun x12 h => vI (i := 13) h (fun x13 h => vB (i := 14) h (fun x14 h => (conv (by kernel_rfl) h))))))

theorem zqm1_10ok (nx5 : Int → HP) (Q : QT) (E : ET) (τ : Tau) (H : Heap) (h : zqm1_8_M nx5 Q E τ H) : vc Pr zqm1_p8 τ (zqm1_q4 nx5 Q E) E H :=
  (conv (B := vc Pr zqm1_p8 τ (zqm1_q4 nx5 Q E) E H) (by kernel_rfl) (vc_seq (K := (zqm1_5_M nx5 Q E)) (zqm1_9ok nx5 Q E τ H h) (zqm1_7ok nx5 Q E)))

@[reducible] noncomputable def zqm1_q7 (nx5 : Int → HP) (Q : QT) (E : ET) : Exit → Tau → Heap → Prop := (xthen (zqm1_8_M nx5 Q E) (zqm1_q4 nx5 Q E))

@[reducible] noncomputable def zqm1_p13 : Code := sA zqm1_p7

def zqm1_11 (nx5 : Int → HP) (Q : QT) (E : ET) (x0 : OA) (l0 : Nat) (c0 : Nat) (x1 : OA) (l1 : Nat) (c1 : Nat) (x12 : Int) (x13 : Int) (H : Heap) : Prop :=
 zqm1_8 nx5 Q E x0 l0 c0 x1 l1 c1 x12 x13 (decide ((x13 : Int) < x12)) H

def zqm1_11_M (nx5 : Int → HP) (Q : QT) (E : ET) (τ : Tau) (H : Heap) : Prop := mSl (τ 0) fun x0 l0 c0 => mSl (τ 1) fun x1 l1 c1 => mI .i64 (τ 12) fun x12 => mI .i64 (τ 13) fun x13 => zqm1_11 nx5 Q E x0 l0 c0 x1 l1 c1 x12 x13 H

theorem zqm1_12ok (nx5 : Int → HP) (Q : QT) (E : ET) (τ : Tau) (H : Heap) (h : zqm1_11_M nx5 Q E τ H) : vc Pr zqm1_p13 τ (zqm1_q7 nx5 Q E) E H :=
  vSl (i := 0) h (fun x0 l0 c0 h => vSl (i := 1) h (fun x1 l1 c1 h => vI (i := 12) h (fun x12 h => vI (i := 13) h (fun x13 h => (conv (by kernel_rfl) h)))))

theorem zqm1_13ok (nx5 : Int → HP) (Q : QT) (E : ET) (τ : Tau) (H : Heap) (h : zqm1_11_M nx5 Q E τ H) : vc Pr zqm1_p7 τ (zqm1_q4 nx5 Q E) E H :=
  (conv (B := vc Pr zqm1_p7 τ (zqm1_q4 nx5 Q E) E H) (by kernel_rfl) (vc_seq (K := (zqm1_8_M nx5 Q E)) (zqm1_12ok nx5 Q E τ H h) (zqm1_10ok nx5 Q E)))

def zqm1_14 (Q : QT) (E : ET) (x0 : OA) (l0 : Nat) (c0 : Nat) (x1 : OA) (l1 : Nat) (c1 : Nat) (x12 : Int) (x13 : Int) (H : Heap) : Prop :=
 ∃ (I : Int → HP) (μ : Int → Heap → Nat), I x13 H ∧ ∀ (x13 : Int) (H : Heap), I x13 H →
 zqm1_11 (fun x13' H1 => I x13' H1 ∧ μ x13' H1 < μ x13 H) Q E x0 l0 c0 x1 l1 c1 x12 x13 H

def zqm1_14_M (Q : QT) (E : ET) (τ : Tau) (H : Heap) : Prop := mSl (τ 0) fun x0 l0 c0 => mSl (τ 1) fun x1 l1 c1 => mI .i64 (τ 12) fun x12 => mI .i64 (τ 13) fun x13 => zqm1_14 Q E x0 l0 c0 x1 l1 c1 x12 x13 H

theorem zqm1_15ok (Q : QT) (E : ET) (τ : Tau) (H : Heap) (h : zqm1_14_M Q E τ H) : vc Pr zqm1_p6 τ (zqm1_q3 Q E) E H :=
  vSl (i := 0) h (fun x0 l0 c0 h => vSl (i := 1) h (fun x1 l1 c1 h => vI (i := 12) h (fun x12 h => vI (i := 13) h (fun x13 h => match h with | ⟨I, μ, h0, hr⟩ => (conv (B := vc Pr zqm1_p6 (Tau.upd (Tau.upd (Tau.upd (Tau.upd τ 0 (.slice x0 l0 c0)) 1 (.slice x1 l1 c1)) 12 (.int .i64 x12)) 13 (.int .i64 x13)) (zqm1_q3 Q E) E H) (by kernel_rfl) (vc_loop (c := sI zqm1_p6) (τ := (Tau.upd (Tau.upd (Tau.upd (Tau.upd τ 0 (.slice x0 l0 c0)) 1 (.slice x1 l1 c1)) 12 (.int .i64 x12)) 13 (.int .i64 x13))) [0, 1, 12] (fun τ H => mI .i64 (τ 13) fun x13' => I x13' H) (fun τ H => μ (gI (τ 13)) H) (by kernel_rfl) h0 (fun τ1 H1 hf hI => fix_elim (τ := τ1) (i := 0) (v := (.slice x0 l0 c0)) (G := fun τ => vc Pr (sI zqm1_p6) τ (xthen (fun τ2 H2 => (mI .i64 (τ2 13) fun x13' => I x13' H2) ∧ μ (gI (τ2 13)) H2 < μ (gI (τ 13)) H1) (zqm1_q3 Q E)) E H1) (hf 0 (by simp)) (fix_elim (τ := (Tau.upd τ1 0 (.slice x0 l0 c0))) (i := 1) (v := (.slice x1 l1 c1)) (G := fun τ => vc Pr (sI zqm1_p6) τ (xthen (fun τ2 H2 => (mI .i64 (τ2 13) fun x13' => I x13' H2) ∧ μ (gI (τ2 13)) H2 < μ (gI (τ 13)) H1) (zqm1_q3 Q E)) E H1) (hf 1 (by simp)) (fix_elim (τ := (Tau.upd (Tau.upd τ1 0 (.slice x0 l0 c0)) 1 (.slice x1 l1 c1))) (i := 12) (v := (.int .i64 x12)) (G := fun τ => vc Pr (sI zqm1_p6) τ (xthen (fun τ2 H2 => (mI .i64 (τ2 13) fun x13' => I x13' H2) ∧ μ (gI (τ2 13)) H2 < μ (gI (τ 13)) H1) (zqm1_q3 Q E)) E H1) (hf 12 (by simp)) (mI_elim (i := 13) (G := fun τ => vc Pr (sI zqm1_p6) τ (xthen (fun τ2 H2 => (mI .i64 (τ2 13) fun x13' => I x13' H2) ∧ μ (gI (τ2 13)) H2 < μ (gI (τ 13)) H1) (zqm1_q3 Q E)) E H1) hI (fun x13r h => (conv (B := vc Pr (sI zqm1_p6) (Tau.upd (Tau.upd (Tau.upd (Tau.upd τ1 0 (.slice x0 l0 c0)) 1 (.slice x1 l1 c1)) 12 (.int .i64 x12)) 13 (.int .i64 x13r)) (xthen (fun τ2 H2 => (mI .i64 (τ2 13) fun x13' => I x13' H2) ∧ μ (gI (τ2 13)) H2 < μ (gI ((Tau.upd (Tau.upd (Tau.upd (Tau.upd τ1 0 (.slice x0 l0 c0)) 1 (.slice x1 l1 c1)) 12 (.int .i64 x12)) 13 (.int .i64 x13r)) 13)) H1) (zqm1_q3 Q E)) E H1) (by kernel_rfl) (vc_xthen (zqm1_13ok (fun x13' H2 => I x13' H2 ∧ μ x13' H2 < μ x13r H1) Q E (Tau.upd (Tau.upd (Tau.upd (Tau.upd τ1 0 (.slice x0 l0 c0)) 1 (.slice x1 l1 c1)) 12 (.int .i64 x12)) 13 (.int .i64 x13r)) H1 (conv (B := zqm1_11_M (fun x13' H2 => I x13' H2 ∧ μ x13' H2 < μ x13r H1) Q E (Tau.upd (Tau.upd (Tau.upd (Tau.upd τ1 0 (.slice x0 l0 c0)) 1 (.slice x1 l1 c1)) 12 (.int .i64 x12)) 13 (.int .i64 x13r)) H1) (by kernel_rfl) (hr x13r H1 h))) (fun τ2 H2 hk => mI_elim (i := 13) (G := fun τ => (mI .i64 (τ 13) fun x13' => I x13' H2) ∧ μ (gI (τ 13)) H2 < μ x13r H1) hk (fun x13' h => h)))))))))))))))

theorem zqm1_16ok (Q : QT) (E : ET) (τ : Tau) (H : Heap) (h : zqm1_14_M Q E τ H) : vc Pr zqm1_p5 τ (zqm1_q2 Q E) E H :=
  (conv (B := vc Pr zqm1_p5 τ (zqm1_q2 Q E) E H) (by kernel_rfl) (zqm1_15ok Q E τ H h))

@[reducible] noncomputable def zqm1_q8 (Q : QT) (E : ET) : Exit → Tau → Heap → Prop := (xthen (zqm1_14_M Q E) (zqm1_q2 Q E))

@[reducible] noncomputable def zqm1_p14 : Code := sA zqm1_p4

def zqm1_17 (Q : QT) (E : ET) (x0 : OA) (l0 : Nat) (c0 : Nat) (x1 : OA) (l1 : Nat) (c1 : Nat) (H : Heap) : Prop :=
 zqm1_14 Q E x0 l0 c0 x1 l1 c1 ((l0 : Nat) : Int) 0 H

def zqm1_17_M (Q : QT) (E : ET) (τ : Tau) (H : Heap) : Prop := mSl (τ 0) fun x0 l0 c0 => mSl (τ 1) fun x1 l1 c1 => zqm1_17 Q E x0 l0 c0 x1 l1 c1 H

theorem zqm1_18ok (Q : QT) (E : ET) (τ : Tau) (H : Heap) (h : zqm1_17_M Q E τ H) : vc Pr zqm1_p14 τ (zqm1_q8 Q E) E H :=
  vSl (i := 0) h (fun x0 l0 c0 h => vSl (i := 1) h (fun x1 l1 c1 h => (conv (by kernel_rfl) h)))

theorem zqm1_19ok (Q : QT) (E : ET) (τ : Tau) (H : Heap) (h : zqm1_17_M Q E τ H) : vc Pr zqm1_p4 τ (zqm1_q2 Q E) E H :=
  (conv (B := vc Pr zqm1_p4 τ (zqm1_q2 Q E) E H) (by kernel_rfl) (vc_seq (K := (zqm1_14_M Q E)) (zqm1_18ok Q E τ H h) (zqm1_16ok Q E)))

theorem zqm1_20ok (Q : QT) (E : ET) (τ : Tau) (H : Heap) (h : zqm1_17_M Q E τ H) : vc Pr zqm1_p2 τ (zqm1_q1 Q E) E H :=
  (conv (B := vc Pr zqm1_p2 τ (zqm1_q1 Q E) E H) (by kernel_rfl) (vc_seq (K := (zqm1_1_M Q E)) (zqm1_19ok Q E τ H h) (zqm1_2ok Q E)))

@[reducible] noncomputable def zqm1_q9 (Q : QT) (E : ET) : Exit → Tau → Heap → Prop := (xthen (zqm1_17_M Q E) (zqm1_q1 Q E))

@[reducible] noncomputable def zqm1_p15 : Code := sA zqm1_p1

def zqm1_21 (Q : QT) (E : ET) (x0 : OA) (l0 : Nat) (c0 : Nat) (x1 : OA) (l1 : Nat) (c1 : Nat) (H : Heap) : Prop :=
 sel ((((l0 : Nat) : Int) : Int) != ((l1 : Nat) : Int))
 (Q (.bool false) H)
 (zqm1_17 Q E x0 l0 c0 x1 l1 c1 H)

def zqm1_21_M (Q : QT) (E : ET) (τ : Tau) (H : Heap) : Prop := mSl (τ 0) fun x0 l0 c0 => mSl (τ 1) fun x1 l1 c1 => zqm1_21 Q E x0 l0 c0 x1 l1 c1 H

theorem zqm1_22ok (Q : QT) (E : ET) (τ : Tau) (H : Heap) (h : zqm1_21_M Q E τ H) : vc Pr zqm1_p15 τ (zqm1_q9 Q E) E H :=
  vSl (i := 0) h (fun x0 l0 c0 h => vSl (i := 1) h (fun x1 l1 c1 h => (conv (by kernel_rfl) h)))

theorem zqm1_23ok (Q : QT) (E : ET) (τ : Tau) (H : Heap) (h : zqm1_21_M Q E τ H) : vc Pr zqm1_p1 τ (zqm1_q1 Q E) E H :=
  (conv (B := vc Pr zqm1_p1 τ (zqm1_q1 Q E) E H) (by kernel_rfl) (vc_seq (K := (zqm1_17_M Q E)) (zqm1_22ok Q E τ H h) (zqm1_20ok Q E)))

@[reducible] noncomputable def zqm1_q10 (Q : QT) (E : ET) : Exit → Tau → Heap → Prop := (xthen (zqm1_21_M Q E) (zqm1_q1 Q E))

@[reducible] noncomputable def zqm1_p16 : Code := sA zqm1_p0

def zqm1 (Q : QT) (E : ET) (a0 : OA) (a0l : Nat) (a0c : Nat) (a1 : OA) (a1l : Nat) (a1c : Nat) (H : Heap) : Prop :=
 zqm1_21 Q E a0 a0l a0c a1 a1l a1c H

theorem zqm1_fn (a0 : OA) (a0l : Nat) (a0c : Nat) (a1 : OA) (a1l : Nat) (a1c : Nat) (Q : QT) (E : ET) (H : Heap) (h : zqm1 Q E a0 a0l a0c a1 a1l a1c H)   : Does Pr 26 #[(.slice a0 a0l a0c), (.slice a1 a1l a1c)] H Q E :=
  Fn_of_vc (fn := Try.f26) (c := zqm1_p0) (args := [(.slice a0 a0l a0c), (.slice a1 a1l a1c)]) mixed (by kernel_rfl) (by kernel_rfl) (by kernel_rfl) (by kernel_rfl) (by kernel_rfl) ((conv (B := vc Pr zqm1_p0 (argT [(.slice a0 a0l a0c), (.slice a1 a1l a1c)]) (zqm1_q1 Q E) E H) (by kernel_rfl) (vc_seq (K := (zqm1_21_M Q E)) (conv (B := vc Pr zqm1_p16 (argT [(.slice a0 a0l a0c), (.slice a1 a1l a1c)]) (zqm1_q10 Q E) E H) (by kernel_rfl) h) (zqm1_23ok Q E))))

end Go.Proofs.Ytaffcoiomggpfaa
