import Derived.Test.YtaffcoiomggpfaaVPr
/- Printed by gen.py: the Go functions of package l10 over a heap view, and that the model does so. -/
namespace Go.Proofs.Ytaffcoiomggpfaa
open Go.V
set_option linter.unusedVariables false
set_option maxRecDepth 100000
variable (Q : QT) (E : ET)
/-! jobmux/jobmuxlaw10.NfaAgrees -/
noncomputable def zqf1_q1 (Q : QT) (E : ET) : XT := (retQ Pr (Try.f9).results.toList Q)

noncomputable def zqf1_p1 : Code := sB (bodyOf Try.f9)

def zqf1_1 (Q : QT) (E : ET) (x0 : OA) (l0 c0 : Nat) (x1 : OA) (l1 c1 : Nat) (H : Heap) : Prop :=
 Does Pr 32 #[(.slice x0 l0 c0)] H (fun v4 H5 =>
 ∃ (p6 : OA) (l7 c8 : Nat), ∃ (p9 : OA) (l10 c11 : Nat), v4 = (.tuple #[(.slice p6 l7 c8), (.slice p9 l10 c11)]) ∧ Does Pr 33 #[(.slice p6 l7 c8)] H5 (fun v12 H13 =>
 ∃ (p14 : OA) (l15 c16 : Nat), ∃ n17 : Int, v12 = (.tuple #[(.slice p14 l15 c16), (.int .i64 n17)]) ∧ sel (n17 == 0)
 (sel (decide (((l15 : Int) : Int) ≤ (IntKind.wrap .i64 ((IntKind.wrap .i64 (2 * (l7 : Int))) + 1))))
 (Does Pr 34 #[(.slice p14 l15 c16)] H13 (fun v18 H19 =>
 ∃ b20 : Bool, v18 = (.bool b20) ∧ sel b20
 (Does Pr 35 #[(.slice p14 l15 c16), (.slice p9 l10 c11)] H19 (fun v21 H22 =>
 ∃ n23 : Int, v21 = (.int .i64 n23) ∧ Does Pr 20 #[(.slice p6 l7 c8), (.slice p9 l10 c11)] H22 (fun v24 H25 =>
 ∃ n26 : Int, v24 = (.int .i64 n26) ∧ sel (n23 == n26)
 (Does Pr 35 #[(.slice p14 l15 c16), (.slice x1 l1 c1)] H25 (fun v27 H28 =>
 ∃ n29 : Int, v27 = (.int .i64 n29) ∧ Does Pr 20 #[(.slice p6 l7 c8), (.slice x1 l1 c1)] H28 (fun v30 H31 =>
 ∃ n32 : Int, v30 = (.int .i64 n32) ∧ Q (.bool (n29 == n32)) H31) E) E)
 (Q (.bool false) H25)) E) E)
 (Q (.bool false) H19)) E)
 (Q (.bool false) H13))
 (Q (.bool false) H13)) E) E

def zqf1_1_M  (τ : Tau) (H : Heap) : Prop := mSl (τ 0) fun x0 l0 c0 => mSl (τ 1) fun x1 l1 c1 => zqf1_1 Q E x0 l0 c0 x1 l1 c1 H

theorem zqf1_2ok  : Ok Pr (zqf1_1_M Q E) (sB (sB zqf1_p1)) (zqf1_q1 Q E) E := fun τ H h =>
  wSl 0 h (fun x0 l0 c0 h => wSl 1 h (fun x1 l1 c1 h => (conv (by kernel_rfl) h)))

noncomputable def zqf1_q2  : XT := (xthen (zqf1_1_M Q E) (zqf1_q1 Q E))

def zqf1_3 (Q : QT) (E : ET) (x0 : OA) (l0 c0 : Nat) (x1 : OA) (l1 c1 : Nat) (H : Heap) : Prop :=
 sel (decide (((l1 : Int) : Int) > 14))
 (Q (.bool true) H)
 (zqf1_1 Q E x0 l0 c0 x1 l1 c1 H)

def zqf1_3_M  (τ : Tau) (H : Heap) : Prop := mSl (τ 0) fun x0 l0 c0 => mSl (τ 1) fun x1 l1 c1 => zqf1_3 Q E x0 l0 c0 x1 l1 c1 H

theorem zqf1_4ok  : Ok Pr (zqf1_3_M Q E) (sA (sB zqf1_p1)) (zqf1_q2 Q E) E := fun τ H h =>
  wSl 0 h (fun x0 l0 c0 h => wSl 1 h (fun x1 l1 c1 h => (conv (by kernel_rfl) h)))

theorem zqf1_5ok  : Ok Pr (zqf1_3_M Q E) (sB zqf1_p1) (zqf1_q1 Q E) E := fun τ H h =>
  (conv (by kernel_rfl) (vc_seq (K := (zqf1_1_M Q E)) (zqf1_4ok Q E τ H h) (zqf1_2ok Q E)))

noncomputable def zqf1_q3  : XT := (xthen (zqf1_3_M Q E) (zqf1_q1 Q E))

def zqf1_6 (Q : QT) (E : ET) (x0 : OA) (l0 c0 : Nat) (x1 : OA) (l1 c1 : Nat) (H : Heap) : Prop :=
 Does Pr 31 #[] H (fun v33 H34 =>
 ∃ b35 : Bool, v33 = (.bool b35) ∧ sel (!b35)
 (Q (.bool false) H34)
 (zqf1_3 Q E x0 l0 c0 x1 l1 c1 H34)) E

def zqf1_6_M  (τ : Tau) (H : Heap) : Prop := mSl (τ 0) fun x0 l0 c0 => mSl (τ 1) fun x1 l1 c1 => zqf1_6 Q E x0 l0 c0 x1 l1 c1 H

theorem zqf1_7ok  : Ok Pr (zqf1_6_M Q E) (sA zqf1_p1) (zqf1_q3 Q E) E := fun τ H h =>
  wSl 0 h (fun x0 l0 c0 h => wSl 1 h (fun x1 l1 c1 h => (conv (by kernel_rfl) h)))

theorem zqf1_8ok  : Ok Pr (zqf1_6_M Q E) zqf1_p1 (zqf1_q1 Q E) E := fun τ H h =>
  (conv (by kernel_rfl) (vc_seq (K := (zqf1_3_M Q E)) (zqf1_7ok Q E τ H h) (zqf1_5ok Q E)))

def zqf1 (Q : QT) (E : ET) (a0 : OA) (a0l : Nat) (a0c : Nat) (a1 : OA) (a1l : Nat) (a1c : Nat) (H : Heap) : Prop :=
 zqf1_6 Q E a0 a0l a0c a1 a1l a1c H

theorem zqf1_fn (a0 : OA) (a0l : Nat) (a0c : Nat) (a1 : OA) (a1l : Nat) (a1c : Nat) (Q : QT) (E : ET) (H : Heap) (h : zqf1 Q E a0 a0l a0c a1 a1l a1c H)   : Does Pr 9 #[(.slice a0 a0l a0c), (.slice a1 a1l a1c)] H Q E :=
  Fn_of_vc (fn := Try.f9) (c := (bodyOf Try.f9)) (args := [(.slice a0 a0l a0c), (.slice a1 a1l a1c)]) mixed (by kernel_rfl) (by kernel_rfl) (by kernel_rfl) (by kernel_rfl) (by kernel_rfl) ((conv (B := vc Pr (bodyOf Try.f9) (argT [(.slice a0 a0l a0c), (.slice a1 a1l a1c)]) (zqf1_q1 Q E) E H) (by kernel_rfl) (vc_seq (K := (zqf1_6_M Q E)) (conv (B := vc Pr (sA (bodyOf Try.f9)) (argT [(.slice a0 a0l a0c), (.slice a1 a1l a1c)]) (xthen (zqf1_6_M Q E) (zqf1_q1 Q E)) E H) (by kernel_rfl) h) (zqf1_8ok Q E))))

/-! jobmux/jobmuxlaw10.sane -/
def zqg1 (Q : QT) (E : ET)  (H : Heap) : Prop :=
 Does Pr 23 #[(.string ⟨[97, 98, 124, 99].toArray⟩)] H (fun v1 H2 =>
 ∃ (p3 : OA) (l4 c5 : Nat), ∃ n6 : Int, v1 = (.tuple #[(.slice p3 l4 c5), (.int .i64 n6)]) ∧ Does Pr 23 #[(.string ⟨[97, 94, 98].toArray⟩)] H2 (fun v7 H8 =>
 ∃ (p9 : OA) (l10 c11 : Nat), ∃ n12 : Int, v7 = (.tuple #[(.slice p9 l10 c11), (.int .i64 n12)]) ∧ Does Pr 33 #[(.slice p3 l4 c5)] H8 (fun v13 H14 =>
 ∃ (p15 : OA) (l16 c17 : Nat), ∃ n18 : Int, v13 = (.tuple #[(.slice p15 l16 c17), (.int .i64 n18)]) ∧ Does Pr 33 #[(.slice p9 l10 c11)] H14 (fun v19 H20 =>
 ∃ (p21 : OA) (l22 c23 : Nat), ∃ n24 : Int, v19 = (.tuple #[(.slice p21 l22 c23), (.int .i64 n24)]) ∧ Does Pr 37 #[(.slice p15 l16 c17)] H20 (fun v25 H26 =>
 ∃ (p27 : OA) (l28 c29 : Nat), ∃ b30 : Bool, v25 = (.tuple #[(.slice p27 l28 c29), (.bool b30)]) ∧ Does Pr 37 #[(.slice p21 l22 c23)] H26 (fun v31 H32 =>
 ∃ (p33 : OA) (l34 c35 : Nat), ∃ b36 : Bool, v31 = (.tuple #[(.slice p33 l34 c35), (.bool b36)]) ∧ sel (n18 == 0)
 (sel (n24 == 0)
 (sel b30
 (∃ bs37 : List UInt8, bs37.length = l28 ∧ Heap.rdS H32 p27 (bs37.map byteV) ∧ sel (ByteArray.toList (⟨bs37.toArray⟩ : ByteArray) == ByteArray.toList ⟨[99].toArray⟩)
 (sel (!b36)
 (nw (.cells #[(.int .u8 120), (.int .u8 97), (.int .u8 98)] 5 (0, 0)) H32 fun i38 H39 =>
 ∃ (cs40 : Array Value) (t41 : TypeId), H39 i38 = some (.cells cs40 t41 (0, 0)) ∧ (fun H42 =>
 Does Pr 35 #[(.slice p15 l16 c17), (.slice (some ⟨i38, 0, none⟩) 3 3)] H42 (fun v43 H44 =>
 ∃ n45 : Int, v43 = (.int .i64 n45) ∧ Q (.bool (n45 == 3)) H44) E) (Heap.set H39 i38 (.cells cs40 t41 (cs40.size, cs40.size + 1))))
 (Q (.bool false) H32))
 (Q (.bool false) H32))
 (Q (.bool false) H32))
 (Q (.bool false) H32))
 (Q (.bool false) H32)) E) E) E) E) E) E

theorem zqg1_fn  (Q : QT) (E : ET) (H : Heap) (h : zqg1 Q E  H)   : Does Pr 31 #[] H Q E :=
  Fn_of_vc (fn := Try.f31) (c := (bodyOf Try.f31)) (args := []) mixed (by kernel_rfl) (by kernel_rfl) (by kernel_rfl) (by kernel_rfl) (by kernel_rfl) ((conv (B := vc Pr (bodyOf Try.f31) (argT []) (retQ Pr (Try.f31).results.toList Q) E H) (by kernel_rfl) h))

/-! jobmux/jobmuxlaw10.pattern -/
noncomputable def zqh1_q1 (Q : QT) (E : ET) : XT := (retQ Pr (Try.f32).results.toList Q)

noncomputable def zqh1_p3 : Code := sB (sB (sB (bodyOf Try.f32)))

noncomputable def zqh1_p5 : Code := sB (sB zqh1_p3)

def zqh1_1 (Q : QT) (E : ET) (x6 : OA) (l6 c6 : Nat) (x9 : OA) (l9 c9 : Nat) (H : Heap) : Prop :=
 Q (.tuple #[(.slice x9 l9 c9), (.slice x6 l6 c6)]) H

def zqh1_1_M  (τ : Tau) (H : Heap) : Prop := mSl (τ 6) fun x6 l6 c6 => mSl (τ 9) fun x9 l9 c9 => zqh1_1 Q E x6 l6 c6 x9 l9 c9 H

theorem zqh1_2ok  : Ok Pr (zqh1_1_M Q E) (sB (sB zqh1_p5)) (zqh1_q1 Q E) E := fun τ H h =>
  wSl 6 h (fun x6 l6 c6 h => wSl 9 h (fun x9 l9 c9 h => (conv (by kernel_rfl) h)))

noncomputable def zqh1_q2  : XT := (xthen (zqh1_1_M Q E) (zqh1_q1 Q E))

def zqh1_3 (Q : QT) (E : ET) (x4 x6 : OA) (l6 c6 : Nat) (x9 : OA) (l9 c9 : Nat) (x10 : Int) (H : Heap) : Prop :=
 sel (x10 != 0)
 (Does Pr 21 #[] H (fun v51 H52 =>
 ∃ (p53 : OA) (l54 c55 : Nat), v51 = (.slice p53 l54 c55) ∧ Does Pr 49 #[(.pointer x4), (.int .i64 7)] H52 (fun v56 H57 =>
 ∃ n58 : Int, v56 = (.int .i64 n58) ∧ (0 ≤ n58 ∧ n58 < (l54 : Int)) ∧ ptr p53 fun q59 =>
 ldS (Addr.add q59 (n58.toNat * 1)) H57 fun s60 =>
 Does Pr 23 #[(.string s60)] H57 (fun v61 H62 =>
 ∃ (p63 : OA) (l64 c65 : Nat), ∃ n66 : Int, v61 = (.tuple #[(.slice p63 l64 c65), (.int .i64 n66)]) ∧ zqh1_1 Q E x6 l6 c6 p63 l64 c65 H62) E) E) E)
 (zqh1_1 Q E x6 l6 c6 x9 l9 c9 H)

def zqh1_3_M  (τ : Tau) (H : Heap) : Prop := mP (τ 4) fun x4 => mSl (τ 6) fun x6 l6 c6 => mSl (τ 9) fun x9 l9 c9 => mI .i64 (τ 10) fun x10 => zqh1_3 Q E x4 x6 l6 c6 x9 l9 c9 x10 H

theorem zqh1_4ok  : Ok Pr (zqh1_3_M Q E) (sA (sB zqh1_p5)) (zqh1_q2 Q E) E := fun τ H h =>
  wP 4 h (fun x4 h => wSl 6 h (fun x6 l6 c6 h => wSl 9 h (fun x9 l9 c9 h => wI 10 h (fun x10 h => (conv (by kernel_rfl) h)))))

theorem zqh1_5ok  : Ok Pr (zqh1_3_M Q E) (sB zqh1_p5) (zqh1_q1 Q E) E := fun τ H h =>
  (conv (by kernel_rfl) (vc_seq (K := (zqh1_1_M Q E)) (zqh1_4ok Q E τ H h) (zqh1_2ok Q E)))

noncomputable def zqh1_q3  : XT := (xthen (zqh1_3_M Q E) (zqh1_q1 Q E))

def zqh1_6 (Q : QT) (E : ET) (x4 x5 : OA) (l5 c5 : Nat) (x6 : OA) (l6 c6 : Nat) (H : Heap) : Prop :=
 ∃ bs67 : List UInt8, bs67.length = l5 ∧ Heap.rdS H x5 (bs67.map byteV) ∧ Does Pr 23 #[(.string (⟨bs67.toArray⟩ : ByteArray))] H (fun v68 H69 =>
 ∃ (p70 : OA) (l71 c72 : Nat), ∃ n73 : Int, v68 = (.tuple #[(.slice p70 l71 c72), (.int .i64 n73)]) ∧ zqh1_3 Q E x4 x6 l6 c6 p70 l71 c72 n73 H69) E

def zqh1_6_M  (τ : Tau) (H : Heap) : Prop := mP (τ 4) fun x4 => mSl (τ 5) fun x5 l5 c5 => mSl (τ 6) fun x6 l6 c6 => zqh1_6 Q E x4 x5 l5 c5 x6 l6 c6 H

theorem zqh1_7ok  : Ok Pr (zqh1_6_M Q E) (sA zqh1_p5) (zqh1_q3 Q E) E := fun τ H h =>
  wP 4 h (fun x4 h => wSl 5 h (fun x5 l5 c5 h => wSl 6 h (fun x6 l6 c6 h => (conv (by kernel_rfl) h))))

theorem zqh1_8ok  : Ok Pr (zqh1_6_M Q E) zqh1_p5 (zqh1_q1 Q E) E := fun τ H h =>
  (conv (by kernel_rfl) (vc_seq (K := (zqh1_3_M Q E)) (zqh1_7ok Q E τ H h) (zqh1_5ok Q E)))

noncomputable def zqh1_q4  : XT := (xthen (zqh1_6_M Q E) (zqh1_q1 Q E))

noncomputable def zqh1_p12 : Code := sI (sB (sA (sB zqh1_p3)))

noncomputable def zqh1_q6 (nx77 : OA → Nat → Nat → Int → HP) : XT := (xthen (fun τ H => mSl (τ 6) fun x6' l6' c6' => mI .i64 (τ 8) fun x8' => nx77 x6' l6' c6' x8' H) (xblock 2 (zqh1_q4 Q E)))

def zqh1_9 (nx77 : OA → Nat → Nat → Int → HP) (Q : QT) (E : ET) (x4 x5 : OA) (l5 c5 : Nat) (x6 : OA) (l6 c6 : Nat) (x8 : Int) (H : Heap) : Prop :=
 Does Pr 49 #[(.pointer x4), (.int .i64 7)] H (fun v78 H79 =>
 ∃ n80 : Int, v78 = (.int .i64 n80) ∧ (0 ≤ n80 ∧ n80 < ((ByteArray.size ⟨[97, 98, 97, 98, 10, 49, 120].toArray⟩ : Nat) : Int)) ∧ nw (.cells #[(.int .u8 (sAt ⟨[97, 98, 97, 98, 10, 49, 120].toArray⟩ n80))] 5 (0, 0)) H79 fun i81 H82 =>
 app Pr 24 x6 l6 c6 (.slice (some ⟨i81, 0, none⟩) 1 1) H82 fun p83 l84 c85 H86 =>
 nx77 p83 l84 c85 (IntKind.wrap .i64 (x8 - 1)) H86) E

def zqh1_9_M (nx77 : OA → Nat → Nat → Int → HP) (τ : Tau) (H : Heap) : Prop := mP (τ 4) fun x4 => mSl (τ 5) fun x5 l5 c5 => mSl (τ 6) fun x6 l6 c6 => mI .i64 (τ 8) fun x8 => zqh1_9 nx77 Q E x4 x5 l5 c5 x6 l6 c6 x8 H

theorem zqh1_10ok (nx77 : OA → Nat → Nat → Int → HP) : Ok Pr (zqh1_9_M Q E nx77) (sB (sI zqh1_p12)) (zqh1_q6 Q E nx77) E := fun τ H h =>
  wP 4 h (fun x4 h => wSl 5 h (fun x5 l5 c5 h => wSl 6 h (fun x6 l6 c6 h => wI 8 h (fun x8 h => (conv (by kernel_rfl) h)))))

noncomputable def zqh1_q7 (nx77 : OA → Nat → Nat → Int → HP) : XT := (xthen (zqh1_9_M Q E nx77) (zqh1_q6 Q E nx77))

def zqh1_11 (nx77 : OA → Nat → Nat → Int → HP) (Q : QT) (E : ET) (x4 x5 : OA) (l5 c5 : Nat) (x6 : OA) (l6 c6 : Nat) (x8 : Int) (H : Heap) : Prop :=
 sel (decide (x8 > 0))
 (zqh1_9 nx77 Q E x4 x5 l5 c5 x6 l6 c6 x8 H)
 (zqh1_6 Q E x4 x5 l5 c5 x6 l6 c6 H)

def zqh1_11_M (nx77 : OA → Nat → Nat → Int → HP) (τ : Tau) (H : Heap) : Prop := mP (τ 4) fun x4 => mSl (τ 5) fun x5 l5 c5 => mSl (τ 6) fun x6 l6 c6 => mI .i64 (τ 8) fun x8 => zqh1_11 nx77 Q E x4 x5 l5 c5 x6 l6 c6 x8 H

theorem zqh1_12ok (nx77 : OA → Nat → Nat → Int → HP) : Ok Pr (zqh1_11_M Q E nx77) (sA (sI zqh1_p12)) (zqh1_q7 Q E nx77) E := fun τ H h =>
  wP 4 h (fun x4 h => wSl 5 h (fun x5 l5 c5 h => wSl 6 h (fun x6 l6 c6 h => wI 8 h (fun x8 h => (conv (by kernel_rfl) h)))))

theorem zqh1_13ok (nx77 : OA → Nat → Nat → Int → HP) : Ok Pr (zqh1_11_M Q E nx77) (sI zqh1_p12) (zqh1_q6 Q E nx77) E := fun τ H h =>
  (conv (by kernel_rfl) (vc_seq (K := (zqh1_9_M Q E nx77)) (zqh1_12ok Q E nx77 τ H h) (zqh1_10ok Q E nx77)))

def zqh1_14 (Q : QT) (E : ET) (x4 x5 : OA) (l5 c5 : Nat) (x6 : OA) (l6 c6 : Nat) (x8 : Int) (H : Heap) : Prop :=
 ∃ (I : OA → Nat → Nat → Int → HP) (μ : OA → Nat → Nat → Int → Heap → Nat), I x6 l6 c6 x8 H ∧ ∀ (x6 : OA) (l6 c6 : Nat) (x8 : Int) (H : Heap), I x6 l6 c6 x8 H →
 zqh1_11 (fun x6' l6' c6' x8' H1 => I x6' l6' c6' x8' H1 ∧ μ x6' l6' c6' x8' H1 < μ x6 l6 c6 x8 H) Q E x4 x5 l5 c5 x6 l6 c6 x8 H

def zqh1_14_M  (τ : Tau) (H : Heap) : Prop := mP (τ 4) fun x4 => mSl (τ 5) fun x5 l5 c5 => mSl (τ 6) fun x6 l6 c6 => mI .i64 (τ 8) fun x8 => zqh1_14 Q E x4 x5 l5 c5 x6 l6 c6 x8 H

theorem zqh1_15ok  : Ok Pr (zqh1_14_M Q E) zqh1_p12 (xblock 2 (zqh1_q4 Q E)) E := fun τ H h =>
  wP 4 h (fun x4 h => wSl 5 h (fun x5 l5 c5 h => wSl 6 h (fun x6 l6 c6 h => wI 8 h (fun x8 h => match h with | ⟨I, μ, h0, hr⟩ => (conv (by kernel_rfl) (vc_loopG (c := sI zqh1_p12) (τ := (Tau.upd (Tau.upd (Tau.upd (Tau.upd τ 4 (.pointer x4)) 5 (.slice x5 l5 c5)) 6 (.slice x6 l6 c6)) 8 (.int .i64 x8))) [4, 5] (fun τ H => mSl (τ 6) fun x6' l6' c6' => mI .i64 (τ 8) fun x8' => I x6' l6' c6' x8' H) (fun τ H => μ (gL1 (τ 6)) (gL2 (τ 6)) (gL3 (τ 6)) (gI (τ 8)) H) (by kernel_rfl) h0 (fun τ1 H1 hf hI => uF 4 (.pointer x4) (hf 4 (by simp)) (uF 5 (.slice x5 l5 c5) (hf 5 (by simp)) (uSl 6 hI (fun x6r l6r c6r h => uI 8 h (fun x8r h => lgx (zqh1_13ok Q E (fun x6' l6' c6' x8' H2 => I x6' l6' c6' x8' H2 ∧ μ x6' l6' c6' x8' H2 < μ x6r l6r c6r x8r H1) (Tau.upd (Tau.upd (Tau.upd (Tau.upd τ1 4 (.pointer x4)) 5 (.slice x5 l5 c5)) 6 (.slice x6r l6r c6r)) 8 (.int .i64 x8r)) H1 (conv (by kernel_rfl) (hr x6r l6r c6r x8r H1 h))) (fun τ2 H2 hk => kSl 6 hk (fun x6' l6' c6' h => kI 8 h (fun x8' h => conv (by kernel_rfl) h))))))))))))))

theorem zqh1_16ok  : Ok Pr (zqh1_14_M Q E) (sB (sA (sB zqh1_p3))) (zqh1_q4 Q E) E := fun τ H h =>
  (conv (by kernel_rfl) (zqh1_15ok Q E τ H h))

noncomputable def zqh1_q8  : XT := (xthen (zqh1_14_M Q E) (zqh1_q4 Q E))

def zqh1_17 (Q : QT) (E : ET) (x4 x5 : OA) (l5 c5 : Nat) (x6 : OA) (l6 c6 : Nat) (H : Heap) : Prop :=
 Does Pr 49 #[(.pointer x4), (.int .i64 12)] H (fun v87 H88 =>
 ∃ n89 : Int, v87 = (.int .i64 n89) ∧ zqh1_14 Q E x4 x5 l5 c5 x6 l6 c6 n89 H88) E

def zqh1_17_M  (τ : Tau) (H : Heap) : Prop := mP (τ 4) fun x4 => mSl (τ 5) fun x5 l5 c5 => mSl (τ 6) fun x6 l6 c6 => zqh1_17 Q E x4 x5 l5 c5 x6 l6 c6 H

theorem zqh1_18ok  : Ok Pr (zqh1_17_M Q E) (sA (sA (sB zqh1_p3))) (zqh1_q8 Q E) E := fun τ H h =>
  wP 4 h (fun x4 h => wSl 5 h (fun x5 l5 c5 h => wSl 6 h (fun x6 l6 c6 h => (conv (by kernel_rfl) h))))

theorem zqh1_19ok  : Ok Pr (zqh1_17_M Q E) (sA (sB zqh1_p3)) (zqh1_q4 Q E) E := fun τ H h =>
  (conv (by kernel_rfl) (vc_seq (K := (zqh1_14_M Q E)) (zqh1_18ok Q E τ H h) (zqh1_16ok Q E)))

theorem zqh1_20ok  : Ok Pr (zqh1_17_M Q E) (sB zqh1_p3) (zqh1_q1 Q E) E := fun τ H h =>
  (conv (by kernel_rfl) (vc_seq (K := (zqh1_6_M Q E)) (zqh1_19ok Q E τ H h) (zqh1_8ok Q E)))

noncomputable def zqh1_q9  : XT := (xthen (zqh1_17_M Q E) (zqh1_q1 Q E))

noncomputable def zqh1_p19 : Code := sI (sB (sA zqh1_p3))

noncomputable def zqh1_q11 (nx93 : OA → Nat → Nat → Int → HP) : XT := (xthen (fun τ H => mSl (τ 5) fun x5' l5' c5' => mI .i64 (τ 7) fun x7' => nx93 x5' l5' c5' x7' H) (xblock 0 (zqh1_q9 Q E)))

def zqh1_21 (nx93 : OA → Nat → Nat → Int → HP) (Q : QT) (E : ET) (x4 x5 : OA) (l5 c5 : Nat) (x6 : OA) (l6 c6 : Nat) (x7 : Int) (H : Heap) : Prop :=
 Does Pr 49 #[(.pointer x4), (.int .i64 16)] H (fun v94 H95 =>
 ∃ n96 : Int, v94 = (.int .i64 n96) ∧ (0 ≤ n96 ∧ n96 < ((ByteArray.size ⟨[97, 98, 46, 40, 42, 124, 41, 43, 63, 94, 36, 91, 98, 93, 92, 100].toArray⟩ : Nat) : Int)) ∧ nw (.cells #[(.int .u8 (sAt ⟨[97, 98, 46, 40, 42, 124, 41, 43, 63, 94, 36, 91, 98, 93, 92, 100].toArray⟩ n96))] 5 (0, 0)) H95 fun i97 H98 =>
 app Pr 24 x5 l5 c5 (.slice (some ⟨i97, 0, none⟩) 1 1) H98 fun p99 l100 c101 H102 =>
 nx93 p99 l100 c101 (IntKind.wrap .i64 (x7 - 1)) H102) E

def zqh1_21_M (nx93 : OA → Nat → Nat → Int → HP) (τ : Tau) (H : Heap) : Prop := mP (τ 4) fun x4 => mSl (τ 5) fun x5 l5 c5 => mSl (τ 6) fun x6 l6 c6 => mI .i64 (τ 7) fun x7 => zqh1_21 nx93 Q E x4 x5 l5 c5 x6 l6 c6 x7 H

theorem zqh1_22ok (nx93 : OA → Nat → Nat → Int → HP) : Ok Pr (zqh1_21_M Q E nx93) (sB (sI zqh1_p19)) (zqh1_q11 Q E nx93) E := fun τ H h =>
  wP 4 h (fun x4 h => wSl 5 h (fun x5 l5 c5 h => wSl 6 h (fun x6 l6 c6 h => wI 7 h (fun x7 h => (conv (by kernel_rfl) h)))))

noncomputable def zqh1_q12 (nx93 : OA → Nat → Nat → Int → HP) : XT := (xthen (zqh1_21_M Q E nx93) (zqh1_q11 Q E nx93))

def zqh1_23 (nx93 : OA → Nat → Nat → Int → HP) (Q : QT) (E : ET) (x4 x5 : OA) (l5 c5 : Nat) (x6 : OA) (l6 c6 : Nat) (x7 : Int) (H : Heap) : Prop :=
 sel (decide (x7 > 0))
 (zqh1_21 nx93 Q E x4 x5 l5 c5 x6 l6 c6 x7 H)
 (zqh1_17 Q E x4 x5 l5 c5 x6 l6 c6 H)

def zqh1_23_M (nx93 : OA → Nat → Nat → Int → HP) (τ : Tau) (H : Heap) : Prop := mP (τ 4) fun x4 => mSl (τ 5) fun x5 l5 c5 => mSl (τ 6) fun x6 l6 c6 => mI .i64 (τ 7) fun x7 => zqh1_23 nx93 Q E x4 x5 l5 c5 x6 l6 c6 x7 H

theorem zqh1_24ok (nx93 : OA → Nat → Nat → Int → HP) : Ok Pr (zqh1_23_M Q E nx93) (sA (sI zqh1_p19)) (zqh1_q12 Q E nx93) E := fun τ H h =>
  wP 4 h (fun x4 h => wSl 5 h (fun x5 l5 c5 h => wSl 6 h (fun x6 l6 c6 h => wI 7 h (fun x7 h => (conv (by kernel_rfl) h)))))

theorem zqh1_25ok (nx93 : OA → Nat → Nat → Int → HP) : Ok Pr (zqh1_23_M Q E nx93) (sI zqh1_p19) (zqh1_q11 Q E nx93) E := fun τ H h =>
  (conv (by kernel_rfl) (vc_seq (K := (zqh1_21_M Q E nx93)) (zqh1_24ok Q E nx93 τ H h) (zqh1_22ok Q E nx93)))

def zqh1_26 (Q : QT) (E : ET) (x4 x6 : OA) (l6 c6 : Nat) (x5 : OA) (l5 c5 : Nat) (x7 : Int) (H : Heap) : Prop :=
 ∃ (I : OA → Nat → Nat → Int → HP) (μ : OA → Nat → Nat → Int → Heap → Nat), I x5 l5 c5 x7 H ∧ ∀ (x5 : OA) (l5 c5 : Nat) (x7 : Int) (H : Heap), I x5 l5 c5 x7 H →
 zqh1_23 (fun x5' l5' c5' x7' H1 => I x5' l5' c5' x7' H1 ∧ μ x5' l5' c5' x7' H1 < μ x5 l5 c5 x7 H) Q E x4 x5 l5 c5 x6 l6 c6 x7 H

def zqh1_26_M  (τ : Tau) (H : Heap) : Prop := mP (τ 4) fun x4 => mSl (τ 6) fun x6 l6 c6 => mSl (τ 5) fun x5 l5 c5 => mI .i64 (τ 7) fun x7 => zqh1_26 Q E x4 x6 l6 c6 x5 l5 c5 x7 H

theorem zqh1_27ok  : Ok Pr (zqh1_26_M Q E) zqh1_p19 (xblock 0 (zqh1_q9 Q E)) E := fun τ H h =>
  wP 4 h (fun x4 h => wSl 6 h (fun x6 l6 c6 h => wSl 5 h (fun x5 l5 c5 h => wI 7 h (fun x7 h => match h with | ⟨I, μ, h0, hr⟩ => (conv (by kernel_rfl) (vc_loopG (c := sI zqh1_p19) (τ := (Tau.upd (Tau.upd (Tau.upd (Tau.upd τ 4 (.pointer x4)) 6 (.slice x6 l6 c6)) 5 (.slice x5 l5 c5)) 7 (.int .i64 x7))) [4, 6] (fun τ H => mSl (τ 5) fun x5' l5' c5' => mI .i64 (τ 7) fun x7' => I x5' l5' c5' x7' H) (fun τ H => μ (gL1 (τ 5)) (gL2 (τ 5)) (gL3 (τ 5)) (gI (τ 7)) H) (by kernel_rfl) h0 (fun τ1 H1 hf hI => uF 4 (.pointer x4) (hf 4 (by simp)) (uF 6 (.slice x6 l6 c6) (hf 6 (by simp)) (uSl 5 hI (fun x5r l5r c5r h => uI 7 h (fun x7r h => lgx (zqh1_25ok Q E (fun x5' l5' c5' x7' H2 => I x5' l5' c5' x7' H2 ∧ μ x5' l5' c5' x7' H2 < μ x5r l5r c5r x7r H1) (Tau.upd (Tau.upd (Tau.upd (Tau.upd τ1 4 (.pointer x4)) 6 (.slice x6 l6 c6)) 5 (.slice x5r l5r c5r)) 7 (.int .i64 x7r)) H1 (conv (by kernel_rfl) (hr x5r l5r c5r x7r H1 h))) (fun τ2 H2 hk => kSl 5 hk (fun x5' l5' c5' h => kI 7 h (fun x7' h => conv (by kernel_rfl) h))))))))))))))

theorem zqh1_28ok  : Ok Pr (zqh1_26_M Q E) (sB (sA zqh1_p3)) (zqh1_q9 Q E) E := fun τ H h =>
  (conv (by kernel_rfl) (zqh1_27ok Q E τ H h))

noncomputable def zqh1_q13  : XT := (xthen (zqh1_26_M Q E) (zqh1_q9 Q E))

def zqh1_29 (Q : QT) (E : ET) (x4 x5 : OA) (l5 c5 : Nat) (x6 : OA) (l6 c6 : Nat) (H : Heap) : Prop :=
 Does Pr 48 #[(.pointer x4), (.int .i64 1), (.int .i64 16)] H (fun v103 H104 =>
 ∃ n105 : Int, v103 = (.int .i64 n105) ∧ zqh1_26 Q E x4 x6 l6 c6 x5 l5 c5 n105 H104) E

def zqh1_29_M  (τ : Tau) (H : Heap) : Prop := mP (τ 4) fun x4 => mSl (τ 5) fun x5 l5 c5 => mSl (τ 6) fun x6 l6 c6 => zqh1_29 Q E x4 x5 l5 c5 x6 l6 c6 H

theorem zqh1_30ok  : Ok Pr (zqh1_29_M Q E) (sA (sA zqh1_p3)) (zqh1_q13 Q E) E := fun τ H h =>
  wP 4 h (fun x4 h => wSl 5 h (fun x5 l5 c5 h => wSl 6 h (fun x6 l6 c6 h => (conv (by kernel_rfl) h))))

theorem zqh1_31ok  : Ok Pr (zqh1_29_M Q E) (sA zqh1_p3) (zqh1_q9 Q E) E := fun τ H h =>
  (conv (by kernel_rfl) (vc_seq (K := (zqh1_26_M Q E)) (zqh1_30ok Q E τ H h) (zqh1_28ok Q E)))

theorem zqh1_32ok  : Ok Pr (zqh1_29_M Q E) zqh1_p3 (zqh1_q1 Q E) E := fun τ H h =>
  (conv (by kernel_rfl) (vc_seq (K := (zqh1_17_M Q E)) (zqh1_31ok Q E τ H h) (zqh1_20ok Q E)))

def zqh1_33 (Q : QT) (E : ET) (x4 : OA) (H : Heap) : Prop :=
 zqh1_29 Q E x4 none 0 0 none 0 0 H

def zqh1_33_M  (τ : Tau) (H : Heap) : Prop := mP (τ 4) fun x4 => zqh1_33 Q E x4 H

theorem zqh1_34ok  : Ok Pr (zqh1_33_M Q E) (sA (sB (sB (bodyOf Try.f32)))) (xthen (zqh1_29_M Q E) (zqh1_q1 Q E)) E := fun τ H h =>
  wP 4 h (fun x4 h => (conv (by kernel_rfl) h))

theorem zqh1_35ok  : Ok Pr (zqh1_33_M Q E) (sB (sB (bodyOf Try.f32))) (zqh1_q1 Q E) E := fun τ H h =>
  (conv (by kernel_rfl) (vc_seq (K := (zqh1_29_M Q E)) (zqh1_34ok Q E τ H h) (zqh1_32ok Q E)))

def zqh1_36 (Q : QT) (E : ET) (x0 : OA) (l0 c0 : Nat) (H : Heap) : Prop :=
 Does Pr 47 #[(.slice x0 l0 c0)] H (fun v106 H107 =>
 ∃ p108 : OA, v106 = (.pointer p108) ∧ zqh1_33 Q E p108 H107) E

def zqh1_36_M  (τ : Tau) (H : Heap) : Prop := mSl (τ 0) fun x0 l0 c0 => zqh1_36 Q E x0 l0 c0 H

theorem zqh1_37ok  : Ok Pr (zqh1_36_M Q E) (sA (sB (bodyOf Try.f32))) (xthen (zqh1_33_M Q E) (zqh1_q1 Q E)) E := fun τ H h =>
  wSl 0 h (fun x0 l0 c0 h => (conv (by kernel_rfl) h))

theorem zqh1_38ok  : Ok Pr (zqh1_36_M Q E) (sB (bodyOf Try.f32)) (zqh1_q1 Q E) E := fun τ H h =>
  (conv (by kernel_rfl) (vc_seq (K := (zqh1_33_M Q E)) (zqh1_37ok Q E τ H h) (zqh1_35ok Q E)))

def zqh1 (Q : QT) (E : ET) (a0 : OA) (a0l : Nat) (a0c : Nat) (H : Heap) : Prop :=
 zqh1_36 Q E a0 a0l a0c H

theorem zqh1_fn (a0 : OA) (a0l : Nat) (a0c : Nat) (Q : QT) (E : ET) (H : Heap) (h : zqh1 Q E a0 a0l a0c H)   : Does Pr 32 #[(.slice a0 a0l a0c)] H Q E :=
  Fn_of_vc (fn := Try.f32) (c := (bodyOf Try.f32)) (args := [(.slice a0 a0l a0c)]) mixed (by kernel_rfl) (by kernel_rfl) (by kernel_rfl) (by kernel_rfl) (by kernel_rfl) ((conv (B := vc Pr (bodyOf Try.f32) (argT [(.slice a0 a0l a0c)]) (zqh1_q1 Q E) E H) (by kernel_rfl) (vc_seq (K := (zqh1_36_M Q E)) (conv (B := vc Pr (sA (bodyOf Try.f32)) (argT [(.slice a0 a0l a0c)]) (xthen (zqh1_36_M Q E) (zqh1_q1 Q E)) E H) (by kernel_rfl) h) (zqh1_38ok Q E))))

end Go.Proofs.Ytaffcoiomggpfaa
