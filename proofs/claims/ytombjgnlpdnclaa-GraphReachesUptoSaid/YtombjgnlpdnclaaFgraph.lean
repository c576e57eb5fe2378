import Derived.Test.YtombjgnlpdnclaaVPr
/- Printed by gen.py: the Go functions of package graph over a heap view, and that the model does so. -/
namespace Go.Proofs.Ytombjgnlpdnclaa
open Go.V
set_option linter.unusedVariables false
set_option maxRecDepth 100000
variable (Q : QT) (E : ET)
/-! jobmux/graph.Order -/
noncomputable def graph_Order_q1 (Q : QT) (E : ET)  : XT := (retQ Pr (Try.f8).results.toList Q)

def graph_Order (Q : QT) (E : ET) (a0 : OA) (a0l : Nat) (a0c : Nat) (H : Heap) : Prop :=
 Does Pr 18 #[(.slice a0 a0l a0c)] H (fun v1 H2 =>
 ∃ (p3 : OA) (l4 c5 : Nat), v1 = (.slice p3 l4 c5) ∧ Does Pr 17 #[(.slice p3 l4 c5)] H2 (fun v6 H7 =>
 ∃ (p8 : OA) (l9 c10 : Nat), ∃ (p11 : OA) (l12 c13 : Nat), v6 = (.tuple #[(.slice p8 l9 c10), (.slice p11 l12 c13)]) ∧ Q (.slice p8 l9 c10) H7) E) E

theorem graph_Order_fn (a0 : OA) (a0l : Nat) (a0c : Nat) (Q : QT) (E : ET) (H : Heap) (h : graph_Order Q E a0 a0l a0c H)   : Does Pr 8 #[(.slice a0 a0l a0c)] H Q E :=
  Fn_of_vc (fn := Try.f8) (c := (bodyOf Try.f8)) (args := [(.slice a0 a0l a0c)]) mixed (by kernel_rfl) (by kernel_rfl) (by kernel_rfl) (by kernel_rfl) (by kernel_rfl) ((conv (B := vc Pr (bodyOf Try.f8) (argT [(.slice a0 a0l a0c)]) (graph_Order_q1 Q E) E H) (by kernel_rfl) h))

/-! jobmux/graph.Cycle -/
noncomputable def graph_Cycle_q1 (Q : QT) (E : ET)  : XT := (retQ Pr (Try.f9).results.toList Q)

noncomputable def graph_Cycle_p2 : Code := sB (sB (bodyOf Try.f9))

noncomputable def graph_Cycle_p5 : Code := sB (sB (sB graph_Cycle_p2))

def graph_Cycle_1 (Q : QT) (E : ET) (x6 : Int) (x7 : OA) (l7 c7 : Nat) (H : Heap) : Prop :=
 Does Pr 23 #[(.slice x7 l7 c7), (.int .i64 x6)] H (fun v45 H46 =>
 ∃ n47 : Int, v45 = (.int .i64 n47) ∧ (0 ≤ n47 ∧ n47 ≤ (l7 : Int)) ∧ Q (.slice (if c7 = n47.toNat then x7 else Option.map (fun a => Addr.add a (n47.toNat * 1)) x7) (l7 - n47.toNat) (c7 - n47.toNat)) H46) E

def graph_Cycle_1_M  (τ : Tau) (H : Heap) : Prop := mI .i64 (τ 6) fun x6 => mSl (τ 7) fun x7 l7 c7 => graph_Cycle_1 Q E x6 x7 l7 c7 H

theorem graph_Cycle_2ok  : Ok Pr (graph_Cycle_1_M Q E) (sB (sB graph_Cycle_p5)) (graph_Cycle_q1 Q E) E := fun τ H h =>
  wI 6 h (fun x6 h => wSl 7 h (fun x7 l7 c7 h => (conv (by kernel_rfl) h)))

noncomputable def graph_Cycle_q2  : XT := (xthen (graph_Cycle_1_M Q E) (graph_Cycle_q1 Q E))

noncomputable def graph_Cycle_p9 : Code := sI (sA (sB graph_Cycle_p5))

noncomputable def graph_Cycle_q4 (nx48 : Int → OA → Nat → Nat → HP) : XT := (xthen (fun τ H => mI .i64 (τ 6) fun x6' => mSl (τ 7) fun x7' l7' c7' => nx48 x6' x7' l7' c7' H) (xblock 0 (graph_Cycle_q2 Q E)))

def graph_Cycle_3 (nx48 : Int → OA → Nat → Nat → HP) (Q : QT) (E : ET) (x3 : OA) (l3 c3 : Nat) (x5 : OA) (x6 : Int) (x7 : OA) (l7 c7 : Nat) (H : Heap) : Prop :=
 nw (.cells #[(.int .i64 x6)] 3 (0, 0)) H fun i52 H53 =>
 app Pr 22 x7 l7 c7 (.slice (some ⟨i52, 0, none⟩) 1 1) H53 fun p54 l55 c56 H57 =>
 (0 ≤ x6 ∧ x6 < (l3 : Int)) ∧ ptr x3 fun q58 =>
 ldSl (Addr.add q58 (x6.toNat * 1)) H57 fun p59 l60 c61 =>
 Does Pr 21 #[(.slice p59 l60 c61), (.func (.func 22) #[] #[(.pointer x5)])] H57 (fun v62 H63 =>
 ∃ n64 : Int, v62 = (.int .i64 n64) ∧ (0 ≤ x6 ∧ x6 < (l3 : Int)) ∧ ptr x3 fun q65 =>
 ldSl (Addr.add q65 (x6.toNat * 1)) H63 fun p66 l67 c68 =>
 (0 ≤ n64 ∧ n64 < (l67 : Int)) ∧ ptr p66 fun q69 =>
 ldI .i64 (Addr.add q69 (n64.toNat * 1)) H63 fun n70 =>
 nx48 n70 p54 l55 c56 H63) E

def graph_Cycle_3_M (nx48 : Int → OA → Nat → Nat → HP) (τ : Tau) (H : Heap) : Prop := mSl (τ 3) fun x3 l3 c3 => mP (τ 5) fun x5 => mI .i64 (τ 6) fun x6 => mSl (τ 7) fun x7 l7 c7 => graph_Cycle_3 nx48 Q E x3 l3 c3 x5 x6 x7 l7 c7 H

theorem graph_Cycle_4ok (nx48 : Int → OA → Nat → Nat → HP) : Ok Pr (graph_Cycle_3_M Q E nx48) (sB (sI graph_Cycle_p9)) (graph_Cycle_q4 Q E nx48) E := fun τ H h =>
  wSl 3 h (fun x3 l3 c3 h => wP 5 h (fun x5 h => wI 6 h (fun x6 h => wSl 7 h (fun x7 l7 c7 h => (conv (by kernel_rfl) h)))))

noncomputable def graph_Cycle_q5 (nx48 : Int → OA → Nat → Nat → HP) : XT := (xthen (graph_Cycle_3_M Q E nx48) (graph_Cycle_q4 Q E nx48))

def graph_Cycle_5 (nx48 : Int → OA → Nat → Nat → HP) (Q : QT) (E : ET) (x3 : OA) (l3 c3 : Nat) (x5 : OA) (x6 : Int) (x7 : OA) (l7 c7 : Nat) (H : Heap) : Prop :=
 Does Pr 20 #[(.slice x7 l7 c7), (.int .i64 x6)] H (fun v71 H72 =>
 ∃ b73 : Bool, v71 = (.bool b73) ∧ sel (!b73)
 (graph_Cycle_3 nx48 Q E x3 l3 c3 x5 x6 x7 l7 c7 H72)
 (graph_Cycle_1 Q E x6 x7 l7 c7 H72)) E

def graph_Cycle_5_M (nx48 : Int → OA → Nat → Nat → HP) (τ : Tau) (H : Heap) : Prop := mSl (τ 3) fun x3 l3 c3 => mP (τ 5) fun x5 => mI .i64 (τ 6) fun x6 => mSl (τ 7) fun x7 l7 c7 => graph_Cycle_5 nx48 Q E x3 l3 c3 x5 x6 x7 l7 c7 H

theorem graph_Cycle_6ok (nx48 : Int → OA → Nat → Nat → HP) : Ok Pr (graph_Cycle_5_M Q E nx48) (sA (sI graph_Cycle_p9)) (graph_Cycle_q5 Q E nx48) E := fun τ H h =>
  wSl 3 h (fun x3 l3 c3 h => wP 5 h (fun x5 h => wI 6 h (fun x6 h => wSl 7 h (fun x7 l7 c7 h => (conv (by kernel_rfl) h)))))

theorem graph_Cycle_7ok (nx48 : Int → OA → Nat → Nat → HP) : Ok Pr (graph_Cycle_5_M Q E nx48) (sI graph_Cycle_p9) (graph_Cycle_q4 Q E nx48) E := fun τ H h =>
  (conv (by kernel_rfl) (vc_seq (K := (graph_Cycle_3_M Q E nx48)) (graph_Cycle_6ok Q E nx48 τ H h) (graph_Cycle_4ok Q E nx48)))

def graph_Cycle_8 (Q : QT) (E : ET) (x3 : OA) (l3 c3 : Nat) (x5 : OA) (x6 : Int) (x7 : OA) (l7 c7 : Nat) (H : Heap) : Prop :=
 ∃ (I : Int → OA → Nat → Nat → HP) (μ : Int → OA → Nat → Nat → Heap → Nat), I x6 x7 l7 c7 H ∧ ∀ (x6 : Int) (x7 : OA) (l7 c7 : Nat) (H : Heap), I x6 x7 l7 c7 H →
 graph_Cycle_5 (fun x6' x7' l7' c7' H1 => I x6' x7' l7' c7' H1 ∧ μ x6' x7' l7' c7' H1 < μ x6 x7 l7 c7 H) Q E x3 l3 c3 x5 x6 x7 l7 c7 H

def graph_Cycle_8_M  (τ : Tau) (H : Heap) : Prop := mSl (τ 3) fun x3 l3 c3 => mP (τ 5) fun x5 => mI .i64 (τ 6) fun x6 => mSl (τ 7) fun x7 l7 c7 => graph_Cycle_8 Q E x3 l3 c3 x5 x6 x7 l7 c7 H

theorem graph_Cycle_9ok  : Ok Pr (graph_Cycle_8_M Q E) graph_Cycle_p9 (xblock 0 (graph_Cycle_q2 Q E)) E := fun τ H h =>
  wSl 3 h (fun x3 l3 c3 h => wP 5 h (fun x5 h => wI 6 h (fun x6 h => wSl 7 h (fun x7 l7 c7 h => match h with | ⟨I, μ, h0, hr⟩ => (conv (by kernel_rfl) (vc_loopG (c := sI graph_Cycle_p9) (τ := (Tau.upd (Tau.upd (Tau.upd (Tau.upd τ 3 (.slice x3 l3 c3)) 5 (.pointer x5)) 6 (.int .i64 x6)) 7 (.slice x7 l7 c7))) [3, 5] (fun τ H => mI .i64 (τ 6) fun x6' => mSl (τ 7) fun x7' l7' c7' => I x6' x7' l7' c7' H) (fun τ H => μ (gI (τ 6)) (gL1 (τ 7)) (gL2 (τ 7)) (gL3 (τ 7)) H) (by kernel_rfl) h0 (fun τ1 H1 hf hI => uF 3 (.slice x3 l3 c3) (hf 3 (by simp)) (uF 5 (.pointer x5) (hf 5 (by simp)) (uI 6 hI (fun x6r h => uSl 7 h (fun x7r l7r c7r h => lgx (graph_Cycle_7ok Q E (fun x6' x7' l7' c7' H2 => I x6' x7' l7' c7' H2 ∧ μ x6' x7' l7' c7' H2 < μ x6r x7r l7r c7r H1) (Tau.upd (Tau.upd (Tau.upd (Tau.upd τ1 3 (.slice x3 l3 c3)) 5 (.pointer x5)) 6 (.int .i64 x6r)) 7 (.slice x7r l7r c7r)) H1 (conv (by kernel_rfl) (hr x6r x7r l7r c7r H1 h))) (fun τ2 H2 hk => kI 6 hk (fun x6' h => kSl 7 h (fun x7' l7' c7' h => conv (by kernel_rfl) h))))))))))))))

theorem graph_Cycle_10ok  : Ok Pr (graph_Cycle_8_M Q E) (sA (sB graph_Cycle_p5)) (graph_Cycle_q2 Q E) E := fun τ H h =>
  (conv (by kernel_rfl) (graph_Cycle_9ok Q E τ H h))

theorem graph_Cycle_11ok  : Ok Pr (graph_Cycle_8_M Q E) (sB graph_Cycle_p5) (graph_Cycle_q1 Q E) E := fun τ H h =>
  (conv (by kernel_rfl) (vc_seq (K := (graph_Cycle_1_M Q E)) (graph_Cycle_10ok Q E τ H h) (graph_Cycle_2ok Q E)))

noncomputable def graph_Cycle_q6  : XT := (xthen (graph_Cycle_8_M Q E) (graph_Cycle_q1 Q E))

def graph_Cycle_12 (Q : QT) (E : ET) (x3 : OA) (l3 c3 : Nat) (x5 : OA) (x6 : Int) (H : Heap) : Prop :=
 graph_Cycle_8 Q E x3 l3 c3 x5 x6 none 0 0 H

def graph_Cycle_12_M  (τ : Tau) (H : Heap) : Prop := mSl (τ 3) fun x3 l3 c3 => mP (τ 5) fun x5 => mI .i64 (τ 6) fun x6 => graph_Cycle_12 Q E x3 l3 c3 x5 x6 H

theorem graph_Cycle_13ok  : Ok Pr (graph_Cycle_12_M Q E) (sA graph_Cycle_p5) (graph_Cycle_q6 Q E) E := fun τ H h =>
  wSl 3 h (fun x3 l3 c3 h => wP 5 h (fun x5 h => wI 6 h (fun x6 h => (conv (by kernel_rfl) h))))

theorem graph_Cycle_14ok  : Ok Pr (graph_Cycle_12_M Q E) graph_Cycle_p5 (graph_Cycle_q1 Q E) E := fun τ H h =>
  (conv (by kernel_rfl) (vc_seq (K := (graph_Cycle_8_M Q E)) (graph_Cycle_13ok Q E τ H h) (graph_Cycle_11ok Q E)))

noncomputable def graph_Cycle_q7  : XT := (xthen (graph_Cycle_12_M Q E) (graph_Cycle_q1 Q E))

def graph_Cycle_15 (Q : QT) (E : ET) (x3 : OA) (l3 c3 : Nat) (x5 : OA) (x6 : Int) (H : Heap) : Prop :=
 sel (decide (x6 < 0))
 (Q (.slice none 0 0) H)
 (graph_Cycle_12 Q E x3 l3 c3 x5 x6 H)

def graph_Cycle_15_M  (τ : Tau) (H : Heap) : Prop := mSl (τ 3) fun x3 l3 c3 => mP (τ 5) fun x5 => mI .i64 (τ 6) fun x6 => graph_Cycle_15 Q E x3 l3 c3 x5 x6 H

theorem graph_Cycle_16ok  : Ok Pr (graph_Cycle_15_M Q E) (sA (sB (sB graph_Cycle_p2))) (graph_Cycle_q7 Q E) E := fun τ H h =>
  wSl 3 h (fun x3 l3 c3 h => wP 5 h (fun x5 h => wI 6 h (fun x6 h => (conv (by kernel_rfl) h))))

theorem graph_Cycle_17ok  : Ok Pr (graph_Cycle_15_M Q E) (sB (sB graph_Cycle_p2)) (graph_Cycle_q1 Q E) E := fun τ H h =>
  (conv (by kernel_rfl) (vc_seq (K := (graph_Cycle_12_M Q E)) (graph_Cycle_16ok Q E τ H h) (graph_Cycle_14ok Q E)))

noncomputable def graph_Cycle_q8  : XT := (xthen (graph_Cycle_15_M Q E) (graph_Cycle_q1 Q E))

def graph_Cycle_18 (Q : QT) (E : ET) (x3 : OA) (l3 c3 : Nat) (x5 : OA) (H : Heap) : Prop :=
 ptr x5 fun q74 =>
 ldSl q74 H fun p75 l76 c77 =>
 Does Pr 19 #[(.slice p75 l76 c77), (.bool false)] H (fun v78 H79 =>
 ∃ n80 : Int, v78 = (.int .i64 n80) ∧ graph_Cycle_15 Q E x3 l3 c3 x5 n80 H79) E

def graph_Cycle_18_M  (τ : Tau) (H : Heap) : Prop := mSl (τ 3) fun x3 l3 c3 => mP (τ 5) fun x5 => graph_Cycle_18 Q E x3 l3 c3 x5 H

theorem graph_Cycle_19ok  : Ok Pr (graph_Cycle_18_M Q E) (sA (sB graph_Cycle_p2)) (graph_Cycle_q8 Q E) E := fun τ H h =>
  wSl 3 h (fun x3 l3 c3 h => wP 5 h (fun x5 h => (conv (by kernel_rfl) h)))

theorem graph_Cycle_20ok  : Ok Pr (graph_Cycle_18_M Q E) (sB graph_Cycle_p2) (graph_Cycle_q1 Q E) E := fun τ H h =>
  (conv (by kernel_rfl) (vc_seq (K := (graph_Cycle_15_M Q E)) (graph_Cycle_19ok Q E τ H h) (graph_Cycle_17ok Q E)))

def graph_Cycle_21 (Q : QT) (E : ET) (x3 : OA) (l3 c3 : Nat) (H : Heap) : Prop :=
 Does Pr 17 #[(.slice x3 l3 c3)] H (fun v81 H82 =>
 ∃ (p83 : OA) (l84 c85 : Nat), ∃ (p86 : OA) (l87 c88 : Nat), v81 = (.tuple #[(.slice p83 l84 c85), (.slice p86 l87 c88)]) ∧ nw (.cells #[(.slice none 0 0)] 41 (0, 0)) H82 fun i89 H90 =>
 wr ⟨i89, 0, none⟩ [(.slice p86 l87 c88)] H90 fun H91 =>
 graph_Cycle_18 Q E x3 l3 c3 (some ⟨i89, 0, none⟩) H91) E

def graph_Cycle_21_M  (τ : Tau) (H : Heap) : Prop := mSl (τ 3) fun x3 l3 c3 => graph_Cycle_21 Q E x3 l3 c3 H

theorem graph_Cycle_22ok  : Ok Pr (graph_Cycle_21_M Q E) (sA graph_Cycle_p2) (xthen (graph_Cycle_18_M Q E) (graph_Cycle_q1 Q E)) E := fun τ H h =>
  wSl 3 h (fun x3 l3 c3 h => (conv (by kernel_rfl) h))

theorem graph_Cycle_23ok  : Ok Pr (graph_Cycle_21_M Q E) graph_Cycle_p2 (graph_Cycle_q1 Q E) E := fun τ H h =>
  (conv (by kernel_rfl) (vc_seq (K := (graph_Cycle_18_M Q E)) (graph_Cycle_22ok Q E τ H h) (graph_Cycle_20ok Q E)))

def graph_Cycle_24 (Q : QT) (E : ET) (x0 : OA) (l0 c0 : Nat) (H : Heap) : Prop :=
 Does Pr 18 #[(.slice x0 l0 c0)] H (fun v92 H93 =>
 ∃ (p94 : OA) (l95 c96 : Nat), v92 = (.slice p94 l95 c96) ∧ graph_Cycle_21 Q E p94 l95 c96 H93) E

def graph_Cycle_24_M  (τ : Tau) (H : Heap) : Prop := mSl (τ 0) fun x0 l0 c0 => graph_Cycle_24 Q E x0 l0 c0 H

theorem graph_Cycle_25ok  : Ok Pr (graph_Cycle_24_M Q E) (sA (sB (bodyOf Try.f9))) (xthen (graph_Cycle_21_M Q E) (graph_Cycle_q1 Q E)) E := fun τ H h =>
  wSl 0 h (fun x0 l0 c0 h => (conv (by kernel_rfl) h))

theorem graph_Cycle_26ok  : Ok Pr (graph_Cycle_24_M Q E) (sB (bodyOf Try.f9)) (graph_Cycle_q1 Q E) E := fun τ H h =>
  (conv (by kernel_rfl) (vc_seq (K := (graph_Cycle_21_M Q E)) (graph_Cycle_25ok Q E τ H h) (graph_Cycle_23ok Q E)))

def graph_Cycle (Q : QT) (E : ET) (a0 : OA) (a0l : Nat) (a0c : Nat) (H : Heap) : Prop :=
 graph_Cycle_24 Q E a0 a0l a0c H

theorem graph_Cycle_fn (a0 : OA) (a0l : Nat) (a0c : Nat) (Q : QT) (E : ET) (H : Heap) (h : graph_Cycle Q E a0 a0l a0c H)   : Does Pr 9 #[(.slice a0 a0l a0c)] H Q E :=
  Fn_of_vc (fn := Try.f9) (c := (bodyOf Try.f9)) (args := [(.slice a0 a0l a0c)]) mixed (by kernel_rfl) (by kernel_rfl) (by kernel_rfl) (by kernel_rfl) (by kernel_rfl) ((conv (B := vc Pr (bodyOf Try.f9) (argT [(.slice a0 a0l a0c)]) (graph_Cycle_q1 Q E) E H) (by kernel_rfl) (vc_seq (K := (graph_Cycle_24_M Q E)) (conv (B := vc Pr (sA (bodyOf Try.f9)) (argT [(.slice a0 a0l a0c)]) (xthen (graph_Cycle_24_M Q E) (graph_Cycle_q1 Q E)) E H) (by kernel_rfl) h) (graph_Cycle_26ok Q E))))

/-! jobmux/graph.Needs -/
noncomputable def graph_Needs_q1 (Q : QT) (E : ET)  : XT := (retQ Pr (Try.f10).results.toList Q)

noncomputable def graph_Needs_p1 : Code := sB (bodyOf Try.f10)

noncomputable def graph_Needs_p3 : Code := sB (sB graph_Needs_p1)

def graph_Needs_1 (Q : QT) (E : ET) (x5 : OA) (l5 c5 : Nat) (H : Heap) : Prop :=
 Does Pr 25 #[(.slice x5 l5 c5)] H (fun v16 H17 =>
 Does Pr 26 #[(.slice x5 l5 c5)] H17 (fun v18 H19 =>
 ∃ (p20 : OA) (l21 c22 : Nat), v18 = (.slice p20 l21 c22) ∧ Q (.slice p20 l21 c22) H19) E) E

def graph_Needs_1_M  (τ : Tau) (H : Heap) : Prop := mSl (τ 5) fun x5 l5 c5 => graph_Needs_1 Q E x5 l5 c5 H

theorem graph_Needs_2ok  : Ok Pr (graph_Needs_1_M Q E) (sB graph_Needs_p3) (graph_Needs_q1 Q E) E := fun τ H h =>
  wSl 5 h (fun x5 l5 c5 h => (conv (by kernel_rfl) h))

noncomputable def graph_Needs_q2  : XT := (xthen (graph_Needs_1_M Q E) (graph_Needs_q1 Q E))

noncomputable def graph_Needs_q3  : XT := (xblock 0 (graph_Needs_q2 Q E))

noncomputable def graph_Needs_p7 : Code := sI (sB (sA graph_Needs_p3))

noncomputable def graph_Needs_q4 (nx27 : OA → Nat → Nat → Int → HP) : XT := (xthen (fun τ H => mSl (τ 5) fun x5' l5' c5' => mI .i64 (τ 23) fun x23' => nx27 x5' l5' c5' x23' H) (graph_Needs_q3 Q E))

noncomputable def graph_Needs_p9 : Code := sB (sI graph_Needs_p7)

def graph_Needs_3 (nx27 : OA → Nat → Nat → Int → HP) (Q : QT) (E : ET) (x0 : OA) (l0 c0 : Nat) (x5 : OA) (l5 c5 : Nat) (x21 : OA) (l21 c21 : Nat) (x22 x23 : Int) (H : Heap) : Prop :=
 nx27 x5 l5 c5 (IntKind.wrap .i64 (x23 + 1)) H

def graph_Needs_3_M (nx27 : OA → Nat → Nat → Int → HP) (τ : Tau) (H : Heap) : Prop := mSl (τ 0) fun x0 l0 c0 => mSl (τ 5) fun x5 l5 c5 => mSl (τ 21) fun x21 l21 c21 => mI .i64 (τ 22) fun x22 => mI .i64 (τ 23) fun x23 => graph_Needs_3 nx27 Q E x0 l0 c0 x5 l5 c5 x21 l21 c21 x22 x23 H

theorem graph_Needs_4ok (nx27 : OA → Nat → Nat → Int → HP) : Ok Pr (graph_Needs_3_M Q E nx27) (sB (sB graph_Needs_p9)) (graph_Needs_q4 Q E nx27) E := fun τ H h =>
  wSl 0 h (fun x0 l0 c0 h => wSl 5 h (fun x5 l5 c5 h => wSl 21 h (fun x21 l21 c21 h => wI 22 h (fun x22 h => wI 23 h (fun x23 h => (conv (by kernel_rfl) h))))))

noncomputable def graph_Needs_q5 (nx27 : OA → Nat → Nat → Int → HP) : XT := (xthen (graph_Needs_3_M Q E nx27) (graph_Needs_q4 Q E nx27))

def graph_Needs_5 (nx27 : OA → Nat → Nat → Int → HP) (Q : QT) (E : ET) (x0 : OA) (l0 c0 : Nat) (x5 : OA) (l5 c5 : Nat) (x21 : OA) (l21 c21 : Nat) (x22 x23 : Int) (H : Heap) : Prop :=
 (0 ≤ x23 ∧ x23 < (l21 : Int)) ∧ ptr x21 fun q39 =>
 ldS (Addr.add q39 (x23.toNat * 1)) H fun s40 =>
 Does Pr 24 #[(.slice x0 l0 c0), (.string s40)] H (fun v41 H42 =>
 ∃ n43 : Int, v41 = (.int .i64 n43) ∧ sel (decide (n43 ≥ 0))
 (nw (.cells #[(.int .i64 n43)] 3 (0, 0)) H42 fun i44 H45 =>
 app Pr 22 x5 l5 c5 (.slice (some ⟨i44, 0, none⟩) 1 1) H45 fun p46 l47 c48 H49 =>
 graph_Needs_3 nx27 Q E x0 l0 c0 p46 l47 c48 x21 l21 c21 x22 x23 H49)
 (graph_Needs_3 nx27 Q E x0 l0 c0 x5 l5 c5 x21 l21 c21 x22 x23 H42)) E

def graph_Needs_5_M (nx27 : OA → Nat → Nat → Int → HP) (τ : Tau) (H : Heap) : Prop := mSl (τ 0) fun x0 l0 c0 => mSl (τ 5) fun x5 l5 c5 => mSl (τ 21) fun x21 l21 c21 => mI .i64 (τ 22) fun x22 => mI .i64 (τ 23) fun x23 => graph_Needs_5 nx27 Q E x0 l0 c0 x5 l5 c5 x21 l21 c21 x22 x23 H

theorem graph_Needs_6ok (nx27 : OA → Nat → Nat → Int → HP) : Ok Pr (graph_Needs_5_M Q E nx27) (sA (sB graph_Needs_p9)) (graph_Needs_q5 Q E nx27) E := fun τ H h =>
  wSl 0 h (fun x0 l0 c0 h => wSl 5 h (fun x5 l5 c5 h => wSl 21 h (fun x21 l21 c21 h => wI 22 h (fun x22 h => wI 23 h (fun x23 h => (conv (by kernel_rfl) h))))))

theorem graph_Needs_7ok (nx27 : OA → Nat → Nat → Int → HP) : Ok Pr (graph_Needs_5_M Q E nx27) (sB graph_Needs_p9) (graph_Needs_q4 Q E nx27) E := fun τ H h =>
  (conv (by kernel_rfl) (vc_seq (K := (graph_Needs_3_M Q E nx27)) (graph_Needs_6ok Q E nx27 τ H h) (graph_Needs_4ok Q E nx27)))

noncomputable def graph_Needs_q6 (nx27 : OA → Nat → Nat → Int → HP) : XT := (xthen (graph_Needs_5_M Q E nx27) (graph_Needs_q4 Q E nx27))

def graph_Needs_8 (nx27 : OA → Nat → Nat → Int → HP) (Q : QT) (E : ET) (x0 : OA) (l0 c0 : Nat) (x5 : OA) (l5 c5 : Nat) (x21 : OA) (l21 c21 : Nat) (x22 x23 : Int) (x24 : Bool) (H : Heap) : Prop :=
 sel x24
 (graph_Needs_5 nx27 Q E x0 l0 c0 x5 l5 c5 x21 l21 c21 x22 x23 H)
 (graph_Needs_1 Q E x5 l5 c5 H)

def graph_Needs_8_M (nx27 : OA → Nat → Nat → Int → HP) (τ : Tau) (H : Heap) : Prop := mSl (τ 0) fun x0 l0 c0 => mSl (τ 5) fun x5 l5 c5 => mSl (τ 21) fun x21 l21 c21 => mI .i64 (τ 22) fun x22 => mI .i64 (τ 23) fun x23 => mB (τ 24) fun x24 => graph_Needs_8 nx27 Q E x0 l0 c0 x5 l5 c5 x21 l21 c21 x22 x23 x24 H

theorem graph_Needs_9ok (nx27 : OA → Nat → Nat → Int → HP) : Ok Pr (graph_Needs_8_M Q E nx27) (sA graph_Needs_p9) (graph_Needs_q6 Q E nx27) E := fun τ H h =>
  wSl 0 h (fun x0 l0 c0 h => wSl 5 h (fun x5 l5 c5 h => wSl 21 h (fun x21 l21 c21 h => wI 22 h (fun x22 h => wI 23 h (fun x23 h => wB 24 h (fun x24 h => (conv (by kernel_rfl) h)))))))

theorem graph_Needs_10ok (nx27 : OA → Nat → Nat → Int → HP) : Ok Pr (graph_Needs_8_M Q E nx27) graph_Needs_p9 (graph_Needs_q4 Q E nx27) E := fun τ H h =>
  (conv (by kernel_rfl) (vc_seq (K := (graph_Needs_5_M Q E nx27)) (graph_Needs_9ok Q E nx27 τ H h) (graph_Needs_7ok Q E nx27)))

noncomputable def graph_Needs_q7 (nx27 : OA → Nat → Nat → Int → HP) : XT := (xthen (graph_Needs_8_M Q E nx27) (graph_Needs_q4 Q E nx27))

def graph_Needs_11 (nx27 : OA → Nat → Nat → Int → HP) (Q : QT) (E : ET) (x0 : OA) (l0 c0 : Nat) (x5 : OA) (l5 c5 : Nat) (x21 : OA) (l21 c21 : Nat) (x22 x23 : Int) (H : Heap) : Prop :=
 graph_Needs_8 nx27 Q E x0 l0 c0 x5 l5 c5 x21 l21 c21 x22 x23 (decide (x23 < x22)) H

def graph_Needs_11_M (nx27 : OA → Nat → Nat → Int → HP) (τ : Tau) (H : Heap) : Prop := mSl (τ 0) fun x0 l0 c0 => mSl (τ 5) fun x5 l5 c5 => mSl (τ 21) fun x21 l21 c21 => mI .i64 (τ 22) fun x22 => mI .i64 (τ 23) fun x23 => graph_Needs_11 nx27 Q E x0 l0 c0 x5 l5 c5 x21 l21 c21 x22 x23 H

theorem graph_Needs_12ok (nx27 : OA → Nat → Nat → Int → HP) : Ok Pr (graph_Needs_11_M Q E nx27) (sA (sI graph_Needs_p7)) (graph_Needs_q7 Q E nx27) E := fun τ H h =>
  wSl 0 h (fun x0 l0 c0 h => wSl 5 h (fun x5 l5 c5 h => wSl 21 h (fun x21 l21 c21 h => wI 22 h (fun x22 h => wI 23 h (fun x23 h => (conv (by kernel_rfl) h))))))

theorem graph_Needs_13ok (nx27 : OA → Nat → Nat → Int → HP) : Ok Pr (graph_Needs_11_M Q E nx27) (sI graph_Needs_p7) (graph_Needs_q4 Q E nx27) E := fun τ H h =>
  (conv (by kernel_rfl) (vc_seq (K := (graph_Needs_8_M Q E nx27)) (graph_Needs_12ok Q E nx27 τ H h) (graph_Needs_10ok Q E nx27)))

def graph_Needs_14 (Q : QT) (E : ET) (x0 : OA) (l0 c0 : Nat) (x21 : OA) (l21 c21 : Nat) (x22 : Int) (x5 : OA) (l5 c5 : Nat) (x23 : Int) (H : Heap) : Prop :=
 ∃ (I : OA → Nat → Nat → Int → HP) (μ : OA → Nat → Nat → Int → Heap → Nat), I x5 l5 c5 x23 H ∧ ∀ (x5 : OA) (l5 c5 : Nat) (x23 : Int) (H : Heap), I x5 l5 c5 x23 H →
 graph_Needs_11 (fun x5' l5' c5' x23' H1 => I x5' l5' c5' x23' H1 ∧ μ x5' l5' c5' x23' H1 < μ x5 l5 c5 x23 H) Q E x0 l0 c0 x5 l5 c5 x21 l21 c21 x22 x23 H

def graph_Needs_14_M  (τ : Tau) (H : Heap) : Prop := mSl (τ 0) fun x0 l0 c0 => mSl (τ 21) fun x21 l21 c21 => mI .i64 (τ 22) fun x22 => mSl (τ 5) fun x5 l5 c5 => mI .i64 (τ 23) fun x23 => graph_Needs_14 Q E x0 l0 c0 x21 l21 c21 x22 x5 l5 c5 x23 H

theorem graph_Needs_15ok  : Ok Pr (graph_Needs_14_M Q E) graph_Needs_p7 (graph_Needs_q3 Q E) E := fun τ H h =>
  wSl 0 h (fun x0 l0 c0 h => wSl 21 h (fun x21 l21 c21 h => wI 22 h (fun x22 h => wSl 5 h (fun x5 l5 c5 h => wI 23 h (fun x23 h => match h with | ⟨I, μ, h0, hr⟩ => (conv (by kernel_rfl) (vc_loopG (c := sI graph_Needs_p7) (τ := (Tau.upd (Tau.upd (Tau.upd (Tau.upd (Tau.upd τ 0 (.slice x0 l0 c0)) 21 (.slice x21 l21 c21)) 22 (.int .i64 x22)) 5 (.slice x5 l5 c5)) 23 (.int .i64 x23))) [0, 21, 22] (fun τ H => mSl (τ 5) fun x5' l5' c5' => mI .i64 (τ 23) fun x23' => I x5' l5' c5' x23' H) (fun τ H => μ (gL1 (τ 5)) (gL2 (τ 5)) (gL3 (τ 5)) (gI (τ 23)) H) (by kernel_rfl) h0 (fun τ1 H1 hf hI => uF 0 (.slice x0 l0 c0) (hf 0 (by simp)) (uF 21 (.slice x21 l21 c21) (hf 21 (by simp)) (uF 22 (.int .i64 x22) (hf 22 (by simp)) (uSl 5 hI (fun x5r l5r c5r h => uI 23 h (fun x23r h => lgx (graph_Needs_13ok Q E (fun x5' l5' c5' x23' H2 => I x5' l5' c5' x23' H2 ∧ μ x5' l5' c5' x23' H2 < μ x5r l5r c5r x23r H1) (Tau.upd (Tau.upd (Tau.upd (Tau.upd (Tau.upd τ1 0 (.slice x0 l0 c0)) 21 (.slice x21 l21 c21)) 22 (.int .i64 x22)) 5 (.slice x5r l5r c5r)) 23 (.int .i64 x23r)) H1 (conv (by kernel_rfl) (hr x5r l5r c5r x23r H1 h))) (fun τ2 H2 hk => kSl 5 hk (fun x5' l5' c5' h => kI 23 h (fun x23' h => conv (by kernel_rfl) h))))))))))))))))

theorem graph_Needs_16ok  : Ok Pr (graph_Needs_14_M Q E) (sB (sA graph_Needs_p3)) (graph_Needs_q2 Q E) E := fun τ H h =>
  (conv (by kernel_rfl) (graph_Needs_15ok Q E τ H h))

noncomputable def graph_Needs_q8  : XT := (xthen (graph_Needs_14_M Q E) (graph_Needs_q2 Q E))

def graph_Needs_17 (Q : QT) (E : ET) (x0 : OA) (l0 c0 : Nat) (x1 : Int) (x5 : OA) (l5 c5 : Nat) (H : Heap) : Prop :=
 (0 ≤ x1 ∧ x1 < (l0 : Int)) ∧ ptr x0 fun q50 =>
 ldSl (Addr.add (Addr.add q50 (x1.toNat * 15)) 3) H fun p51 l52 c53 =>
 graph_Needs_14 Q E x0 l0 c0 p51 l52 c53 (l52 : Int) x5 l5 c5 0 H

def graph_Needs_17_M  (τ : Tau) (H : Heap) : Prop := mSl (τ 0) fun x0 l0 c0 => mI .i64 (τ 1) fun x1 => mSl (τ 5) fun x5 l5 c5 => graph_Needs_17 Q E x0 l0 c0 x1 x5 l5 c5 H

theorem graph_Needs_18ok  : Ok Pr (graph_Needs_17_M Q E) (sA (sA graph_Needs_p3)) (graph_Needs_q8 Q E) E := fun τ H h =>
  wSl 0 h (fun x0 l0 c0 h => wI 1 h (fun x1 h => wSl 5 h (fun x5 l5 c5 h => (conv (by kernel_rfl) h))))

theorem graph_Needs_19ok  : Ok Pr (graph_Needs_17_M Q E) (sA graph_Needs_p3) (graph_Needs_q2 Q E) E := fun τ H h =>
  (conv (by kernel_rfl) (vc_seq (K := (graph_Needs_14_M Q E)) (graph_Needs_18ok Q E τ H h) (graph_Needs_16ok Q E)))

theorem graph_Needs_20ok  : Ok Pr (graph_Needs_17_M Q E) graph_Needs_p3 (graph_Needs_q1 Q E) E := fun τ H h =>
  (conv (by kernel_rfl) (vc_seq (K := (graph_Needs_1_M Q E)) (graph_Needs_19ok Q E τ H h) (graph_Needs_2ok Q E)))

noncomputable def graph_Needs_q9  : XT := (xthen (graph_Needs_17_M Q E) (graph_Needs_q1 Q E))

def graph_Needs_21 (Q : QT) (E : ET) (x0 : OA) (l0 c0 : Nat) (x1 : Int) (H : Heap) : Prop :=
 graph_Needs_17 Q E x0 l0 c0 x1 none 0 0 H

def graph_Needs_21_M  (τ : Tau) (H : Heap) : Prop := mSl (τ 0) fun x0 l0 c0 => mI .i64 (τ 1) fun x1 => graph_Needs_21 Q E x0 l0 c0 x1 H

theorem graph_Needs_22ok  : Ok Pr (graph_Needs_21_M Q E) (sA (sB graph_Needs_p1)) (graph_Needs_q9 Q E) E := fun τ H h =>
  wSl 0 h (fun x0 l0 c0 h => wI 1 h (fun x1 h => (conv (by kernel_rfl) h)))

theorem graph_Needs_23ok  : Ok Pr (graph_Needs_21_M Q E) (sB graph_Needs_p1) (graph_Needs_q1 Q E) E := fun τ H h =>
  (conv (by kernel_rfl) (vc_seq (K := (graph_Needs_17_M Q E)) (graph_Needs_22ok Q E τ H h) (graph_Needs_20ok Q E)))

noncomputable def graph_Needs_q10  : XT := (xthen (graph_Needs_21_M Q E) (graph_Needs_q1 Q E))

def graph_Needs_24 (Q : QT) (E : ET) (x0 : OA) (l0 c0 : Nat) (x1 : Int) (x16 : Bool) (H : Heap) : Prop :=
 sel x16
 (Q (.slice none 0 0) H)
 (graph_Needs_21 Q E x0 l0 c0 x1 H)

def graph_Needs_24_M  (τ : Tau) (H : Heap) : Prop := mSl (τ 0) fun x0 l0 c0 => mI .i64 (τ 1) fun x1 => mB (τ 16) fun x16 => graph_Needs_24 Q E x0 l0 c0 x1 x16 H

theorem graph_Needs_25ok  : Ok Pr (graph_Needs_24_M Q E) (sB (sA graph_Needs_p1)) (graph_Needs_q10 Q E) E := fun τ H h =>
  wSl 0 h (fun x0 l0 c0 h => wI 1 h (fun x1 h => wB 16 h (fun x16 h => (conv (by kernel_rfl) h))))

noncomputable def graph_Needs_q11  : XT := (xthen (graph_Needs_24_M Q E) (graph_Needs_q10 Q E))

def graph_Needs_26 (Q : QT) (E : ET) (x0 : OA) (l0 c0 : Nat) (x1 : Int) (H : Heap) : Prop :=
 sel (decide (x1 < 0))
 (graph_Needs_24 Q E x0 l0 c0 x1 true H)
 (graph_Needs_24 Q E x0 l0 c0 x1 (decide (x1 ≥ (l0 : Int))) H)

def graph_Needs_26_M  (τ : Tau) (H : Heap) : Prop := mSl (τ 0) fun x0 l0 c0 => mI .i64 (τ 1) fun x1 => graph_Needs_26 Q E x0 l0 c0 x1 H

theorem graph_Needs_27ok  : Ok Pr (graph_Needs_26_M Q E) (sA (sA graph_Needs_p1)) (graph_Needs_q11 Q E) E := fun τ H h =>
  wSl 0 h (fun x0 l0 c0 h => wI 1 h (fun x1 h => (conv (by kernel_rfl) h)))

theorem graph_Needs_28ok  : Ok Pr (graph_Needs_26_M Q E) (sA graph_Needs_p1) (graph_Needs_q10 Q E) E := fun τ H h =>
  (conv (by kernel_rfl) (vc_seq (K := (graph_Needs_24_M Q E)) (graph_Needs_27ok Q E τ H h) (graph_Needs_25ok Q E)))

theorem graph_Needs_29ok  : Ok Pr (graph_Needs_26_M Q E) graph_Needs_p1 (graph_Needs_q1 Q E) E := fun τ H h =>
  (conv (by kernel_rfl) (vc_seq (K := (graph_Needs_21_M Q E)) (graph_Needs_28ok Q E τ H h) (graph_Needs_23ok Q E)))

def graph_Needs (Q : QT) (E : ET) (a0 : OA) (a0l : Nat) (a0c : Nat) (a1 : Int) (H : Heap) : Prop :=
 graph_Needs_26 Q E a0 a0l a0c a1 H

theorem graph_Needs_fn (a0 : OA) (a0l : Nat) (a0c : Nat) (a1 : Int) (Q : QT) (E : ET) (H : Heap) (h : graph_Needs Q E a0 a0l a0c a1 H)   : Does Pr 10 #[(.slice a0 a0l a0c), (.int .i64 a1)] H Q E :=
  Fn_of_vc (fn := Try.f10) (c := (bodyOf Try.f10)) (args := [(.slice a0 a0l a0c), (.int .i64 a1)]) mixed (by kernel_rfl) (by kernel_rfl) (by kernel_rfl) (by kernel_rfl) (by kernel_rfl) ((conv (B := vc Pr (bodyOf Try.f10) (argT [(.slice a0 a0l a0c), (.int .i64 a1)]) (graph_Needs_q1 Q E) E H) (by kernel_rfl) (vc_seq (K := (graph_Needs_26_M Q E)) (conv (B := vc Pr (sA (bodyOf Try.f10)) (argT [(.slice a0 a0l a0c), (.int .i64 a1)]) (xthen (graph_Needs_26_M Q E) (graph_Needs_q1 Q E)) E H) (by kernel_rfl) h) (graph_Needs_29ok Q E))))

/-! jobmux/graph.Dependents -/
noncomputable def graph_Dependents_q1 (Q : QT) (E : ET)  : XT := (retQ Pr (Try.f13).results.toList Q)

noncomputable def graph_Dependents_p2 : Code := sB (sB (bodyOf Try.f13))

noncomputable def graph_Dependents_p4 : Code := sB (sB graph_Dependents_p2)

def graph_Dependents_1 (Q : QT) (E : ET) (x10 : OA) (l10 c10 : Nat) (H : Heap) : Prop :=
 Q (.slice x10 l10 c10) H

def graph_Dependents_1_M  (τ : Tau) (H : Heap) : Prop := mSl (τ 10) fun x10 l10 c10 => graph_Dependents_1 Q E x10 l10 c10 H

theorem graph_Dependents_2ok  : Ok Pr (graph_Dependents_1_M Q E) (sB (sB graph_Dependents_p4)) (graph_Dependents_q1 Q E) E := fun τ H h =>
  wSl 10 h (fun x10 l10 c10 h => (conv (by kernel_rfl) h))

noncomputable def graph_Dependents_q2  : XT := (xthen (graph_Dependents_1_M Q E) (graph_Dependents_q1 Q E))

noncomputable def graph_Dependents_p8 : Code := sB (sA (sB graph_Dependents_p4))

noncomputable def graph_Dependents_q4 (nx33 : OA → Nat → Nat → Int → HP) : XT := (xthen (fun τ H => mSl (τ 10) fun x10' l10' c10' => mI .i64 (τ 54) fun x54' => nx33 x10' l10' c10' x54' H) (xblock 4 (graph_Dependents_q2 Q E)))

noncomputable def graph_Dependents_p11 : Code := sB (sI (sI graph_Dependents_p8))

def graph_Dependents_3 (nx33 : OA → Nat → Nat → Int → HP) (Q : QT) (E : ET) (x10 : OA) (l10 c10 : Nat) (x52 : OA) (l52 c52 : Nat) (x53 x54 : Int) (H : Heap) : Prop :=
 nx33 x10 l10 c10 (IntKind.wrap .i64 (x54 + 1)) H

def graph_Dependents_3_M (nx33 : OA → Nat → Nat → Int → HP) (τ : Tau) (H : Heap) : Prop := mSl (τ 10) fun x10 l10 c10 => mSl (τ 52) fun x52 l52 c52 => mI .i64 (τ 53) fun x53 => mI .i64 (τ 54) fun x54 => graph_Dependents_3 nx33 Q E x10 l10 c10 x52 l52 c52 x53 x54 H

theorem graph_Dependents_4ok (nx33 : OA → Nat → Nat → Int → HP) : Ok Pr (graph_Dependents_3_M Q E nx33) (sB (sB graph_Dependents_p11)) (graph_Dependents_q4 Q E nx33) E := fun τ H h =>
  wSl 10 h (fun x10 l10 c10 h => wSl 52 h (fun x52 l52 c52 h => wI 53 h (fun x53 h => wI 54 h (fun x54 h => (conv (by kernel_rfl) h)))))

noncomputable def graph_Dependents_q5 (nx33 : OA → Nat → Nat → Int → HP) : XT := (xthen (graph_Dependents_3_M Q E nx33) (graph_Dependents_q4 Q E nx33))

def graph_Dependents_5 (nx33 : OA → Nat → Nat → Int → HP) (Q : QT) (E : ET) (x10 : OA) (l10 c10 : Nat) (x52 : OA) (l52 c52 : Nat) (x53 x54 : Int) (H : Heap) : Prop :=
 (0 ≤ x54 ∧ x54 < (l52 : Int)) ∧ ptr x52 fun q42 =>
 ldB (Addr.add q42 (x54.toNat * 1)) H fun b43 =>
 sel b43
 (nw (.cells #[(.int .i64 x54)] 3 (0, 0)) H fun i44 H45 =>
 app Pr 22 x10 l10 c10 (.slice (some ⟨i44, 0, none⟩) 1 1) H45 fun p46 l47 c48 H49 =>
 graph_Dependents_3 nx33 Q E p46 l47 c48 x52 l52 c52 x53 x54 H49)
 (graph_Dependents_3 nx33 Q E x10 l10 c10 x52 l52 c52 x53 x54 H)

def graph_Dependents_5_M (nx33 : OA → Nat → Nat → Int → HP) (τ : Tau) (H : Heap) : Prop := mSl (τ 10) fun x10 l10 c10 => mSl (τ 52) fun x52 l52 c52 => mI .i64 (τ 53) fun x53 => mI .i64 (τ 54) fun x54 => graph_Dependents_5 nx33 Q E x10 l10 c10 x52 l52 c52 x53 x54 H

theorem graph_Dependents_6ok (nx33 : OA → Nat → Nat → Int → HP) : Ok Pr (graph_Dependents_5_M Q E nx33) (sA (sB graph_Dependents_p11)) (graph_Dependents_q5 Q E nx33) E := fun τ H h =>
  wSl 10 h (fun x10 l10 c10 h => wSl 52 h (fun x52 l52 c52 h => wI 53 h (fun x53 h => wI 54 h (fun x54 h => (conv (by kernel_rfl) h)))))

theorem graph_Dependents_7ok (nx33 : OA → Nat → Nat → Int → HP) : Ok Pr (graph_Dependents_5_M Q E nx33) (sB graph_Dependents_p11) (graph_Dependents_q4 Q E nx33) E := fun τ H h =>
  (conv (by kernel_rfl) (vc_seq (K := (graph_Dependents_3_M Q E nx33)) (graph_Dependents_6ok Q E nx33 τ H h) (graph_Dependents_4ok Q E nx33)))

noncomputable def graph_Dependents_q6 (nx33 : OA → Nat → Nat → Int → HP) : XT := (xthen (graph_Dependents_5_M Q E nx33) (graph_Dependents_q4 Q E nx33))

def graph_Dependents_8 (nx33 : OA → Nat → Nat → Int → HP) (Q : QT) (E : ET) (x10 : OA) (l10 c10 : Nat) (x52 : OA) (l52 c52 : Nat) (x53 x54 : Int) (x55 : Bool) (H : Heap) : Prop :=
 sel x55
 (graph_Dependents_5 nx33 Q E x10 l10 c10 x52 l52 c52 x53 x54 H)
 (graph_Dependents_1 Q E x10 l10 c10 H)

def graph_Dependents_8_M (nx33 : OA → Nat → Nat → Int → HP) (τ : Tau) (H : Heap) : Prop := mSl (τ 10) fun x10 l10 c10 => mSl (τ 52) fun x52 l52 c52 => mI .i64 (τ 53) fun x53 => mI .i64 (τ 54) fun x54 => mB (τ 55) fun x55 => graph_Dependents_8 nx33 Q E x10 l10 c10 x52 l52 c52 x53 x54 x55 H

theorem graph_Dependents_9ok (nx33 : OA → Nat → Nat → Int → HP) : Ok Pr (graph_Dependents_8_M Q E nx33) (sA graph_Dependents_p11) (graph_Dependents_q6 Q E nx33) E := fun τ H h =>
  wSl 10 h (fun x10 l10 c10 h => wSl 52 h (fun x52 l52 c52 h => wI 53 h (fun x53 h => wI 54 h (fun x54 h => wB 55 h (fun x55 h => (conv (by kernel_rfl) h))))))

theorem graph_Dependents_10ok (nx33 : OA → Nat → Nat → Int → HP) : Ok Pr (graph_Dependents_8_M Q E nx33) graph_Dependents_p11 (graph_Dependents_q4 Q E nx33) E := fun τ H h =>
  (conv (by kernel_rfl) (vc_seq (K := (graph_Dependents_5_M Q E nx33)) (graph_Dependents_9ok Q E nx33 τ H h) (graph_Dependents_7ok Q E nx33)))

noncomputable def graph_Dependents_q7 (nx33 : OA → Nat → Nat → Int → HP) : XT := (xthen (graph_Dependents_8_M Q E nx33) (graph_Dependents_q4 Q E nx33))

def graph_Dependents_11 (nx33 : OA → Nat → Nat → Int → HP) (Q : QT) (E : ET) (x10 : OA) (l10 c10 : Nat) (x52 : OA) (l52 c52 : Nat) (x53 x54 : Int) (H : Heap) : Prop :=
 graph_Dependents_8 nx33 Q E x10 l10 c10 x52 l52 c52 x53 x54 (decide (x54 < x53)) H

def graph_Dependents_11_M (nx33 : OA → Nat → Nat → Int → HP) (τ : Tau) (H : Heap) : Prop := mSl (τ 10) fun x10 l10 c10 => mSl (τ 52) fun x52 l52 c52 => mI .i64 (τ 53) fun x53 => mI .i64 (τ 54) fun x54 => graph_Dependents_11 nx33 Q E x10 l10 c10 x52 l52 c52 x53 x54 H

theorem graph_Dependents_12ok (nx33 : OA → Nat → Nat → Int → HP) : Ok Pr (graph_Dependents_11_M Q E nx33) (sA (sI (sI graph_Dependents_p8))) (graph_Dependents_q7 Q E nx33) E := fun τ H h =>
  wSl 10 h (fun x10 l10 c10 h => wSl 52 h (fun x52 l52 c52 h => wI 53 h (fun x53 h => wI 54 h (fun x54 h => (conv (by kernel_rfl) h)))))

theorem graph_Dependents_13ok (nx33 : OA → Nat → Nat → Int → HP) : Ok Pr (graph_Dependents_11_M Q E nx33) (sI (sI graph_Dependents_p8)) (graph_Dependents_q4 Q E nx33) E := fun τ H h =>
  (conv (by kernel_rfl) (vc_seq (K := (graph_Dependents_8_M Q E nx33)) (graph_Dependents_12ok Q E nx33 τ H h) (graph_Dependents_10ok Q E nx33)))

def graph_Dependents_14 (Q : QT) (E : ET) (x52 : OA) (l52 c52 : Nat) (x53 : Int) (x10 : OA) (l10 c10 : Nat) (x54 : Int) (H : Heap) : Prop :=
 ∃ (I : OA → Nat → Nat → Int → HP) (μ : OA → Nat → Nat → Int → Heap → Nat), I x10 l10 c10 x54 H ∧ ∀ (x10 : OA) (l10 c10 : Nat) (x54 : Int) (H : Heap), I x10 l10 c10 x54 H →
 graph_Dependents_11 (fun x10' l10' c10' x54' H1 => I x10' l10' c10' x54' H1 ∧ μ x10' l10' c10' x54' H1 < μ x10 l10 c10 x54 H) Q E x10 l10 c10 x52 l52 c52 x53 x54 H

def graph_Dependents_14_M  (τ : Tau) (H : Heap) : Prop := mSl (τ 52) fun x52 l52 c52 => mI .i64 (τ 53) fun x53 => mSl (τ 10) fun x10 l10 c10 => mI .i64 (τ 54) fun x54 => graph_Dependents_14 Q E x52 l52 c52 x53 x10 l10 c10 x54 H

theorem graph_Dependents_15ok  : Ok Pr (graph_Dependents_14_M Q E) (sI graph_Dependents_p8) (xblock 4 (graph_Dependents_q2 Q E)) E := fun τ H h =>
  wSl 52 h (fun x52 l52 c52 h => wI 53 h (fun x53 h => wSl 10 h (fun x10 l10 c10 h => wI 54 h (fun x54 h => match h with | ⟨I, μ, h0, hr⟩ => (conv (by kernel_rfl) (vc_loopG (c := sI (sI graph_Dependents_p8)) (τ := (Tau.upd (Tau.upd (Tau.upd (Tau.upd τ 52 (.slice x52 l52 c52)) 53 (.int .i64 x53)) 10 (.slice x10 l10 c10)) 54 (.int .i64 x54))) [52, 53] (fun τ H => mSl (τ 10) fun x10' l10' c10' => mI .i64 (τ 54) fun x54' => I x10' l10' c10' x54' H) (fun τ H => μ (gL1 (τ 10)) (gL2 (τ 10)) (gL3 (τ 10)) (gI (τ 54)) H) (by kernel_rfl) h0 (fun τ1 H1 hf hI => uF 52 (.slice x52 l52 c52) (hf 52 (by simp)) (uF 53 (.int .i64 x53) (hf 53 (by simp)) (uSl 10 hI (fun x10r l10r c10r h => uI 54 h (fun x54r h => lgx (graph_Dependents_13ok Q E (fun x10' l10' c10' x54' H2 => I x10' l10' c10' x54' H2 ∧ μ x10' l10' c10' x54' H2 < μ x10r l10r c10r x54r H1) (Tau.upd (Tau.upd (Tau.upd (Tau.upd τ1 52 (.slice x52 l52 c52)) 53 (.int .i64 x53)) 10 (.slice x10r l10r c10r)) 54 (.int .i64 x54r)) H1 (conv (by kernel_rfl) (hr x10r l10r c10r x54r H1 h))) (fun τ2 H2 hk => kSl 10 hk (fun x10' l10' c10' h => kI 54 h (fun x54' h => conv (by kernel_rfl) h))))))))))))))

theorem graph_Dependents_16ok  : Ok Pr (graph_Dependents_14_M Q E) graph_Dependents_p8 (graph_Dependents_q2 Q E) E := fun τ H h =>
  (conv (by kernel_rfl) (graph_Dependents_15ok Q E τ H h))

noncomputable def graph_Dependents_q8  : XT := (xthen (graph_Dependents_14_M Q E) (graph_Dependents_q2 Q E))

def graph_Dependents_17 (Q : QT) (E : ET) (x6 : OA) (l6 c6 : Nat) (x10 : OA) (l10 c10 : Nat) (H : Heap) : Prop :=
 graph_Dependents_14 Q E x6 l6 c6 (l6 : Int) x10 l10 c10 0 H

def graph_Dependents_17_M  (τ : Tau) (H : Heap) : Prop := mSl (τ 6) fun x6 l6 c6 => mSl (τ 10) fun x10 l10 c10 => graph_Dependents_17 Q E x6 l6 c6 x10 l10 c10 H

theorem graph_Dependents_18ok  : Ok Pr (graph_Dependents_17_M Q E) (sA (sA (sB graph_Dependents_p4))) (graph_Dependents_q8 Q E) E := fun τ H h =>
  wSl 6 h (fun x6 l6 c6 h => wSl 10 h (fun x10 l10 c10 h => (conv (by kernel_rfl) h)))

theorem graph_Dependents_19ok  : Ok Pr (graph_Dependents_17_M Q E) (sA (sB graph_Dependents_p4)) (graph_Dependents_q2 Q E) E := fun τ H h =>
  (conv (by kernel_rfl) (vc_seq (K := (graph_Dependents_14_M Q E)) (graph_Dependents_18ok Q E τ H h) (graph_Dependents_16ok Q E)))

theorem graph_Dependents_20ok  : Ok Pr (graph_Dependents_17_M Q E) (sB graph_Dependents_p4) (graph_Dependents_q1 Q E) E := fun τ H h =>
  (conv (by kernel_rfl) (vc_seq (K := (graph_Dependents_1_M Q E)) (graph_Dependents_19ok Q E τ H h) (graph_Dependents_2ok Q E)))

def graph_Dependents_21 (Q : QT) (E : ET) (x6 : OA) (l6 c6 : Nat) (H : Heap) : Prop :=
 graph_Dependents_17 Q E x6 l6 c6 none 0 0 H

def graph_Dependents_21_M  (τ : Tau) (H : Heap) : Prop := mSl (τ 6) fun x6 l6 c6 => graph_Dependents_21 Q E x6 l6 c6 H

theorem graph_Dependents_22ok  : Ok Pr (graph_Dependents_21_M Q E) (sA graph_Dependents_p4) (xthen (graph_Dependents_17_M Q E) (graph_Dependents_q1 Q E)) E := fun τ H h =>
  wSl 6 h (fun x6 l6 c6 h => (conv (by kernel_rfl) h))

theorem graph_Dependents_23ok  : Ok Pr (graph_Dependents_21_M Q E) graph_Dependents_p4 (graph_Dependents_q1 Q E) E := fun τ H h =>
  (conv (by kernel_rfl) (vc_seq (K := (graph_Dependents_17_M Q E)) (graph_Dependents_22ok Q E τ H h) (graph_Dependents_20ok Q E)))

noncomputable def graph_Dependents_q10  : XT := (xthen (graph_Dependents_21_M Q E) (graph_Dependents_q1 Q E))

noncomputable def graph_Dependents_p21 : Code := sI (sB (sA (sB graph_Dependents_p2)))

noncomputable def graph_Dependents_q12 (nx52 : OA → Nat → Nat → HP) : XT := (xthen (fun τ H => mSl (τ 7) fun x7' l7' c7' => nx52 x7' l7' c7' H) (xblock 0 (graph_Dependents_q10 Q E)))

def graph_Dependents_24 (nx52 : OA → Nat → Nat → HP) (Q : QT) (E : ET) (x5 : OA) (l5 c5 : Nat) (x6 : OA) (l6 c6 : Nat) (x7 : OA) (l7 c7 : Nat) (H : Heap) : Prop :=
 (0 ≤ (1 : Int) ∧ (1 : Int) ≤ (l7 : Int)) ∧ nx52 (if c7 = (1 : Int).toNat then x7 else Option.map (fun a => Addr.add a ((1 : Int).toNat * 1)) x7) (l7 - (1 : Int).toNat) (c7 - (1 : Int).toNat) H

def graph_Dependents_24_M (nx52 : OA → Nat → Nat → HP) (τ : Tau) (H : Heap) : Prop := mSl (τ 5) fun x5 l5 c5 => mSl (τ 6) fun x6 l6 c6 => mSl (τ 7) fun x7 l7 c7 => graph_Dependents_24 nx52 Q E x5 l5 c5 x6 l6 c6 x7 l7 c7 H

theorem graph_Dependents_25ok (nx52 : OA → Nat → Nat → HP) : Ok Pr (graph_Dependents_24_M Q E nx52) (sB (sB (sI graph_Dependents_p21))) (graph_Dependents_q12 Q E nx52) E := fun τ H h =>
  wSl 5 h (fun x5 l5 c5 h => wSl 6 h (fun x6 l6 c6 h => wSl 7 h (fun x7 l7 c7 h => (conv (by kernel_rfl) h))))

noncomputable def graph_Dependents_q14 (nx52 : OA → Nat → Nat → HP) : XT := (xblock 1 (xthen (graph_Dependents_24_M Q E nx52) (graph_Dependents_q12 Q E nx52)))

noncomputable def graph_Dependents_p26 : Code := sI (sA (sB (sI graph_Dependents_p21)))

noncomputable def graph_Dependents_q16 (nx52 : OA → Nat → Nat → HP) (nx72 : OA → Nat → Nat → Int → HP) : XT := (xthen (fun τ H => mSl (τ 7) fun x7' l7' c7' => mI .i64 (τ 27) fun x27' => nx72 x7' l7' c7' x27' H) (xblock 2 (graph_Dependents_q14 Q E nx52)))

noncomputable def graph_Dependents_p29 : Code := sI (sI (sB graph_Dependents_p26))

noncomputable def graph_Dependents_p31 : Code := sB (sB graph_Dependents_p29)

def graph_Dependents_26 (nx52 : OA → Nat → Nat → HP) (nx72 : OA → Nat → Nat → Int → HP) (Q : QT) (E : ET) (x5 : OA) (l5 c5 : Nat) (x6 : OA) (l6 c6 : Nat) (x7 : OA) (l7 c7 : Nat) (x25 : OA) (l25 c25 : Nat) (x26 x27 : Int) (H : Heap) : Prop :=
 nx72 x7 l7 c7 (IntKind.wrap .i64 (x27 + 1)) H

def graph_Dependents_26_M (nx52 : OA → Nat → Nat → HP) (nx72 : OA → Nat → Nat → Int → HP) (τ : Tau) (H : Heap) : Prop := mSl (τ 5) fun x5 l5 c5 => mSl (τ 6) fun x6 l6 c6 => mSl (τ 7) fun x7 l7 c7 => mSl (τ 25) fun x25 l25 c25 => mI .i64 (τ 26) fun x26 => mI .i64 (τ 27) fun x27 => graph_Dependents_26 nx52 nx72 Q E x5 l5 c5 x6 l6 c6 x7 l7 c7 x25 l25 c25 x26 x27 H

theorem graph_Dependents_27ok (nx52 : OA → Nat → Nat → HP) (nx72 : OA → Nat → Nat → Int → HP) : Ok Pr (graph_Dependents_26_M Q E nx52 nx72) (sB graph_Dependents_p31) (graph_Dependents_q16 Q E nx52 nx72) E := fun τ H h =>
  wSl 5 h (fun x5 l5 c5 h => wSl 6 h (fun x6 l6 c6 h => wSl 7 h (fun x7 l7 c7 h => wSl 25 h (fun x25 l25 c25 h => wI 26 h (fun x26 h => wI 27 h (fun x27 h => (conv (by kernel_rfl) h)))))))

noncomputable def graph_Dependents_q17 (nx52 : OA → Nat → Nat → HP) (nx72 : OA → Nat → Nat → Int → HP) : XT := (xthen (graph_Dependents_26_M Q E nx52 nx72) (graph_Dependents_q16 Q E nx52 nx72))

noncomputable def graph_Dependents_p35 : Code := sB (sI (sA graph_Dependents_p31))

def graph_Dependents_28 (nx52 : OA → Nat → Nat → HP) (nx72 : OA → Nat → Nat → Int → HP) (Q : QT) (E : ET) (x5 : OA) (l5 c5 : Nat) (x6 : OA) (l6 c6 : Nat) (x7 : OA) (l7 c7 : Nat) (x8 : Int) (x25 : OA) (l25 c25 : Nat) (x26 x27 : Int) (x43 : Bool) (H : Heap) : Prop :=
 sel x43
 ((0 ≤ x8 ∧ x8 < (l6 : Int)) ∧ ptr x6 fun q103 =>
 wr (Addr.add q103 (x8.toNat * 1)) [(.bool true)] H fun H104 =>
 nw (.cells #[(.int .i64 x8)] 3 (0, 0)) H104 fun i105 H106 =>
 app Pr 22 x7 l7 c7 (.slice (some ⟨i105, 0, none⟩) 1 1) H106 fun p107 l108 c109 H110 =>
 graph_Dependents_26 nx52 nx72 Q E x5 l5 c5 x6 l6 c6 p107 l108 c109 x25 l25 c25 x26 x27 H110)
 (graph_Dependents_26 nx52 nx72 Q E x5 l5 c5 x6 l6 c6 x7 l7 c7 x25 l25 c25 x26 x27 H)

def graph_Dependents_28_M (nx52 : OA → Nat → Nat → HP) (nx72 : OA → Nat → Nat → Int → HP) (τ : Tau) (H : Heap) : Prop := mSl (τ 5) fun x5 l5 c5 => mSl (τ 6) fun x6 l6 c6 => mSl (τ 7) fun x7 l7 c7 => mI .i64 (τ 8) fun x8 => mSl (τ 25) fun x25 l25 c25 => mI .i64 (τ 26) fun x26 => mI .i64 (τ 27) fun x27 => mB (τ 43) fun x43 => graph_Dependents_28 nx52 nx72 Q E x5 l5 c5 x6 l6 c6 x7 l7 c7 x8 x25 l25 c25 x26 x27 x43 H

theorem graph_Dependents_29ok (nx52 : OA → Nat → Nat → HP) (nx72 : OA → Nat → Nat → Int → HP) : Ok Pr (graph_Dependents_28_M Q E nx52 nx72) (sB graph_Dependents_p35) (xblock 3 (graph_Dependents_q17 Q E nx52 nx72)) E := fun τ H h =>
  wSl 5 h (fun x5 l5 c5 h => wSl 6 h (fun x6 l6 c6 h => wSl 7 h (fun x7 l7 c7 h => wI 8 h (fun x8 h => wSl 25 h (fun x25 l25 c25 h => wI 26 h (fun x26 h => wI 27 h (fun x27 h => wB 43 h (fun x43 h => (conv (by kernel_rfl) h)))))))))

noncomputable def graph_Dependents_q19 (nx52 : OA → Nat → Nat → HP) (nx72 : OA → Nat → Nat → Int → HP) : XT := (xthen (graph_Dependents_28_M Q E nx52 nx72) (xblock 3 (graph_Dependents_q17 Q E nx52 nx72)))

def graph_Dependents_30 (nx52 : OA → Nat → Nat → HP) (nx72 : OA → Nat → Nat → Int → HP) (Q : QT) (E : ET) (x5 : OA) (l5 c5 : Nat) (x6 : OA) (l6 c6 : Nat) (x7 : OA) (l7 c7 : Nat) (x8 : Int) (x9 : OA) (l9 c9 : Nat) (x25 : OA) (l25 c25 : Nat) (x26 x27 : Int) (H : Heap) : Prop :=
 (0 ≤ x8 ∧ x8 < (l6 : Int)) ∧ ptr x6 fun q111 =>
 ldB (Addr.add q111 (x8.toNat * 1)) H fun b112 =>
 sel (!b112)
 ((0 ≤ (0 : Int) ∧ (0 : Int) < (l7 : Int)) ∧ ptr x7 fun q113 =>
 ldI .i64 q113 H fun n114 =>
 Does Pr 20 #[(.slice x9 l9 c9), (.int .i64 n114)] H (fun v115 H116 =>
 ∃ b117 : Bool, v115 = (.bool b117) ∧ graph_Dependents_28 nx52 nx72 Q E x5 l5 c5 x6 l6 c6 x7 l7 c7 x8 x25 l25 c25 x26 x27 b117 H116) E)
 (graph_Dependents_28 nx52 nx72 Q E x5 l5 c5 x6 l6 c6 x7 l7 c7 x8 x25 l25 c25 x26 x27 false H)

def graph_Dependents_30_M (nx52 : OA → Nat → Nat → HP) (nx72 : OA → Nat → Nat → Int → HP) (τ : Tau) (H : Heap) : Prop := mSl (τ 5) fun x5 l5 c5 => mSl (τ 6) fun x6 l6 c6 => mSl (τ 7) fun x7 l7 c7 => mI .i64 (τ 8) fun x8 => mSl (τ 9) fun x9 l9 c9 => mSl (τ 25) fun x25 l25 c25 => mI .i64 (τ 26) fun x26 => mI .i64 (τ 27) fun x27 => graph_Dependents_30 nx52 nx72 Q E x5 l5 c5 x6 l6 c6 x7 l7 c7 x8 x9 l9 c9 x25 l25 c25 x26 x27 H

theorem graph_Dependents_31ok (nx52 : OA → Nat → Nat → HP) (nx72 : OA → Nat → Nat → Int → HP) : Ok Pr (graph_Dependents_30_M Q E nx52 nx72) (sA graph_Dependents_p35) (graph_Dependents_q19 Q E nx52 nx72) E := fun τ H h =>
  wSl 5 h (fun x5 l5 c5 h => wSl 6 h (fun x6 l6 c6 h => wSl 7 h (fun x7 l7 c7 h => wI 8 h (fun x8 h => wSl 9 h (fun x9 l9 c9 h => wSl 25 h (fun x25 l25 c25 h => wI 26 h (fun x26 h => wI 27 h (fun x27 h => (conv (by kernel_rfl) h)))))))))

theorem graph_Dependents_32ok (nx52 : OA → Nat → Nat → HP) (nx72 : OA → Nat → Nat → Int → HP) : Ok Pr (graph_Dependents_30_M Q E nx52 nx72) graph_Dependents_p35 (xblock 3 (graph_Dependents_q17 Q E nx52 nx72)) E := fun τ H h =>
  (conv (by kernel_rfl) (vc_seq (K := (graph_Dependents_28_M Q E nx52 nx72)) (graph_Dependents_31ok Q E nx52 nx72 τ H h) (graph_Dependents_29ok Q E nx52 nx72)))

noncomputable def graph_Dependents_q20 (nx52 : OA → Nat → Nat → HP) (nx72 : OA → Nat → Nat → Int → HP) : XT := (xthen (graph_Dependents_30_M Q E nx52 nx72) (xblock 3 (graph_Dependents_q17 Q E nx52 nx72)))

def graph_Dependents_33 (nx52 : OA → Nat → Nat → HP) (nx72 : OA → Nat → Nat → Int → HP) (Q : QT) (E : ET) (x5 : OA) (l5 c5 : Nat) (x6 : OA) (l6 c6 : Nat) (x7 : OA) (l7 c7 : Nat) (x25 : OA) (l25 c25 : Nat) (x26 x27 : Int) (H : Heap) : Prop :=
 (0 ≤ x27 ∧ x27 < (l25 : Int)) ∧ ptr x25 fun q118 =>
 ldSl (Addr.add q118 (x27.toNat * 1)) H fun p119 l120 c121 =>
 graph_Dependents_30 nx52 nx72 Q E x5 l5 c5 x6 l6 c6 x7 l7 c7 x27 p119 l120 c121 x25 l25 c25 x26 x27 H

def graph_Dependents_33_M (nx52 : OA → Nat → Nat → HP) (nx72 : OA → Nat → Nat → Int → HP) (τ : Tau) (H : Heap) : Prop := mSl (τ 5) fun x5 l5 c5 => mSl (τ 6) fun x6 l6 c6 => mSl (τ 7) fun x7 l7 c7 => mSl (τ 25) fun x25 l25 c25 => mI .i64 (τ 26) fun x26 => mI .i64 (τ 27) fun x27 => graph_Dependents_33 nx52 nx72 Q E x5 l5 c5 x6 l6 c6 x7 l7 c7 x25 l25 c25 x26 x27 H

theorem graph_Dependents_34ok (nx52 : OA → Nat → Nat → HP) (nx72 : OA → Nat → Nat → Int → HP) : Ok Pr (graph_Dependents_33_M Q E nx52 nx72) (sA (sI (sA graph_Dependents_p31))) (graph_Dependents_q20 Q E nx52 nx72) E := fun τ H h =>
  wSl 5 h (fun x5 l5 c5 h => wSl 6 h (fun x6 l6 c6 h => wSl 7 h (fun x7 l7 c7 h => wSl 25 h (fun x25 l25 c25 h => wI 26 h (fun x26 h => wI 27 h (fun x27 h => (conv (by kernel_rfl) h)))))))

theorem graph_Dependents_35ok (nx52 : OA → Nat → Nat → HP) (nx72 : OA → Nat → Nat → Int → HP) : Ok Pr (graph_Dependents_33_M Q E nx52 nx72) (sI (sA graph_Dependents_p31)) (xblock 3 (graph_Dependents_q17 Q E nx52 nx72)) E := fun τ H h =>
  (conv (by kernel_rfl) (vc_seq (K := (graph_Dependents_30_M Q E nx52 nx72)) (graph_Dependents_34ok Q E nx52 nx72 τ H h) (graph_Dependents_32ok Q E nx52 nx72)))

theorem graph_Dependents_36ok (nx52 : OA → Nat → Nat → HP) (nx72 : OA → Nat → Nat → Int → HP) : Ok Pr (graph_Dependents_33_M Q E nx52 nx72) (sA graph_Dependents_p31) (graph_Dependents_q17 Q E nx52 nx72) E := fun τ H h =>
  (conv (by kernel_rfl) (graph_Dependents_35ok Q E nx52 nx72 τ H h))

theorem graph_Dependents_37ok (nx52 : OA → Nat → Nat → HP) (nx72 : OA → Nat → Nat → Int → HP) : Ok Pr (graph_Dependents_33_M Q E nx52 nx72) graph_Dependents_p31 (graph_Dependents_q16 Q E nx52 nx72) E := fun τ H h =>
  (conv (by kernel_rfl) (vc_seq (K := (graph_Dependents_26_M Q E nx52 nx72)) (graph_Dependents_36ok Q E nx52 nx72 τ H h) (graph_Dependents_27ok Q E nx52 nx72)))

noncomputable def graph_Dependents_q21 (nx52 : OA → Nat → Nat → HP) (nx72 : OA → Nat → Nat → Int → HP) : XT := (xthen (graph_Dependents_33_M Q E nx52 nx72) (graph_Dependents_q16 Q E nx52 nx72))

def graph_Dependents_38 (nx52 : OA → Nat → Nat → HP) (nx72 : OA → Nat → Nat → Int → HP) (Q : QT) (E : ET) (x5 : OA) (l5 c5 : Nat) (x6 : OA) (l6 c6 : Nat) (x7 : OA) (l7 c7 : Nat) (x25 : OA) (l25 c25 : Nat) (x26 x27 : Int) (x28 : Bool) (H : Heap) : Prop :=
 sel x28
 (graph_Dependents_33 nx52 nx72 Q E x5 l5 c5 x6 l6 c6 x7 l7 c7 x25 l25 c25 x26 x27 H)
 (graph_Dependents_24 nx52 Q E x5 l5 c5 x6 l6 c6 x7 l7 c7 H)

def graph_Dependents_38_M (nx52 : OA → Nat → Nat → HP) (nx72 : OA → Nat → Nat → Int → HP) (τ : Tau) (H : Heap) : Prop := mSl (τ 5) fun x5 l5 c5 => mSl (τ 6) fun x6 l6 c6 => mSl (τ 7) fun x7 l7 c7 => mSl (τ 25) fun x25 l25 c25 => mI .i64 (τ 26) fun x26 => mI .i64 (τ 27) fun x27 => mB (τ 28) fun x28 => graph_Dependents_38 nx52 nx72 Q E x5 l5 c5 x6 l6 c6 x7 l7 c7 x25 l25 c25 x26 x27 x28 H

theorem graph_Dependents_39ok (nx52 : OA → Nat → Nat → HP) (nx72 : OA → Nat → Nat → Int → HP) : Ok Pr (graph_Dependents_38_M Q E nx52 nx72) (sA (sB graph_Dependents_p29)) (graph_Dependents_q21 Q E nx52 nx72) E := fun τ H h =>
  wSl 5 h (fun x5 l5 c5 h => wSl 6 h (fun x6 l6 c6 h => wSl 7 h (fun x7 l7 c7 h => wSl 25 h (fun x25 l25 c25 h => wI 26 h (fun x26 h => wI 27 h (fun x27 h => wB 28 h (fun x28 h => (conv (by kernel_rfl) h))))))))

theorem graph_Dependents_40ok (nx52 : OA → Nat → Nat → HP) (nx72 : OA → Nat → Nat → Int → HP) : Ok Pr (graph_Dependents_38_M Q E nx52 nx72) (sB graph_Dependents_p29) (graph_Dependents_q16 Q E nx52 nx72) E := fun τ H h =>
  (conv (by kernel_rfl) (vc_seq (K := (graph_Dependents_33_M Q E nx52 nx72)) (graph_Dependents_39ok Q E nx52 nx72 τ H h) (graph_Dependents_37ok Q E nx52 nx72)))

noncomputable def graph_Dependents_q22 (nx52 : OA → Nat → Nat → HP) (nx72 : OA → Nat → Nat → Int → HP) : XT := (xthen (graph_Dependents_38_M Q E nx52 nx72) (graph_Dependents_q16 Q E nx52 nx72))

def graph_Dependents_41 (nx52 : OA → Nat → Nat → HP) (nx72 : OA → Nat → Nat → Int → HP) (Q : QT) (E : ET) (x5 : OA) (l5 c5 : Nat) (x6 : OA) (l6 c6 : Nat) (x7 : OA) (l7 c7 : Nat) (x25 : OA) (l25 c25 : Nat) (x26 x27 : Int) (H : Heap) : Prop :=
 graph_Dependents_38 nx52 nx72 Q E x5 l5 c5 x6 l6 c6 x7 l7 c7 x25 l25 c25 x26 x27 (decide (x27 < x26)) H

def graph_Dependents_41_M (nx52 : OA → Nat → Nat → HP) (nx72 : OA → Nat → Nat → Int → HP) (τ : Tau) (H : Heap) : Prop := mSl (τ 5) fun x5 l5 c5 => mSl (τ 6) fun x6 l6 c6 => mSl (τ 7) fun x7 l7 c7 => mSl (τ 25) fun x25 l25 c25 => mI .i64 (τ 26) fun x26 => mI .i64 (τ 27) fun x27 => graph_Dependents_41 nx52 nx72 Q E x5 l5 c5 x6 l6 c6 x7 l7 c7 x25 l25 c25 x26 x27 H

theorem graph_Dependents_42ok (nx52 : OA → Nat → Nat → HP) (nx72 : OA → Nat → Nat → Int → HP) : Ok Pr (graph_Dependents_41_M Q E nx52 nx72) (sA graph_Dependents_p29) (graph_Dependents_q22 Q E nx52 nx72) E := fun τ H h =>
  wSl 5 h (fun x5 l5 c5 h => wSl 6 h (fun x6 l6 c6 h => wSl 7 h (fun x7 l7 c7 h => wSl 25 h (fun x25 l25 c25 h => wI 26 h (fun x26 h => wI 27 h (fun x27 h => (conv (by kernel_rfl) h)))))))

theorem graph_Dependents_43ok (nx52 : OA → Nat → Nat → HP) (nx72 : OA → Nat → Nat → Int → HP) : Ok Pr (graph_Dependents_41_M Q E nx52 nx72) graph_Dependents_p29 (graph_Dependents_q16 Q E nx52 nx72) E := fun τ H h =>
  (conv (by kernel_rfl) (vc_seq (K := (graph_Dependents_38_M Q E nx52 nx72)) (graph_Dependents_42ok Q E nx52 nx72 τ H h) (graph_Dependents_40ok Q E nx52 nx72)))

def graph_Dependents_44 (nx52 : OA → Nat → Nat → HP) (Q : QT) (E : ET) (x5 : OA) (l5 c5 : Nat) (x6 : OA) (l6 c6 : Nat) (x25 : OA) (l25 c25 : Nat) (x26 : Int) (x7 : OA) (l7 c7 : Nat) (x27 : Int) (H : Heap) : Prop :=
 ∃ (I : OA → Nat → Nat → Int → HP) (μ : OA → Nat → Nat → Int → Heap → Nat), I x7 l7 c7 x27 H ∧ ∀ (x7 : OA) (l7 c7 : Nat) (x27 : Int) (H : Heap), I x7 l7 c7 x27 H →
 graph_Dependents_41 nx52 (fun x7' l7' c7' x27' H1 => I x7' l7' c7' x27' H1 ∧ μ x7' l7' c7' x27' H1 < μ x7 l7 c7 x27 H) Q E x5 l5 c5 x6 l6 c6 x7 l7 c7 x25 l25 c25 x26 x27 H

def graph_Dependents_44_M (nx52 : OA → Nat → Nat → HP) (τ : Tau) (H : Heap) : Prop := mSl (τ 5) fun x5 l5 c5 => mSl (τ 6) fun x6 l6 c6 => mSl (τ 25) fun x25 l25 c25 => mI .i64 (τ 26) fun x26 => mSl (τ 7) fun x7 l7 c7 => mI .i64 (τ 27) fun x27 => graph_Dependents_44 nx52 Q E x5 l5 c5 x6 l6 c6 x25 l25 c25 x26 x7 l7 c7 x27 H

theorem graph_Dependents_45ok (nx52 : OA → Nat → Nat → HP) : Ok Pr (graph_Dependents_44_M Q E nx52) (sI (sB graph_Dependents_p26)) (xblock 2 (graph_Dependents_q14 Q E nx52)) E := fun τ H h =>
  wSl 5 h (fun x5 l5 c5 h => wSl 6 h (fun x6 l6 c6 h => wSl 25 h (fun x25 l25 c25 h => wI 26 h (fun x26 h => wSl 7 h (fun x7 l7 c7 h => wI 27 h (fun x27 h => match h with | ⟨I, μ, h0, hr⟩ => (conv (by kernel_rfl) (vc_loopG (c := sI (sI (sB graph_Dependents_p26))) (τ := (Tau.upd (Tau.upd (Tau.upd (Tau.upd (Tau.upd (Tau.upd τ 5 (.slice x5 l5 c5)) 6 (.slice x6 l6 c6)) 25 (.slice x25 l25 c25)) 26 (.int .i64 x26)) 7 (.slice x7 l7 c7)) 27 (.int .i64 x27))) [5, 6, 25, 26] (fun τ H => mSl (τ 7) fun x7' l7' c7' => mI .i64 (τ 27) fun x27' => I x7' l7' c7' x27' H) (fun τ H => μ (gL1 (τ 7)) (gL2 (τ 7)) (gL3 (τ 7)) (gI (τ 27)) H) (by kernel_rfl) h0 (fun τ1 H1 hf hI => uF 5 (.slice x5 l5 c5) (hf 5 (by simp)) (uF 6 (.slice x6 l6 c6) (hf 6 (by simp)) (uF 25 (.slice x25 l25 c25) (hf 25 (by simp)) (uF 26 (.int .i64 x26) (hf 26 (by simp)) (uSl 7 hI (fun x7r l7r c7r h => uI 27 h (fun x27r h => lgx (graph_Dependents_43ok Q E nx52 (fun x7' l7' c7' x27' H2 => I x7' l7' c7' x27' H2 ∧ μ x7' l7' c7' x27' H2 < μ x7r l7r c7r x27r H1) (Tau.upd (Tau.upd (Tau.upd (Tau.upd (Tau.upd (Tau.upd τ1 5 (.slice x5 l5 c5)) 6 (.slice x6 l6 c6)) 25 (.slice x25 l25 c25)) 26 (.int .i64 x26)) 7 (.slice x7r l7r c7r)) 27 (.int .i64 x27r)) H1 (conv (by kernel_rfl) (hr x7r l7r c7r x27r H1 h))) (fun τ2 H2 hk => kSl 7 hk (fun x7' l7' c7' h => kI 27 h (fun x27' h => conv (by kernel_rfl) h))))))))))))))))))

theorem graph_Dependents_46ok (nx52 : OA → Nat → Nat → HP) : Ok Pr (graph_Dependents_44_M Q E nx52) (sB graph_Dependents_p26) (graph_Dependents_q14 Q E nx52) E := fun τ H h =>
  (conv (by kernel_rfl) (graph_Dependents_45ok Q E nx52 τ H h))

noncomputable def graph_Dependents_q23 (nx52 : OA → Nat → Nat → HP) : XT := (xthen (graph_Dependents_44_M Q E nx52) (graph_Dependents_q14 Q E nx52))

def graph_Dependents_47 (nx52 : OA → Nat → Nat → HP) (Q : QT) (E : ET) (x5 : OA) (l5 c5 : Nat) (x6 : OA) (l6 c6 : Nat) (x7 : OA) (l7 c7 : Nat) (H : Heap) : Prop :=
 graph_Dependents_44 nx52 Q E x5 l5 c5 x6 l6 c6 x5 l5 c5 (l5 : Int) x7 l7 c7 0 H

def graph_Dependents_47_M (nx52 : OA → Nat → Nat → HP) (τ : Tau) (H : Heap) : Prop := mSl (τ 5) fun x5 l5 c5 => mSl (τ 6) fun x6 l6 c6 => mSl (τ 7) fun x7 l7 c7 => graph_Dependents_47 nx52 Q E x5 l5 c5 x6 l6 c6 x7 l7 c7 H

theorem graph_Dependents_48ok (nx52 : OA → Nat → Nat → HP) : Ok Pr (graph_Dependents_47_M Q E nx52) (sA graph_Dependents_p26) (graph_Dependents_q23 Q E nx52) E := fun τ H h =>
  wSl 5 h (fun x5 l5 c5 h => wSl 6 h (fun x6 l6 c6 h => wSl 7 h (fun x7 l7 c7 h => (conv (by kernel_rfl) h))))

theorem graph_Dependents_49ok (nx52 : OA → Nat → Nat → HP) : Ok Pr (graph_Dependents_47_M Q E nx52) graph_Dependents_p26 (graph_Dependents_q14 Q E nx52) E := fun τ H h =>
  (conv (by kernel_rfl) (vc_seq (K := (graph_Dependents_44_M Q E nx52)) (graph_Dependents_48ok Q E nx52 τ H h) (graph_Dependents_46ok Q E nx52)))

theorem graph_Dependents_50ok (nx52 : OA → Nat → Nat → HP) : Ok Pr (graph_Dependents_47_M Q E nx52) (sA (sB (sI graph_Dependents_p21))) (xthen (graph_Dependents_24_M Q E nx52) (graph_Dependents_q12 Q E nx52)) E := fun τ H h =>
  (conv (by kernel_rfl) (graph_Dependents_49ok Q E nx52 τ H h))

theorem graph_Dependents_51ok (nx52 : OA → Nat → Nat → HP) : Ok Pr (graph_Dependents_47_M Q E nx52) (sB (sI graph_Dependents_p21)) (graph_Dependents_q12 Q E nx52) E := fun τ H h =>
  (conv (by kernel_rfl) (vc_seq (K := (graph_Dependents_24_M Q E nx52)) (graph_Dependents_50ok Q E nx52 τ H h) (graph_Dependents_25ok Q E nx52)))

noncomputable def graph_Dependents_q24 (nx52 : OA → Nat → Nat → HP) : XT := (xthen (graph_Dependents_47_M Q E nx52) (graph_Dependents_q12 Q E nx52))

def graph_Dependents_52 (nx52 : OA → Nat → Nat → HP) (Q : QT) (E : ET) (x5 : OA) (l5 c5 : Nat) (x6 : OA) (l6 c6 : Nat) (x7 : OA) (l7 c7 : Nat) (H : Heap) : Prop :=
 sel (decide (((l7 : Int) : Int) > 0))
 (graph_Dependents_47 nx52 Q E x5 l5 c5 x6 l6 c6 x7 l7 c7 H)
 (graph_Dependents_21 Q E x6 l6 c6 H)

def graph_Dependents_52_M (nx52 : OA → Nat → Nat → HP) (τ : Tau) (H : Heap) : Prop := mSl (τ 5) fun x5 l5 c5 => mSl (τ 6) fun x6 l6 c6 => mSl (τ 7) fun x7 l7 c7 => graph_Dependents_52 nx52 Q E x5 l5 c5 x6 l6 c6 x7 l7 c7 H

theorem graph_Dependents_53ok (nx52 : OA → Nat → Nat → HP) : Ok Pr (graph_Dependents_52_M Q E nx52) (sA (sI graph_Dependents_p21)) (graph_Dependents_q24 Q E nx52) E := fun τ H h =>
  wSl 5 h (fun x5 l5 c5 h => wSl 6 h (fun x6 l6 c6 h => wSl 7 h (fun x7 l7 c7 h => (conv (by kernel_rfl) h))))

theorem graph_Dependents_54ok (nx52 : OA → Nat → Nat → HP) : Ok Pr (graph_Dependents_52_M Q E nx52) (sI graph_Dependents_p21) (graph_Dependents_q12 Q E nx52) E := fun τ H h =>
  (conv (by kernel_rfl) (vc_seq (K := (graph_Dependents_47_M Q E nx52)) (graph_Dependents_53ok Q E nx52 τ H h) (graph_Dependents_51ok Q E nx52)))

def graph_Dependents_55 (Q : QT) (E : ET) (x5 : OA) (l5 c5 : Nat) (x6 : OA) (l6 c6 : Nat) (x7 : OA) (l7 c7 : Nat) (H : Heap) : Prop :=
 ∃ (I : OA → Nat → Nat → HP) (μ : OA → Nat → Nat → Heap → Nat), I x7 l7 c7 H ∧ ∀ (x7 : OA) (l7 c7 : Nat) (H : Heap), I x7 l7 c7 H →
 graph_Dependents_52 (fun x7' l7' c7' H1 => I x7' l7' c7' H1 ∧ μ x7' l7' c7' H1 < μ x7 l7 c7 H) Q E x5 l5 c5 x6 l6 c6 x7 l7 c7 H

def graph_Dependents_55_M  (τ : Tau) (H : Heap) : Prop := mSl (τ 5) fun x5 l5 c5 => mSl (τ 6) fun x6 l6 c6 => mSl (τ 7) fun x7 l7 c7 => graph_Dependents_55 Q E x5 l5 c5 x6 l6 c6 x7 l7 c7 H

theorem graph_Dependents_56ok  : Ok Pr (graph_Dependents_55_M Q E) graph_Dependents_p21 (xblock 0 (graph_Dependents_q10 Q E)) E := fun τ H h =>
  wSl 5 h (fun x5 l5 c5 h => wSl 6 h (fun x6 l6 c6 h => wSl 7 h (fun x7 l7 c7 h => match h with | ⟨I, μ, h0, hr⟩ => (conv (by kernel_rfl) (vc_loopG (c := sI graph_Dependents_p21) (τ := (Tau.upd (Tau.upd (Tau.upd τ 5 (.slice x5 l5 c5)) 6 (.slice x6 l6 c6)) 7 (.slice x7 l7 c7))) [5, 6] (fun τ H => mSl (τ 7) fun x7' l7' c7' => I x7' l7' c7' H) (fun τ H => μ (gL1 (τ 7)) (gL2 (τ 7)) (gL3 (τ 7)) H) (by kernel_rfl) h0 (fun τ1 H1 hf hI => uF 5 (.slice x5 l5 c5) (hf 5 (by simp)) (uF 6 (.slice x6 l6 c6) (hf 6 (by simp)) (uSl 7 hI (fun x7r l7r c7r h => lgx (graph_Dependents_54ok Q E (fun x7' l7' c7' H2 => I x7' l7' c7' H2 ∧ μ x7' l7' c7' H2 < μ x7r l7r c7r H1) (Tau.upd (Tau.upd (Tau.upd τ1 5 (.slice x5 l5 c5)) 6 (.slice x6 l6 c6)) 7 (.slice x7r l7r c7r)) H1 (conv (by kernel_rfl) (hr x7r l7r c7r H1 h))) (fun τ2 H2 hk => kSl 7 hk (fun x7' l7' c7' h => conv (by kernel_rfl) h)))))))))))

theorem graph_Dependents_57ok  : Ok Pr (graph_Dependents_55_M Q E) (sB (sA (sB graph_Dependents_p2))) (graph_Dependents_q10 Q E) E := fun τ H h =>
  (conv (by kernel_rfl) (graph_Dependents_56ok Q E τ H h))

noncomputable def graph_Dependents_q25  : XT := (xthen (graph_Dependents_55_M Q E) (graph_Dependents_q10 Q E))

def graph_Dependents_58 (Q : QT) (E : ET) (x1 : Int) (x5 : OA) (l5 c5 : Nat) (x6 : OA) (l6 c6 : Nat) (H : Heap) : Prop :=
 nw (.cells #[(.int .i64 x1)] 3 (0, 0)) H fun i122 H123 =>
 graph_Dependents_55 Q E x5 l5 c5 x6 l6 c6 (some ⟨i122, 0, none⟩) 1 1 H123

def graph_Dependents_58_M  (τ : Tau) (H : Heap) : Prop := mI .i64 (τ 1) fun x1 => mSl (τ 5) fun x5 l5 c5 => mSl (τ 6) fun x6 l6 c6 => graph_Dependents_58 Q E x1 x5 l5 c5 x6 l6 c6 H

theorem graph_Dependents_59ok  : Ok Pr (graph_Dependents_58_M Q E) (sA (sA (sB graph_Dependents_p2))) (graph_Dependents_q25 Q E) E := fun τ H h =>
  wI 1 h (fun x1 h => wSl 5 h (fun x5 l5 c5 h => wSl 6 h (fun x6 l6 c6 h => (conv (by kernel_rfl) h))))

theorem graph_Dependents_60ok  : Ok Pr (graph_Dependents_58_M Q E) (sA (sB graph_Dependents_p2)) (graph_Dependents_q10 Q E) E := fun τ H h =>
  (conv (by kernel_rfl) (vc_seq (K := (graph_Dependents_55_M Q E)) (graph_Dependents_59ok Q E τ H h) (graph_Dependents_57ok Q E)))

theorem graph_Dependents_61ok  : Ok Pr (graph_Dependents_58_M Q E) (sB graph_Dependents_p2) (graph_Dependents_q1 Q E) E := fun τ H h =>
  (conv (by kernel_rfl) (vc_seq (K := (graph_Dependents_21_M Q E)) (graph_Dependents_60ok Q E τ H h) (graph_Dependents_23ok Q E)))

noncomputable def graph_Dependents_q26  : XT := (xthen (graph_Dependents_58_M Q E) (graph_Dependents_q1 Q E))

def graph_Dependents_62 (Q : QT) (E : ET) (x0 : OA) (l0 c0 : Nat) (x1 : Int) (x5 : OA) (l5 c5 : Nat) (H : Heap) : Prop :=
 (0 ≤ ((l0 : Int) : Int) ∧ ((l0 : Int) : Int) ≤ (l0 : Int) ∧ ((l0 : Int) : Int) ≤ 281474976710656 ∧ ((1 : Nat) : Int) * (l0 : Int) ≤ 281474976710656) ∧ nw (.cells (rep ((l0 : Int) : Int).toNat [(.bool false)]).toArray 4 (0, 0)) H fun i124 H125 =>
 graph_Dependents_58 Q E x1 x5 l5 c5 (some ⟨i124, 0, none⟩) (((l0 : Int) : Int).toNat) (((l0 : Int) : Int).toNat) H125

def graph_Dependents_62_M  (τ : Tau) (H : Heap) : Prop := mSl (τ 0) fun x0 l0 c0 => mI .i64 (τ 1) fun x1 => mSl (τ 5) fun x5 l5 c5 => graph_Dependents_62 Q E x0 l0 c0 x1 x5 l5 c5 H

theorem graph_Dependents_63ok  : Ok Pr (graph_Dependents_62_M Q E) (sA graph_Dependents_p2) (graph_Dependents_q26 Q E) E := fun τ H h =>
  wSl 0 h (fun x0 l0 c0 h => wI 1 h (fun x1 h => wSl 5 h (fun x5 l5 c5 h => (conv (by kernel_rfl) h))))

theorem graph_Dependents_64ok  : Ok Pr (graph_Dependents_62_M Q E) graph_Dependents_p2 (graph_Dependents_q1 Q E) E := fun τ H h =>
  (conv (by kernel_rfl) (vc_seq (K := (graph_Dependents_58_M Q E)) (graph_Dependents_63ok Q E τ H h) (graph_Dependents_61ok Q E)))

noncomputable def graph_Dependents_q27  : XT := (xthen (graph_Dependents_62_M Q E) (graph_Dependents_q1 Q E))

def graph_Dependents_65 (Q : QT) (E : ET) (x0 : OA) (l0 c0 : Nat) (x1 : Int) (H : Heap) : Prop :=
 Does Pr 18 #[(.slice x0 l0 c0)] H (fun v126 H127 =>
 ∃ (p128 : OA) (l129 c130 : Nat), v126 = (.slice p128 l129 c130) ∧ graph_Dependents_62 Q E x0 l0 c0 x1 p128 l129 c130 H127) E

def graph_Dependents_65_M  (τ : Tau) (H : Heap) : Prop := mSl (τ 0) fun x0 l0 c0 => mI .i64 (τ 1) fun x1 => graph_Dependents_65 Q E x0 l0 c0 x1 H

theorem graph_Dependents_66ok  : Ok Pr (graph_Dependents_65_M Q E) (sA (sB (bodyOf Try.f13))) (graph_Dependents_q27 Q E) E := fun τ H h =>
  wSl 0 h (fun x0 l0 c0 h => wI 1 h (fun x1 h => (conv (by kernel_rfl) h)))

theorem graph_Dependents_67ok  : Ok Pr (graph_Dependents_65_M Q E) (sB (bodyOf Try.f13)) (graph_Dependents_q1 Q E) E := fun τ H h =>
  (conv (by kernel_rfl) (vc_seq (K := (graph_Dependents_62_M Q E)) (graph_Dependents_66ok Q E τ H h) (graph_Dependents_64ok Q E)))

def graph_Dependents (Q : QT) (E : ET) (a0 : OA) (a0l : Nat) (a0c : Nat) (a1 : Int) (H : Heap) : Prop :=
 graph_Dependents_65 Q E a0 a0l a0c a1 H

theorem graph_Dependents_fn (a0 : OA) (a0l : Nat) (a0c : Nat) (a1 : Int) (Q : QT) (E : ET) (H : Heap) (h : graph_Dependents Q E a0 a0l a0c a1 H)   : Does Pr 13 #[(.slice a0 a0l a0c), (.int .i64 a1)] H Q E :=
  Fn_of_vc (fn := Try.f13) (c := (bodyOf Try.f13)) (args := [(.slice a0 a0l a0c), (.int .i64 a1)]) mixed (by kernel_rfl) (by kernel_rfl) (by kernel_rfl) (by kernel_rfl) (by kernel_rfl) ((conv (B := vc Pr (bodyOf Try.f13) (argT [(.slice a0 a0l a0c), (.int .i64 a1)]) (graph_Dependents_q1 Q E) E H) (by kernel_rfl) (vc_seq (K := (graph_Dependents_65_M Q E)) (conv (B := vc Pr (sA (bodyOf Try.f13)) (argT [(.slice a0 a0l a0c), (.int .i64 a1)]) (xthen (graph_Dependents_65_M Q E) (graph_Dependents_q1 Q E)) E H) (by kernel_rfl) h) (graph_Dependents_67ok Q E))))

/-! jobmux/graph.order -/
noncomputable def graph_order_q1 (Q : QT) (E : ET)  : XT := (retQ Pr (Try.f17).results.toList Q)

noncomputable def graph_order_q2  : XT := (xscope (graph_order_q1 Q E))

noncomputable def graph_order_p4 : Code := sB (sB (sI (sB (bodyOf Try.f17))))

noncomputable def graph_order_q4 (nx6 : OA → Nat → Nat → HP) : XT := (xthen (fun τ H => mSl (τ 4) fun x4' l4' c4' => nx6 x4' l4' c4' H) (xblock 0 (graph_order_q2 Q E)))

noncomputable def graph_order_p8 : Code := sI (sI (sI (sB graph_order_p4)))

def graph_order_1 (nx6 : OA → Nat → Nat → HP) (Q : QT) (E : ET) (x4 : OA) (l4 c4 : Nat) (x5 : OA) (H : Heap) : Prop :=
 ptr x5 fun q32 =>
 ldSl q32 H fun p33 l34 c35 =>
 Q (.tuple #[(.slice x4 l4 c4), (.slice p33 l34 c35)]) H

def graph_order_1_M (nx6 : OA → Nat → Nat → HP) (τ : Tau) (H : Heap) : Prop := mSl (τ 4) fun x4 l4 c4 => mP (τ 5) fun x5 => graph_order_1 nx6 Q E x4 l4 c4 x5 H

theorem graph_order_2ok (nx6 : OA → Nat → Nat → HP) : Ok Pr (graph_order_1_M Q E nx6) (sB graph_order_p8) (xblock 1 (graph_order_q4 Q E nx6)) E := fun τ H h =>
  wSl 4 h (fun x4 l4 c4 h => wP 5 h (fun x5 h => (conv (by kernel_rfl) h)))

noncomputable def graph_order_q6 (nx6 : OA → Nat → Nat → HP) : XT := (xthen (graph_order_1_M Q E nx6) (xblock 1 (graph_order_q4 Q E nx6)))

noncomputable def graph_order_p12 : Code := sI (sB (sA graph_order_p8))

noncomputable def graph_order_q8 (nx6 : OA → Nat → Nat → HP) (nx36 : OA → Nat → Nat → Int → HP) : XT := (xthen (fun τ H => mSl (τ 4) fun x4' l4' c4' => mI .i64 (τ 13) fun x13' => nx36 x4' l4' c4' x13' H) (xblock 2 (graph_order_q6 Q E nx6)))

noncomputable def graph_order_p14 : Code := sB (sI graph_order_p12)

def graph_order_3 (nx6 : OA → Nat → Nat → HP) (nx36 : OA → Nat → Nat → Int → HP) (Q : QT) (E : ET) (x0 : OA) (l0 c0 : Nat) (x4 : OA) (l4 c4 : Nat) (x5 x11 : OA) (l11 c11 : Nat) (x12 x13 : Int) (H : Heap) : Prop :=
 nx36 x4 l4 c4 (IntKind.wrap .i64 (x13 + 1)) H

def graph_order_3_M (nx6 : OA → Nat → Nat → HP) (nx36 : OA → Nat → Nat → Int → HP) (τ : Tau) (H : Heap) : Prop := mSl (τ 0) fun x0 l0 c0 => mSl (τ 4) fun x4 l4 c4 => mP (τ 5) fun x5 => mSl (τ 11) fun x11 l11 c11 => mI .i64 (τ 12) fun x12 => mI .i64 (τ 13) fun x13 => graph_order_3 nx6 nx36 Q E x0 l0 c0 x4 l4 c4 x5 x11 l11 c11 x12 x13 H

theorem graph_order_4ok (nx6 : OA → Nat → Nat → HP) (nx36 : OA → Nat → Nat → Int → HP) : Ok Pr (graph_order_3_M Q E nx6 nx36) (sB (sB graph_order_p14)) (graph_order_q8 Q E nx6 nx36) E := fun τ H h =>
  wSl 0 h (fun x0 l0 c0 h => wSl 4 h (fun x4 l4 c4 h => wP 5 h (fun x5 h => wSl 11 h (fun x11 l11 c11 h => wI 12 h (fun x12 h => wI 13 h (fun x13 h => (conv (by kernel_rfl) h)))))))

noncomputable def graph_order_q9 (nx6 : OA → Nat → Nat → HP) (nx36 : OA → Nat → Nat → Int → HP) : XT := (xthen (graph_order_3_M Q E nx6 nx36) (graph_order_q8 Q E nx6 nx36))

noncomputable def graph_order_p18 : Code := sI (sA (sB graph_order_p14))

def graph_order_5 (nx6 : OA → Nat → Nat → HP) (nx36 : OA → Nat → Nat → Int → HP) (Q : QT) (E : ET) (x0 : OA) (l0 c0 : Nat) (x4 : OA) (l4 c4 : Nat) (x5 : OA) (x6 : Int) (H : Heap) : Prop :=
 ptr x5 fun q75 =>
 ldSl q75 H fun p76 l77 c78 =>
 (0 ≤ x6 ∧ x6 < (l77 : Int)) ∧ ptr p76 fun q79 =>
 wr (Addr.add q79 (x6.toNat * 1)) [(.bool true)] H fun H80 =>
 nw (.cells #[(.int .i64 x6)] 3 (0, 0)) H80 fun i81 H82 =>
 app Pr 22 x4 l4 c4 (.slice (some ⟨i81, 0, none⟩) 1 1) H82 fun p83 l84 c85 H86 =>
 nx6 p83 l84 c85 H86

def graph_order_5_M (nx6 : OA → Nat → Nat → HP) (nx36 : OA → Nat → Nat → Int → HP) (τ : Tau) (H : Heap) : Prop := mSl (τ 0) fun x0 l0 c0 => mSl (τ 4) fun x4 l4 c4 => mP (τ 5) fun x5 => mI .i64 (τ 6) fun x6 => graph_order_5 nx6 nx36 Q E x0 l0 c0 x4 l4 c4 x5 x6 H

theorem graph_order_6ok (nx6 : OA → Nat → Nat → HP) (nx36 : OA → Nat → Nat → Int → HP) : Ok Pr (graph_order_5_M Q E nx6 nx36) (sB (sB graph_order_p18)) (xblock 3 (graph_order_q9 Q E nx6 nx36)) E := fun τ H h =>
  wSl 0 h (fun x0 l0 c0 h => wSl 4 h (fun x4 l4 c4 h => wP 5 h (fun x5 h => wI 6 h (fun x6 h => (conv (by kernel_rfl) h)))))

noncomputable def graph_order_q11 (nx6 : OA → Nat → Nat → HP) (nx36 : OA → Nat → Nat → Int → HP) : XT := (xthen (graph_order_5_M Q E nx6 nx36) (xblock 3 (graph_order_q9 Q E nx6 nx36)))

noncomputable def graph_order_p21 : Code := sA (sB graph_order_p18)

def graph_order_7 (nx6 : OA → Nat → Nat → HP) (nx36 : OA → Nat → Nat → Int → HP) (Q : QT) (E : ET) (x0 : OA) (l0 c0 : Nat) (x4 : OA) (l4 c4 : Nat) (x5 : OA) (x6 : Int) (x11 : OA) (l11 c11 : Nat) (x12 x13 : Int) (x26 : Bool) (H : Heap) : Prop :=
 sel x26
 (graph_order_3 nx6 nx36 Q E x0 l0 c0 x4 l4 c4 x5 x11 l11 c11 x12 x13 H)
 (graph_order_5 nx6 nx36 Q E x0 l0 c0 x4 l4 c4 x5 x6 H)

def graph_order_7_M (nx6 : OA → Nat → Nat → HP) (nx36 : OA → Nat → Nat → Int → HP) (τ : Tau) (H : Heap) : Prop := mSl (τ 0) fun x0 l0 c0 => mSl (τ 4) fun x4 l4 c4 => mP (τ 5) fun x5 => mI .i64 (τ 6) fun x6 => mSl (τ 11) fun x11 l11 c11 => mI .i64 (τ 12) fun x12 => mI .i64 (τ 13) fun x13 => mB (τ 26) fun x26 => graph_order_7 nx6 nx36 Q E x0 l0 c0 x4 l4 c4 x5 x6 x11 l11 c11 x12 x13 x26 H

theorem graph_order_8ok (nx6 : OA → Nat → Nat → HP) (nx36 : OA → Nat → Nat → Int → HP) : Ok Pr (graph_order_7_M Q E nx6 nx36) (sB graph_order_p21) (graph_order_q11 Q E nx6 nx36) E := fun τ H h =>
  wSl 0 h (fun x0 l0 c0 h => wSl 4 h (fun x4 l4 c4 h => wP 5 h (fun x5 h => wI 6 h (fun x6 h => wSl 11 h (fun x11 l11 c11 h => wI 12 h (fun x12 h => wI 13 h (fun x13 h => wB 26 h (fun x26 h => (conv (by kernel_rfl) h)))))))))

noncomputable def graph_order_q12 (nx6 : OA → Nat → Nat → HP) (nx36 : OA → Nat → Nat → Int → HP) : XT := (xthen (graph_order_7_M Q E nx6 nx36) (graph_order_q11 Q E nx6 nx36))

def graph_order_9 (nx6 : OA → Nat → Nat → HP) (nx36 : OA → Nat → Nat → Int → HP) (Q : QT) (E : ET) (x0 : OA) (l0 c0 : Nat) (x4 : OA) (l4 c4 : Nat) (x5 : OA) (x6 : Int) (x7 : OA) (l7 c7 : Nat) (x11 : OA) (l11 c11 : Nat) (x12 x13 : Int) (H : Heap) : Prop :=
 ptr x5 fun q96 =>
 ldSl q96 H fun p97 l98 c99 =>
 (0 ≤ x6 ∧ x6 < (l98 : Int)) ∧ ptr p97 fun q100 =>
 ldB (Addr.add q100 (x6.toNat * 1)) H fun b101 =>
 sel b101
 (graph_order_7 nx6 nx36 Q E x0 l0 c0 x4 l4 c4 x5 x6 x11 l11 c11 x12 x13 true H)
 (Does Pr 27 #[(.slice x7 l7 c7), (.func (.func 28) #[] #[(.pointer x5)])] H (fun v102 H103 =>
 ∃ b104 : Bool, v102 = (.bool b104) ∧ graph_order_7 nx6 nx36 Q E x0 l0 c0 x4 l4 c4 x5 x6 x11 l11 c11 x12 x13 b104 H103) E)

def graph_order_9_M (nx6 : OA → Nat → Nat → HP) (nx36 : OA → Nat → Nat → Int → HP) (τ : Tau) (H : Heap) : Prop := mSl (τ 0) fun x0 l0 c0 => mSl (τ 4) fun x4 l4 c4 => mP (τ 5) fun x5 => mI .i64 (τ 6) fun x6 => mSl (τ 7) fun x7 l7 c7 => mSl (τ 11) fun x11 l11 c11 => mI .i64 (τ 12) fun x12 => mI .i64 (τ 13) fun x13 => graph_order_9 nx6 nx36 Q E x0 l0 c0 x4 l4 c4 x5 x6 x7 l7 c7 x11 l11 c11 x12 x13 H

theorem graph_order_10ok (nx6 : OA → Nat → Nat → HP) (nx36 : OA → Nat → Nat → Int → HP) : Ok Pr (graph_order_9_M Q E nx6 nx36) (sA graph_order_p21) (graph_order_q12 Q E nx6 nx36) E := fun τ H h =>
  wSl 0 h (fun x0 l0 c0 h => wSl 4 h (fun x4 l4 c4 h => wP 5 h (fun x5 h => wI 6 h (fun x6 h => wSl 7 h (fun x7 l7 c7 h => wSl 11 h (fun x11 l11 c11 h => wI 12 h (fun x12 h => wI 13 h (fun x13 h => (conv (by kernel_rfl) h)))))))))

theorem graph_order_11ok (nx6 : OA → Nat → Nat → HP) (nx36 : OA → Nat → Nat → Int → HP) : Ok Pr (graph_order_9_M Q E nx6 nx36) graph_order_p21 (graph_order_q11 Q E nx6 nx36) E := fun τ H h =>
  (conv (by kernel_rfl) (vc_seq (K := (graph_order_7_M Q E nx6 nx36)) (graph_order_10ok Q E nx6 nx36 τ H h) (graph_order_8ok Q E nx6 nx36)))

theorem graph_order_12ok (nx6 : OA → Nat → Nat → HP) (nx36 : OA → Nat → Nat → Int → HP) : Ok Pr (graph_order_9_M Q E nx6 nx36) (sB graph_order_p18) (xblock 3 (graph_order_q9 Q E nx6 nx36)) E := fun τ H h =>
  (conv (by kernel_rfl) (vc_seq (K := (graph_order_5_M Q E nx6 nx36)) (graph_order_11ok Q E nx6 nx36 τ H h) (graph_order_6ok Q E nx6 nx36)))

noncomputable def graph_order_q13 (nx6 : OA → Nat → Nat → HP) (nx36 : OA → Nat → Nat → Int → HP) : XT := (xthen (graph_order_9_M Q E nx6 nx36) (xblock 3 (graph_order_q9 Q E nx6 nx36)))

def graph_order_13 (nx6 : OA → Nat → Nat → HP) (nx36 : OA → Nat → Nat → Int → HP) (Q : QT) (E : ET) (x0 : OA) (l0 c0 : Nat) (x4 : OA) (l4 c4 : Nat) (x5 x11 : OA) (l11 c11 : Nat) (x12 x13 : Int) (H : Heap) : Prop :=
 (0 ≤ x13 ∧ x13 < (l11 : Int)) ∧ ptr x11 fun q105 =>
 ldSl (Addr.add q105 (x13.toNat * 1)) H fun p106 l107 c108 =>
 graph_order_9 nx6 nx36 Q E x0 l0 c0 x4 l4 c4 x5 x13 p106 l107 c108 x11 l11 c11 x12 x13 H

def graph_order_13_M (nx6 : OA → Nat → Nat → HP) (nx36 : OA → Nat → Nat → Int → HP) (τ : Tau) (H : Heap) : Prop := mSl (τ 0) fun x0 l0 c0 => mSl (τ 4) fun x4 l4 c4 => mP (τ 5) fun x5 => mSl (τ 11) fun x11 l11 c11 => mI .i64 (τ 12) fun x12 => mI .i64 (τ 13) fun x13 => graph_order_13 nx6 nx36 Q E x0 l0 c0 x4 l4 c4 x5 x11 l11 c11 x12 x13 H

theorem graph_order_14ok (nx6 : OA → Nat → Nat → HP) (nx36 : OA → Nat → Nat → Int → HP) : Ok Pr (graph_order_13_M Q E nx6 nx36) (sA graph_order_p18) (graph_order_q13 Q E nx6 nx36) E := fun τ H h =>
  wSl 0 h (fun x0 l0 c0 h => wSl 4 h (fun x4 l4 c4 h => wP 5 h (fun x5 h => wSl 11 h (fun x11 l11 c11 h => wI 12 h (fun x12 h => wI 13 h (fun x13 h => (conv (by kernel_rfl) h)))))))

theorem graph_order_15ok (nx6 : OA → Nat → Nat → HP) (nx36 : OA → Nat → Nat → Int → HP) : Ok Pr (graph_order_13_M Q E nx6 nx36) graph_order_p18 (xblock 3 (graph_order_q9 Q E nx6 nx36)) E := fun τ H h =>
  (conv (by kernel_rfl) (vc_seq (K := (graph_order_9_M Q E nx6 nx36)) (graph_order_14ok Q E nx6 nx36 τ H h) (graph_order_12ok Q E nx6 nx36)))

theorem graph_order_16ok (nx6 : OA → Nat → Nat → HP) (nx36 : OA → Nat → Nat → Int → HP) : Ok Pr (graph_order_13_M Q E nx6 nx36) (sA (sB graph_order_p14)) (graph_order_q9 Q E nx6 nx36) E := fun τ H h =>
  (conv (by kernel_rfl) (graph_order_15ok Q E nx6 nx36 τ H h))

theorem graph_order_17ok (nx6 : OA → Nat → Nat → HP) (nx36 : OA → Nat → Nat → Int → HP) : Ok Pr (graph_order_13_M Q E nx6 nx36) (sB graph_order_p14) (graph_order_q8 Q E nx6 nx36) E := fun τ H h =>
  (conv (by kernel_rfl) (vc_seq (K := (graph_order_3_M Q E nx6 nx36)) (graph_order_16ok Q E nx6 nx36 τ H h) (graph_order_4ok Q E nx6 nx36)))

noncomputable def graph_order_q14 (nx6 : OA → Nat → Nat → HP) (nx36 : OA → Nat → Nat → Int → HP) : XT := (xthen (graph_order_13_M Q E nx6 nx36) (graph_order_q8 Q E nx6 nx36))

def graph_order_18 (nx6 : OA → Nat → Nat → HP) (nx36 : OA → Nat → Nat → Int → HP) (Q : QT) (E : ET) (x0 : OA) (l0 c0 : Nat) (x4 : OA) (l4 c4 : Nat) (x5 x11 : OA) (l11 c11 : Nat) (x12 x13 : Int) (x14 : Bool) (H : Heap) : Prop :=
 sel x14
 (graph_order_13 nx6 nx36 Q E x0 l0 c0 x4 l4 c4 x5 x11 l11 c11 x12 x13 H)
 (graph_order_1 nx6 Q E x4 l4 c4 x5 H)

def graph_order_18_M (nx6 : OA → Nat → Nat → HP) (nx36 : OA → Nat → Nat → Int → HP) (τ : Tau) (H : Heap) : Prop := mSl (τ 0) fun x0 l0 c0 => mSl (τ 4) fun x4 l4 c4 => mP (τ 5) fun x5 => mSl (τ 11) fun x11 l11 c11 => mI .i64 (τ 12) fun x12 => mI .i64 (τ 13) fun x13 => mB (τ 14) fun x14 => graph_order_18 nx6 nx36 Q E x0 l0 c0 x4 l4 c4 x5 x11 l11 c11 x12 x13 x14 H

theorem graph_order_19ok (nx6 : OA → Nat → Nat → HP) (nx36 : OA → Nat → Nat → Int → HP) : Ok Pr (graph_order_18_M Q E nx6 nx36) (sA graph_order_p14) (graph_order_q14 Q E nx6 nx36) E := fun τ H h =>
  wSl 0 h (fun x0 l0 c0 h => wSl 4 h (fun x4 l4 c4 h => wP 5 h (fun x5 h => wSl 11 h (fun x11 l11 c11 h => wI 12 h (fun x12 h => wI 13 h (fun x13 h => wB 14 h (fun x14 h => (conv (by kernel_rfl) h))))))))

theorem graph_order_20ok (nx6 : OA → Nat → Nat → HP) (nx36 : OA → Nat → Nat → Int → HP) : Ok Pr (graph_order_18_M Q E nx6 nx36) graph_order_p14 (graph_order_q8 Q E nx6 nx36) E := fun τ H h =>
  (conv (by kernel_rfl) (vc_seq (K := (graph_order_13_M Q E nx6 nx36)) (graph_order_19ok Q E nx6 nx36 τ H h) (graph_order_17ok Q E nx6 nx36)))

noncomputable def graph_order_q15 (nx6 : OA → Nat → Nat → HP) (nx36 : OA → Nat → Nat → Int → HP) : XT := (xthen (graph_order_18_M Q E nx6 nx36) (graph_order_q8 Q E nx6 nx36))

def graph_order_21 (nx6 : OA → Nat → Nat → HP) (nx36 : OA → Nat → Nat → Int → HP) (Q : QT) (E : ET) (x0 : OA) (l0 c0 : Nat) (x4 : OA) (l4 c4 : Nat) (x5 x11 : OA) (l11 c11 : Nat) (x12 x13 : Int) (H : Heap) : Prop :=
 graph_order_18 nx6 nx36 Q E x0 l0 c0 x4 l4 c4 x5 x11 l11 c11 x12 x13 (decide (x13 < x12)) H

def graph_order_21_M (nx6 : OA → Nat → Nat → HP) (nx36 : OA → Nat → Nat → Int → HP) (τ : Tau) (H : Heap) : Prop := mSl (τ 0) fun x0 l0 c0 => mSl (τ 4) fun x4 l4 c4 => mP (τ 5) fun x5 => mSl (τ 11) fun x11 l11 c11 => mI .i64 (τ 12) fun x12 => mI .i64 (τ 13) fun x13 => graph_order_21 nx6 nx36 Q E x0 l0 c0 x4 l4 c4 x5 x11 l11 c11 x12 x13 H

theorem graph_order_22ok (nx6 : OA → Nat → Nat → HP) (nx36 : OA → Nat → Nat → Int → HP) : Ok Pr (graph_order_21_M Q E nx6 nx36) (sA (sI graph_order_p12)) (graph_order_q15 Q E nx6 nx36) E := fun τ H h =>
  wSl 0 h (fun x0 l0 c0 h => wSl 4 h (fun x4 l4 c4 h => wP 5 h (fun x5 h => wSl 11 h (fun x11 l11 c11 h => wI 12 h (fun x12 h => wI 13 h (fun x13 h => (conv (by kernel_rfl) h)))))))

theorem graph_order_23ok (nx6 : OA → Nat → Nat → HP) (nx36 : OA → Nat → Nat → Int → HP) : Ok Pr (graph_order_21_M Q E nx6 nx36) (sI graph_order_p12) (graph_order_q8 Q E nx6 nx36) E := fun τ H h =>
  (conv (by kernel_rfl) (vc_seq (K := (graph_order_18_M Q E nx6 nx36)) (graph_order_22ok Q E nx6 nx36 τ H h) (graph_order_20ok Q E nx6 nx36)))

def graph_order_24 (nx6 : OA → Nat → Nat → HP) (Q : QT) (E : ET) (x0 : OA) (l0 c0 : Nat) (x5 x11 : OA) (l11 c11 : Nat) (x12 : Int) (x4 : OA) (l4 c4 : Nat) (x13 : Int) (H : Heap) : Prop :=
 ∃ (I : OA → Nat → Nat → Int → HP) (μ : OA → Nat → Nat → Int → Heap → Nat), I x4 l4 c4 x13 H ∧ ∀ (x4 : OA) (l4 c4 : Nat) (x13 : Int) (H : Heap), I x4 l4 c4 x13 H →
 graph_order_21 nx6 (fun x4' l4' c4' x13' H1 => I x4' l4' c4' x13' H1 ∧ μ x4' l4' c4' x13' H1 < μ x4 l4 c4 x13 H) Q E x0 l0 c0 x4 l4 c4 x5 x11 l11 c11 x12 x13 H

def graph_order_24_M (nx6 : OA → Nat → Nat → HP) (τ : Tau) (H : Heap) : Prop := mSl (τ 0) fun x0 l0 c0 => mP (τ 5) fun x5 => mSl (τ 11) fun x11 l11 c11 => mI .i64 (τ 12) fun x12 => mSl (τ 4) fun x4 l4 c4 => mI .i64 (τ 13) fun x13 => graph_order_24 nx6 Q E x0 l0 c0 x5 x11 l11 c11 x12 x4 l4 c4 x13 H

theorem graph_order_25ok (nx6 : OA → Nat → Nat → HP) : Ok Pr (graph_order_24_M Q E nx6) graph_order_p12 (xblock 2 (graph_order_q6 Q E nx6)) E := fun τ H h =>
  wSl 0 h (fun x0 l0 c0 h => wP 5 h (fun x5 h => wSl 11 h (fun x11 l11 c11 h => wI 12 h (fun x12 h => wSl 4 h (fun x4 l4 c4 h => wI 13 h (fun x13 h => match h with | ⟨I, μ, h0, hr⟩ => (conv (by kernel_rfl) (vc_loopG (c := sI graph_order_p12) (τ := (Tau.upd (Tau.upd (Tau.upd (Tau.upd (Tau.upd (Tau.upd τ 0 (.slice x0 l0 c0)) 5 (.pointer x5)) 11 (.slice x11 l11 c11)) 12 (.int .i64 x12)) 4 (.slice x4 l4 c4)) 13 (.int .i64 x13))) [0, 5, 11, 12] (fun τ H => mSl (τ 4) fun x4' l4' c4' => mI .i64 (τ 13) fun x13' => I x4' l4' c4' x13' H) (fun τ H => μ (gL1 (τ 4)) (gL2 (τ 4)) (gL3 (τ 4)) (gI (τ 13)) H) (by kernel_rfl) h0 (fun τ1 H1 hf hI => uF 0 (.slice x0 l0 c0) (hf 0 (by simp)) (uF 5 (.pointer x5) (hf 5 (by simp)) (uF 11 (.slice x11 l11 c11) (hf 11 (by simp)) (uF 12 (.int .i64 x12) (hf 12 (by simp)) (uSl 4 hI (fun x4r l4r c4r h => uI 13 h (fun x13r h => lgx (graph_order_23ok Q E nx6 (fun x4' l4' c4' x13' H2 => I x4' l4' c4' x13' H2 ∧ μ x4' l4' c4' x13' H2 < μ x4r l4r c4r x13r H1) (Tau.upd (Tau.upd (Tau.upd (Tau.upd (Tau.upd (Tau.upd τ1 0 (.slice x0 l0 c0)) 5 (.pointer x5)) 11 (.slice x11 l11 c11)) 12 (.int .i64 x12)) 4 (.slice x4r l4r c4r)) 13 (.int .i64 x13r)) H1 (conv (by kernel_rfl) (hr x4r l4r c4r x13r H1 h))) (fun τ2 H2 hk => kSl 4 hk (fun x4' l4' c4' h => kI 13 h (fun x13' h => conv (by kernel_rfl) h))))))))))))))))))

theorem graph_order_26ok (nx6 : OA → Nat → Nat → HP) : Ok Pr (graph_order_24_M Q E nx6) (sB (sA graph_order_p8)) (graph_order_q6 Q E nx6) E := fun τ H h =>
  (conv (by kernel_rfl) (graph_order_25ok Q E nx6 τ H h))

noncomputable def graph_order_q16 (nx6 : OA → Nat → Nat → HP) : XT := (xthen (graph_order_24_M Q E nx6) (graph_order_q6 Q E nx6))

def graph_order_27 (nx6 : OA → Nat → Nat → HP) (Q : QT) (E : ET) (x0 : OA) (l0 c0 : Nat) (x4 : OA) (l4 c4 : Nat) (x5 : OA) (H : Heap) : Prop :=
 graph_order_24 nx6 Q E x0 l0 c0 x5 x0 l0 c0 (l0 : Int) x4 l4 c4 0 H

def graph_order_27_M (nx6 : OA → Nat → Nat → HP) (τ : Tau) (H : Heap) : Prop := mSl (τ 0) fun x0 l0 c0 => mSl (τ 4) fun x4 l4 c4 => mP (τ 5) fun x5 => graph_order_27 nx6 Q E x0 l0 c0 x4 l4 c4 x5 H

theorem graph_order_28ok (nx6 : OA → Nat → Nat → HP) : Ok Pr (graph_order_27_M Q E nx6) (sA (sA graph_order_p8)) (graph_order_q16 Q E nx6) E := fun τ H h =>
  wSl 0 h (fun x0 l0 c0 h => wSl 4 h (fun x4 l4 c4 h => wP 5 h (fun x5 h => (conv (by kernel_rfl) h))))

theorem graph_order_29ok (nx6 : OA → Nat → Nat → HP) : Ok Pr (graph_order_27_M Q E nx6) (sA graph_order_p8) (graph_order_q6 Q E nx6) E := fun τ H h =>
  (conv (by kernel_rfl) (vc_seq (K := (graph_order_24_M Q E nx6)) (graph_order_28ok Q E nx6 τ H h) (graph_order_26ok Q E nx6)))

theorem graph_order_30ok (nx6 : OA → Nat → Nat → HP) : Ok Pr (graph_order_27_M Q E nx6) graph_order_p8 (xblock 1 (graph_order_q4 Q E nx6)) E := fun τ H h =>
  (conv (by kernel_rfl) (vc_seq (K := (graph_order_1_M Q E nx6)) (graph_order_29ok Q E nx6 τ H h) (graph_order_2ok Q E nx6)))

theorem graph_order_31ok (nx6 : OA → Nat → Nat → HP) : Ok Pr (graph_order_27_M Q E nx6) (sI (sI (sB graph_order_p4))) (graph_order_q4 Q E nx6) E := fun τ H h =>
  (conv (by kernel_rfl) (graph_order_30ok Q E nx6 τ H h))

def graph_order_32 (Q : QT) (E : ET) (x0 : OA) (l0 c0 : Nat) (x5 x4 : OA) (l4 c4 : Nat) (H : Heap) : Prop :=
 ∃ (I : OA → Nat → Nat → HP) (μ : OA → Nat → Nat → Heap → Nat), I x4 l4 c4 H ∧ ∀ (x4 : OA) (l4 c4 : Nat) (H : Heap), I x4 l4 c4 H →
 graph_order_27 (fun x4' l4' c4' H1 => I x4' l4' c4' H1 ∧ μ x4' l4' c4' H1 < μ x4 l4 c4 H) Q E x0 l0 c0 x4 l4 c4 x5 H

def graph_order_32_M  (τ : Tau) (H : Heap) : Prop := mSl (τ 0) fun x0 l0 c0 => mP (τ 5) fun x5 => mSl (τ 4) fun x4 l4 c4 => graph_order_32 Q E x0 l0 c0 x5 x4 l4 c4 H

theorem graph_order_33ok  : Ok Pr (graph_order_32_M Q E) (sI (sB graph_order_p4)) (xblock 0 (graph_order_q2 Q E)) E := fun τ H h =>
  wSl 0 h (fun x0 l0 c0 h => wP 5 h (fun x5 h => wSl 4 h (fun x4 l4 c4 h => match h with | ⟨I, μ, h0, hr⟩ => (conv (by kernel_rfl) (vc_loopG (c := sI (sI (sB graph_order_p4))) (τ := (Tau.upd (Tau.upd (Tau.upd τ 0 (.slice x0 l0 c0)) 5 (.pointer x5)) 4 (.slice x4 l4 c4))) [0, 5] (fun τ H => mSl (τ 4) fun x4' l4' c4' => I x4' l4' c4' H) (fun τ H => μ (gL1 (τ 4)) (gL2 (τ 4)) (gL3 (τ 4)) H) (by kernel_rfl) h0 (fun τ1 H1 hf hI => uF 0 (.slice x0 l0 c0) (hf 0 (by simp)) (uF 5 (.pointer x5) (hf 5 (by simp)) (uSl 4 hI (fun x4r l4r c4r h => lgx (graph_order_31ok Q E (fun x4' l4' c4' H2 => I x4' l4' c4' H2 ∧ μ x4' l4' c4' H2 < μ x4r l4r c4r H1) (Tau.upd (Tau.upd (Tau.upd τ1 0 (.slice x0 l0 c0)) 5 (.pointer x5)) 4 (.slice x4r l4r c4r)) H1 (conv (by kernel_rfl) (hr x4r l4r c4r H1 h))) (fun τ2 H2 hk => kSl 4 hk (fun x4' l4' c4' h => conv (by kernel_rfl) h)))))))))))

theorem graph_order_34ok  : Ok Pr (graph_order_32_M Q E) (sB graph_order_p4) (graph_order_q2 Q E) E := fun τ H h =>
  (conv (by kernel_rfl) (graph_order_33ok Q E τ H h))

noncomputable def graph_order_q17  : XT := (xthen (graph_order_32_M Q E) (graph_order_q2 Q E))

def graph_order_35 (Q : QT) (E : ET) (x0 : OA) (l0 c0 : Nat) (x4 : OA) (l4 c4 : Nat) (x5 : OA) (H : Heap) : Prop :=
 graph_order_32 Q E x0 l0 c0 x5 x4 l4 c4 H

def graph_order_35_M  (τ : Tau) (H : Heap) : Prop := mSl (τ 0) fun x0 l0 c0 => mSl (τ 4) fun x4 l4 c4 => mP (τ 5) fun x5 => graph_order_35 Q E x0 l0 c0 x4 l4 c4 x5 H

theorem graph_order_36ok  : Ok Pr (graph_order_35_M Q E) (sA graph_order_p4) (graph_order_q17 Q E) E := fun τ H h =>
  wSl 0 h (fun x0 l0 c0 h => wSl 4 h (fun x4 l4 c4 h => wP 5 h (fun x5 h => (conv (by kernel_rfl) h))))

theorem graph_order_37ok  : Ok Pr (graph_order_35_M Q E) graph_order_p4 (graph_order_q2 Q E) E := fun τ H h =>
  (conv (by kernel_rfl) (vc_seq (K := (graph_order_32_M Q E)) (graph_order_36ok Q E τ H h) (graph_order_34ok Q E)))

noncomputable def graph_order_q18  : XT := (xthen (graph_order_35_M Q E) (graph_order_q2 Q E))

def graph_order_38 (Q : QT) (E : ET) (x0 : OA) (l0 c0 : Nat) (x4 : OA) (l4 c4 : Nat) (H : Heap) : Prop :=
 (0 ≤ ((l0 : Int) : Int) ∧ ((l0 : Int) : Int) ≤ (l0 : Int) ∧ ((l0 : Int) : Int) ≤ 281474976710656 ∧ ((1 : Nat) : Int) * (l0 : Int) ≤ 281474976710656) ∧ nw (.cells (rep ((l0 : Int) : Int).toNat [(.bool false)]).toArray 4 (0, 0)) H fun i109 H110 =>
 nw (.cells #[(.slice none 0 0)] 41 (0, 0)) H110 fun i111 H112 =>
 wr ⟨i111, 0, none⟩ [(.slice (some ⟨i109, 0, none⟩) ((l0 : Int) : Int).toNat ((l0 : Int) : Int).toNat)] H112 fun H113 =>
 graph_order_35 Q E x0 l0 c0 x4 l4 c4 (some ⟨i111, 0, none⟩) H113

def graph_order_38_M  (τ : Tau) (H : Heap) : Prop := mSl (τ 0) fun x0 l0 c0 => mSl (τ 4) fun x4 l4 c4 => graph_order_38 Q E x0 l0 c0 x4 l4 c4 H

theorem graph_order_39ok  : Ok Pr (graph_order_38_M Q E) (sA (sB (sI (sB (bodyOf Try.f17))))) (graph_order_q18 Q E) E := fun τ H h =>
  wSl 0 h (fun x0 l0 c0 h => wSl 4 h (fun x4 l4 c4 h => (conv (by kernel_rfl) h)))

theorem graph_order_40ok  : Ok Pr (graph_order_38_M Q E) (sB (sI (sB (bodyOf Try.f17)))) (graph_order_q2 Q E) E := fun τ H h =>
  (conv (by kernel_rfl) (vc_seq (K := (graph_order_35_M Q E)) (graph_order_39ok Q E τ H h) (graph_order_37ok Q E)))

def graph_order_41 (Q : QT) (E : ET) (x0 : OA) (l0 c0 : Nat) (H : Heap) : Prop :=
 graph_order_38 Q E x0 l0 c0 none 0 0 H

def graph_order_41_M  (τ : Tau) (H : Heap) : Prop := mSl (τ 0) fun x0 l0 c0 => graph_order_41 Q E x0 l0 c0 H

theorem graph_order_42ok  : Ok Pr (graph_order_41_M Q E) (sA (sI (sB (bodyOf Try.f17)))) (xthen (graph_order_38_M Q E) (graph_order_q2 Q E)) E := fun τ H h =>
  wSl 0 h (fun x0 l0 c0 h => (conv (by kernel_rfl) h))

theorem graph_order_43ok  : Ok Pr (graph_order_41_M Q E) (sI (sB (bodyOf Try.f17))) (graph_order_q2 Q E) E := fun τ H h =>
  (conv (by kernel_rfl) (vc_seq (K := (graph_order_38_M Q E)) (graph_order_42ok Q E τ H h) (graph_order_40ok Q E)))

theorem graph_order_44ok  : Ok Pr (graph_order_41_M Q E) (sB (bodyOf Try.f17)) (graph_order_q1 Q E) E := fun τ H h =>
  (conv (by kernel_rfl) (graph_order_43ok Q E τ H h))

def graph_order (Q : QT) (E : ET) (a0 : OA) (a0l : Nat) (a0c : Nat) (H : Heap) : Prop :=
 graph_order_41 Q E a0 a0l a0c H

theorem graph_order_fn (a0 : OA) (a0l : Nat) (a0c : Nat) (Q : QT) (E : ET) (H : Heap) (h : graph_order Q E a0 a0l a0c H)   : Does Pr 17 #[(.slice a0 a0l a0c)] H Q E :=
  Fn_of_vc (fn := Try.f17) (c := (bodyOf Try.f17)) (args := [(.slice a0 a0l a0c)]) mixed (by kernel_rfl) (by kernel_rfl) (by kernel_rfl) (by kernel_rfl) (by kernel_rfl) ((conv (B := vc Pr (bodyOf Try.f17) (argT [(.slice a0 a0l a0c)]) (graph_order_q1 Q E) E H) (by kernel_rfl) (vc_seq (K := (graph_order_41_M Q E)) (conv (B := vc Pr (sA (bodyOf Try.f17)) (argT [(.slice a0 a0l a0c)]) (xthen (graph_order_41_M Q E) (graph_order_q1 Q E)) E H) (by kernel_rfl) h) (graph_order_44ok Q E))))

/-! jobmux/graph.all -/
noncomputable def graph_all_q1 (Q : QT) (E : ET)  : XT := (retQ Pr (Try.f18).results.toList Q)

noncomputable def graph_all_p1 : Code := sB (bodyOf Try.f18)

def graph_all_1 (Q : QT) (E : ET) (x3 : OA) (l3 c3 : Nat) (H : Heap) : Prop :=
 Q (.slice x3 l3 c3) H

def graph_all_1_M  (τ : Tau) (H : Heap) : Prop := mSl (τ 3) fun x3 l3 c3 => graph_all_1 Q E x3 l3 c3 H

theorem graph_all_2ok  : Ok Pr (graph_all_1_M Q E) (sB (sB graph_all_p1)) (graph_all_q1 Q E) E := fun τ H h =>
  wSl 3 h (fun x3 l3 c3 h => (conv (by kernel_rfl) h))

noncomputable def graph_all_q2  : XT := (xthen (graph_all_1_M Q E) (graph_all_q1 Q E))

noncomputable def graph_all_p6 : Code := sI (sB (sA (sB graph_all_p1)))

noncomputable def graph_all_q4 (nx9 : Int → HP) : XT := (xthen (fun τ H => mI .i64 (τ 10) fun x10' => nx9 x10' H) (xblock 0 (graph_all_q2 Q E)))

noncomputable def graph_all_p8 : Code := sB (sI graph_all_p6)

def graph_all_3 (nx9 : Int → HP) (Q : QT) (E : ET) (x0 : OA) (l0 c0 : Nat) (x3 : OA) (l3 c3 : Nat) (x9 x10 : Int) (H : Heap) : Prop :=
 Does Pr 10 #[(.slice x0 l0 c0), (.int .i64 x10)] H (fun v10 H11 =>
 ∃ (p12 : OA) (l13 c14 : Nat), v10 = (.slice p12 l13 c14) ∧ (0 ≤ x10 ∧ x10 < (l3 : Int)) ∧ ptr x3 fun q15 =>
 wr (Addr.add q15 (x10.toNat * 1)) [(.slice p12 l13 c14)] H11 fun H16 =>
 nx9 (IntKind.wrap .i64 (x10 + 1)) H16) E

def graph_all_3_M (nx9 : Int → HP) (τ : Tau) (H : Heap) : Prop := mSl (τ 0) fun x0 l0 c0 => mSl (τ 3) fun x3 l3 c3 => mI .i64 (τ 9) fun x9 => mI .i64 (τ 10) fun x10 => graph_all_3 nx9 Q E x0 l0 c0 x3 l3 c3 x9 x10 H

theorem graph_all_4ok (nx9 : Int → HP) : Ok Pr (graph_all_3_M Q E nx9) (sB graph_all_p8) (graph_all_q4 Q E nx9) E := fun τ H h =>
  wSl 0 h (fun x0 l0 c0 h => wSl 3 h (fun x3 l3 c3 h => wI 9 h (fun x9 h => wI 10 h (fun x10 h => (conv (by kernel_rfl) h)))))

noncomputable def graph_all_q5 (nx9 : Int → HP) : XT := (xthen (graph_all_3_M Q E nx9) (graph_all_q4 Q E nx9))

def graph_all_5 (nx9 : Int → HP) (Q : QT) (E : ET) (x0 : OA) (l0 c0 : Nat) (x3 : OA) (l3 c3 : Nat) (x9 x10 : Int) (x11 : Bool) (H : Heap) : Prop :=
 sel x11
 (graph_all_3 nx9 Q E x0 l0 c0 x3 l3 c3 x9 x10 H)
 (graph_all_1 Q E x3 l3 c3 H)

def graph_all_5_M (nx9 : Int → HP) (τ : Tau) (H : Heap) : Prop := mSl (τ 0) fun x0 l0 c0 => mSl (τ 3) fun x3 l3 c3 => mI .i64 (τ 9) fun x9 => mI .i64 (τ 10) fun x10 => mB (τ 11) fun x11 => graph_all_5 nx9 Q E x0 l0 c0 x3 l3 c3 x9 x10 x11 H

theorem graph_all_6ok (nx9 : Int → HP) : Ok Pr (graph_all_5_M Q E nx9) (sA graph_all_p8) (graph_all_q5 Q E nx9) E := fun τ H h =>
  wSl 0 h (fun x0 l0 c0 h => wSl 3 h (fun x3 l3 c3 h => wI 9 h (fun x9 h => wI 10 h (fun x10 h => wB 11 h (fun x11 h => (conv (by kernel_rfl) h))))))

theorem graph_all_7ok (nx9 : Int → HP) : Ok Pr (graph_all_5_M Q E nx9) graph_all_p8 (graph_all_q4 Q E nx9) E := fun τ H h =>
  (conv (by kernel_rfl) (vc_seq (K := (graph_all_3_M Q E nx9)) (graph_all_6ok Q E nx9 τ H h) (graph_all_4ok Q E nx9)))

noncomputable def graph_all_q6 (nx9 : Int → HP) : XT := (xthen (graph_all_5_M Q E nx9) (graph_all_q4 Q E nx9))

def graph_all_8 (nx9 : Int → HP) (Q : QT) (E : ET) (x0 : OA) (l0 c0 : Nat) (x3 : OA) (l3 c3 : Nat) (x9 x10 : Int) (H : Heap) : Prop :=
 graph_all_5 nx9 Q E x0 l0 c0 x3 l3 c3 x9 x10 (decide (x10 < x9)) H

def graph_all_8_M (nx9 : Int → HP) (τ : Tau) (H : Heap) : Prop := mSl (τ 0) fun x0 l0 c0 => mSl (τ 3) fun x3 l3 c3 => mI .i64 (τ 9) fun x9 => mI .i64 (τ 10) fun x10 => graph_all_8 nx9 Q E x0 l0 c0 x3 l3 c3 x9 x10 H

theorem graph_all_9ok (nx9 : Int → HP) : Ok Pr (graph_all_8_M Q E nx9) (sA (sI graph_all_p6)) (graph_all_q6 Q E nx9) E := fun τ H h =>
  wSl 0 h (fun x0 l0 c0 h => wSl 3 h (fun x3 l3 c3 h => wI 9 h (fun x9 h => wI 10 h (fun x10 h => (conv (by kernel_rfl) h)))))

theorem graph_all_10ok (nx9 : Int → HP) : Ok Pr (graph_all_8_M Q E nx9) (sI graph_all_p6) (graph_all_q4 Q E nx9) E := fun τ H h =>
  (conv (by kernel_rfl) (vc_seq (K := (graph_all_5_M Q E nx9)) (graph_all_9ok Q E nx9 τ H h) (graph_all_7ok Q E nx9)))

def graph_all_11 (Q : QT) (E : ET) (x0 : OA) (l0 c0 : Nat) (x3 : OA) (l3 c3 : Nat) (x9 x10 : Int) (H : Heap) : Prop :=
 ∃ (I : Int → HP) (μ : Int → Heap → Nat), I x10 H ∧ ∀ (x10 : Int) (H : Heap), I x10 H →
 graph_all_8 (fun x10' H1 => I x10' H1 ∧ μ x10' H1 < μ x10 H) Q E x0 l0 c0 x3 l3 c3 x9 x10 H

def graph_all_11_M  (τ : Tau) (H : Heap) : Prop := mSl (τ 0) fun x0 l0 c0 => mSl (τ 3) fun x3 l3 c3 => mI .i64 (τ 9) fun x9 => mI .i64 (τ 10) fun x10 => graph_all_11 Q E x0 l0 c0 x3 l3 c3 x9 x10 H

theorem graph_all_12ok  : Ok Pr (graph_all_11_M Q E) graph_all_p6 (xblock 0 (graph_all_q2 Q E)) E := fun τ H h =>
  wSl 0 h (fun x0 l0 c0 h => wSl 3 h (fun x3 l3 c3 h => wI 9 h (fun x9 h => wI 10 h (fun x10 h => match h with | ⟨I, μ, h0, hr⟩ => (conv (by kernel_rfl) (vc_loopG (c := sI graph_all_p6) (τ := (Tau.upd (Tau.upd (Tau.upd (Tau.upd τ 0 (.slice x0 l0 c0)) 3 (.slice x3 l3 c3)) 9 (.int .i64 x9)) 10 (.int .i64 x10))) [0, 3, 9] (fun τ H => mI .i64 (τ 10) fun x10' => I x10' H) (fun τ H => μ (gI (τ 10)) H) (by kernel_rfl) h0 (fun τ1 H1 hf hI => uF 0 (.slice x0 l0 c0) (hf 0 (by simp)) (uF 3 (.slice x3 l3 c3) (hf 3 (by simp)) (uF 9 (.int .i64 x9) (hf 9 (by simp)) (uI 10 hI (fun x10r h => lgx (graph_all_10ok Q E (fun x10' H2 => I x10' H2 ∧ μ x10' H2 < μ x10r H1) (Tau.upd (Tau.upd (Tau.upd (Tau.upd τ1 0 (.slice x0 l0 c0)) 3 (.slice x3 l3 c3)) 9 (.int .i64 x9)) 10 (.int .i64 x10r)) H1 (conv (by kernel_rfl) (hr x10r H1 h))) (fun τ2 H2 hk => kI 10 hk (fun x10' h => conv (by kernel_rfl) h)))))))))))))

theorem graph_all_13ok  : Ok Pr (graph_all_11_M Q E) (sB (sA (sB graph_all_p1))) (graph_all_q2 Q E) E := fun τ H h =>
  (conv (by kernel_rfl) (graph_all_12ok Q E τ H h))

noncomputable def graph_all_q7  : XT := (xthen (graph_all_11_M Q E) (graph_all_q2 Q E))

def graph_all_14 (Q : QT) (E : ET) (x0 : OA) (l0 c0 : Nat) (x3 : OA) (l3 c3 : Nat) (H : Heap) : Prop :=
 graph_all_11 Q E x0 l0 c0 x3 l3 c3 (l0 : Int) 0 H

def graph_all_14_M  (τ : Tau) (H : Heap) : Prop := mSl (τ 0) fun x0 l0 c0 => mSl (τ 3) fun x3 l3 c3 => graph_all_14 Q E x0 l0 c0 x3 l3 c3 H

theorem graph_all_15ok  : Ok Pr (graph_all_14_M Q E) (sA (sA (sB graph_all_p1))) (graph_all_q7 Q E) E := fun τ H h =>
  wSl 0 h (fun x0 l0 c0 h => wSl 3 h (fun x3 l3 c3 h => (conv (by kernel_rfl) h)))

theorem graph_all_16ok  : Ok Pr (graph_all_14_M Q E) (sA (sB graph_all_p1)) (graph_all_q2 Q E) E := fun τ H h =>
  (conv (by kernel_rfl) (vc_seq (K := (graph_all_11_M Q E)) (graph_all_15ok Q E τ H h) (graph_all_13ok Q E)))

theorem graph_all_17ok  : Ok Pr (graph_all_14_M Q E) (sB graph_all_p1) (graph_all_q1 Q E) E := fun τ H h =>
  (conv (by kernel_rfl) (vc_seq (K := (graph_all_1_M Q E)) (graph_all_16ok Q E τ H h) (graph_all_2ok Q E)))

def graph_all_18 (Q : QT) (E : ET) (x0 : OA) (l0 c0 : Nat) (H : Heap) : Prop :=
 (0 ≤ ((l0 : Int) : Int) ∧ ((l0 : Int) : Int) ≤ (l0 : Int) ∧ ((l0 : Int) : Int) ≤ 281474976710656 ∧ ((24 : Nat) : Int) * (l0 : Int) ≤ 281474976710656) ∧ nw (.cells (rep ((l0 : Int) : Int).toNat [(.slice none 0 0)]).toArray 22 (0, 0)) H fun i17 H18 =>
 graph_all_14 Q E x0 l0 c0 (some ⟨i17, 0, none⟩) (((l0 : Int) : Int).toNat) (((l0 : Int) : Int).toNat) H18

def graph_all_18_M  (τ : Tau) (H : Heap) : Prop := mSl (τ 0) fun x0 l0 c0 => graph_all_18 Q E x0 l0 c0 H

theorem graph_all_19ok  : Ok Pr (graph_all_18_M Q E) (sA graph_all_p1) (xthen (graph_all_14_M Q E) (graph_all_q1 Q E)) E := fun τ H h =>
  wSl 0 h (fun x0 l0 c0 h => (conv (by kernel_rfl) h))

theorem graph_all_20ok  : Ok Pr (graph_all_18_M Q E) graph_all_p1 (graph_all_q1 Q E) E := fun τ H h =>
  (conv (by kernel_rfl) (vc_seq (K := (graph_all_14_M Q E)) (graph_all_19ok Q E τ H h) (graph_all_17ok Q E)))

def graph_all (Q : QT) (E : ET) (a0 : OA) (a0l : Nat) (a0c : Nat) (H : Heap) : Prop :=
 graph_all_18 Q E a0 a0l a0c H

theorem graph_all_fn (a0 : OA) (a0l : Nat) (a0c : Nat) (Q : QT) (E : ET) (H : Heap) (h : graph_all Q E a0 a0l a0c H)   : Does Pr 18 #[(.slice a0 a0l a0c)] H Q E :=
  Fn_of_vc (fn := Try.f18) (c := (bodyOf Try.f18)) (args := [(.slice a0 a0l a0c)]) mixed (by kernel_rfl) (by kernel_rfl) (by kernel_rfl) (by kernel_rfl) (by kernel_rfl) ((conv (B := vc Pr (bodyOf Try.f18) (argT [(.slice a0 a0l a0c)]) (graph_all_q1 Q E) E H) (by kernel_rfl) (vc_seq (K := (graph_all_18_M Q E)) (conv (B := vc Pr (sA (bodyOf Try.f18)) (argT [(.slice a0 a0l a0c)]) (xthen (graph_all_18_M Q E) (graph_all_q1 Q E)) E H) (by kernel_rfl) h) (graph_all_20ok Q E))))

/-! jobmux/graph.Cycle$1 -/
noncomputable def graph_Cycle_c1_q1 (Q : QT) (E : ET)  : XT := (retQ Pr (Try.f22).results.toList Q)

def graph_Cycle_c1 (Q : QT) (E : ET) (a0 : Int) (a1 : OA) (H : Heap) : Prop :=
 ptr a1 fun q1 =>
 ldSl q1 H fun p2 l3 c4 =>
 (0 ≤ (a0 : Int) ∧ (a0 : Int) < (l3 : Int)) ∧ ptr p2 fun q5 =>
 ldB (Addr.add q5 ((a0 : Int).toNat * 1)) H fun b6 =>
 Q (.bool (!b6)) H

theorem graph_Cycle_c1_fn (a0 : Int) (a1 : OA) (Q : QT) (E : ET) (H : Heap) (h : graph_Cycle_c1 Q E a0 a1 H)   : Does Pr 22 #[(.int .i64 a0), (.pointer a1)] H Q E :=
  Fn_of_vc (fn := Try.f22) (c := (bodyOf Try.f22)) (args := [(.int .i64 a0), (.pointer a1)]) mixed (by kernel_rfl) (by kernel_rfl) (by kernel_rfl) (by kernel_rfl) (by kernel_rfl) ((conv (B := vc Pr (bodyOf Try.f22) (argT [(.int .i64 a0), (.pointer a1)]) (graph_Cycle_c1_q1 Q E) E H) (by kernel_rfl) h))

/-! jobmux/graph.Index -/
noncomputable def graph_Index_q1 (Q : QT) (E : ET)  : XT := (retQ Pr (Try.f24).results.toList Q)

def graph_Index (Q : QT) (E : ET) (a0 : OA) (a0l : Nat) (a0c : Nat) (a1 : ByteArray) (H : Heap) : Prop :=
 nw (.cells #[(.string a1)] 9 (0, 0)) H fun i1 H2 =>
 Does Pr 29 #[(.slice a0 a0l a0c), (.func (.func 30) #[] #[(.pointer (some ⟨i1, 0, none⟩))])] H2 (fun v3 H4 =>
 ∃ n5 : Int, v3 = (.int .i64 n5) ∧ Q (.int .i64 n5) H4) E

theorem graph_Index_fn (a0 : OA) (a0l : Nat) (a0c : Nat) (a1 : ByteArray) (Q : QT) (E : ET) (H : Heap) (h : graph_Index Q E a0 a0l a0c a1 H)   : Does Pr 24 #[(.slice a0 a0l a0c), (.string a1)] H Q E :=
  Fn_of_vc (fn := Try.f24) (c := (bodyOf Try.f24)) (args := [(.slice a0 a0l a0c), (.string a1)]) mixed (by kernel_rfl) (by kernel_rfl) (by kernel_rfl) (by kernel_rfl) (by kernel_rfl) ((conv (B := vc Pr (bodyOf Try.f24) (argT [(.slice a0 a0l a0c), (.string a1)]) (graph_Index_q1 Q E) E H) (by kernel_rfl) h))

/-! jobmux/graph.order$1 -/
noncomputable def graph_order_c1_q1 (Q : QT) (E : ET)  : XT := (retQ Pr (Try.f28).results.toList Q)

def graph_order_c1 (Q : QT) (E : ET) (a0 : Int) (a1 : OA) (H : Heap) : Prop :=
 ptr a1 fun q1 =>
 ldSl q1 H fun p2 l3 c4 =>
 (0 ≤ (a0 : Int) ∧ (a0 : Int) < (l3 : Int)) ∧ ptr p2 fun q5 =>
 ldB (Addr.add q5 ((a0 : Int).toNat * 1)) H fun b6 =>
 Q (.bool (!b6)) H

theorem graph_order_c1_fn (a0 : Int) (a1 : OA) (Q : QT) (E : ET) (H : Heap) (h : graph_order_c1 Q E a0 a1 H)   : Does Pr 28 #[(.int .i64 a0), (.pointer a1)] H Q E :=
  Fn_of_vc (fn := Try.f28) (c := (bodyOf Try.f28)) (args := [(.int .i64 a0), (.pointer a1)]) mixed (by kernel_rfl) (by kernel_rfl) (by kernel_rfl) (by kernel_rfl) (by kernel_rfl) ((conv (B := vc Pr (bodyOf Try.f28) (argT [(.int .i64 a0), (.pointer a1)]) (graph_order_c1_q1 Q E) E H) (by kernel_rfl) h))

/-! jobmux/graph.Index$1 -/
noncomputable def graph_Index_c1_q1 (Q : QT) (E : ET)  : XT := (retQ Pr (Try.f30).results.toList Q)

def graph_Index_c1 (Q : QT) (E : ET) (a0_0 : ByteArray) (a0_1 : ByteArray) (a0_2 : OA) (a0_2l : Nat) (a0_2c : Nat) (a0_3 : OA) (a0_3l : Nat) (a0_3c : Nat) (a0_4 : Bool) (a0_5 : ByteArray) (a0_6 : Int) (a0_7 : Int) (a0_8 : Int) (a0_9 : Int) (a0_10 : Int) (a0_11 : Int) (a0_12 : OA) (a0_12l : Nat) (a0_12c : Nat) (a0_13 : Int) (a0_14 : Int) (a1 : OA) (H : Heap) : Prop :=
 nw (.cells #[(.string a0_0), (.string a0_1), (.slice a0_2 a0_2l a0_2c), (.slice a0_3 a0_3l a0_3c), (.bool a0_4), (.string a0_5), (.int .i64 a0_6), (.int .u64 a0_7), (.int .u64 a0_8), (.int .u64 a0_9), (.int .i64 a0_10), (.int .u64 a0_11), (.slice a0_12 a0_12l a0_12c), (.int .i64 a0_13), (.int .i64 a0_14)] 36 (0, 0)) H fun i1 H2 =>
 ldS ⟨i1, 0, none⟩ H2 fun s3 =>
 ptr a1 fun q4 =>
 ldS q4 H2 fun s5 =>
 Q (.bool (ByteArray.toList s3 == ByteArray.toList s5)) H2

theorem graph_Index_c1_fn (a0_0 : ByteArray) (a0_1 : ByteArray) (a0_2 : OA) (a0_2l : Nat) (a0_2c : Nat) (a0_3 : OA) (a0_3l : Nat) (a0_3c : Nat) (a0_4 : Bool) (a0_5 : ByteArray) (a0_6 : Int) (a0_7 : Int) (a0_8 : Int) (a0_9 : Int) (a0_10 : Int) (a0_11 : Int) (a0_12 : OA) (a0_12l : Nat) (a0_12c : Nat) (a0_13 : Int) (a0_14 : Int) (a1 : OA) (Q : QT) (E : ET) (H : Heap) (h : graph_Index_c1 Q E a0_0 a0_1 a0_2 a0_2l a0_2c a0_3 a0_3l a0_3c a0_4 a0_5 a0_6 a0_7 a0_8 a0_9 a0_10 a0_11 a0_12 a0_12l a0_12c a0_13 a0_14 a1 H)   : Does Pr 30 #[(.agg #[(.string a0_0), (.string a0_1), (.slice a0_2 a0_2l a0_2c), (.slice a0_3 a0_3l a0_3c), (.bool a0_4), (.string a0_5), (.int .i64 a0_6), (.int .u64 a0_7), (.int .u64 a0_8), (.int .u64 a0_9), (.int .i64 a0_10), (.int .u64 a0_11), (.slice a0_12 a0_12l a0_12c), (.int .i64 a0_13), (.int .i64 a0_14)]), (.pointer a1)] H Q E :=
  Fn_of_vc (fn := Try.f30) (c := (bodyOf Try.f30)) (args := [(.agg #[(.string a0_0), (.string a0_1), (.slice a0_2 a0_2l a0_2c), (.slice a0_3 a0_3l a0_3c), (.bool a0_4), (.string a0_5), (.int .i64 a0_6), (.int .u64 a0_7), (.int .u64 a0_8), (.int .u64 a0_9), (.int .i64 a0_10), (.int .u64 a0_11), (.slice a0_12 a0_12l a0_12c), (.int .i64 a0_13), (.int .i64 a0_14)]), (.pointer a1)]) mixed (by kernel_rfl) (by kernel_rfl) (by kernel_rfl) (by kernel_rfl) (by kernel_rfl) ((conv (B := vc Pr (bodyOf Try.f30) (argT [(.agg #[(.string a0_0), (.string a0_1), (.slice a0_2 a0_2l a0_2c), (.slice a0_3 a0_3l a0_3c), (.bool a0_4), (.string a0_5), (.int .i64 a0_6), (.int .u64 a0_7), (.int .u64 a0_8), (.int .u64 a0_9), (.int .i64 a0_10), (.int .u64 a0_11), (.slice a0_12 a0_12l a0_12c), (.int .i64 a0_13), (.int .i64 a0_14)]), (.pointer a1)]) (graph_Index_c1_q1 Q E) E H) (by kernel_rfl) h))

end Go.Proofs.Ytombjgnlpdnclaa
