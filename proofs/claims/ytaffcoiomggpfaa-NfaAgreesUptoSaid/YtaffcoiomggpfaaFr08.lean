import Derived.Test.YtaffcoiomggpfaaVPr
import Derived.Test.YtaffcoiomggpfaaFr08_1
/- Printed by gen.py: the Go functions of package r08 over a heap view, and that the model does so. -/
namespace Go.Proofs.Ytaffcoiomggpfaa
open Go.V
set_option linter.unusedVariables false
set_option maxRecDepth 100000
variable (Q : QT) (E : ET)
/-! (*jobmux/jobmuxref08.parser).element -/
noncomputable def zqj2_q1 (Q : QT) (E : ET) : XT := (retQ Pr (Try.f118).results.toList Q)

noncomputable def zqj2_p2 : Code := sB (sB (bodyOf Try.f118))

noncomputable def zqj2_p4 : Code := sB (sB zqj2_p2)

noncomputable def zqj2_p6 : Code := sB (sB zqj2_p4)

def zqj2_1 (Q : QT) (E : ET) (x2 x3 x5 : OA) (H : Heap) : Prop :=
 ∃ Z69 : Nat → Prop,
 ptr x3 fun q70 =>
 ∃ n71 n72 n73 n74 : Int, Heap.rd H q70 0 [(.int .u64 n71), (.int .u64 n72), (.int .u64 n73), (.int .u64 n74)] ∧ (ptr x5 fun ad => Z69 (Addr.block ad)) ∧ ptr x5 fun q75 =>
 ∃ n76 n77 n78 n79 : Int, Heap.rd H q75 0 [(.int .u64 n76), (.int .u64 n77), (.int .u64 n78), (.int .u64 n79)] ∧ Does Pr 125 #[(.agg #[(.int .u64 n71), (.int .u64 n72), (.int .u64 n73), (.int .u64 n74)])] H (fun v80 H81 =>
 ∃ n82 : Int, v80 = (.int .i64 n82) ∧ (∀ z, Z69 z → H z ≠ none → H81 z = H z) ∧ Does Pr 125 #[(.agg #[(.int .u64 n76), (.int .u64 n77), (.int .u64 n78), (.int .u64 n79)])] H81 (fun v83 H84 =>
 ∃ n85 : Int, v83 = (.int .i64 n85) ∧ Does Pr 122 #[(.int .i64 n82), (.int .i64 n85)] H84 (fun v86 H87 =>
 ∃ n88 n89 n90 n91 : Int, v86 = (.agg #[(.int .u64 n88), (.int .u64 n89), (.int .u64 n90), (.int .u64 n91)]) ∧ ptr x2 fun q93 =>
 wr q93 [(.int .u64 n88), (.int .u64 n89), (.int .u64 n90), (.int .u64 n91)] H87 fun H92 =>
 ptr x2 fun q94 =>
 ∃ n95 n96 n97 n98 : Int, Heap.rd H92 q94 0 [(.int .u64 n95), (.int .u64 n96), (.int .u64 n97), (.int .u64 n98)] ∧ Q (.agg #[(.int .u64 n95), (.int .u64 n96), (.int .u64 n97), (.int .u64 n98)]) H92) (fun _ _ => False)) (fun _ _ => False)) (fun _ _ => False)

def zqj2_1_M  (τ : Tau) (H : Heap) : Prop := mP (τ 2) fun x2 => mP (τ 3) fun x3 => mP (τ 5) fun x5 => zqj2_1 Q E x2 x3 x5 H

theorem zqj2_2ok  : Ok Pr (zqj2_1_M Q E) (sB zqj2_p6) (zqj2_q1 Q E) E := fun τ H h =>
  wP 2 h (fun x2 h => wP 3 h (fun x3 h => wP 5 h (fun x5 h => (conv (by kernel_rfl) h))))

noncomputable def zqj2_q2  : XT := (xthen (zqj2_1_M Q E) (zqj2_q1 Q E))

def zqj2_3 (Q : QT) (E : ET) (x0 x2 x3 x5 : OA) (x72 : Bool) (H : Heap) : Prop :=
 sel x72
 (Does Pr 57 #[(.pointer x0), (.int .i64 80)] H (fun v116 H117 =>
 zqj2_1 Q E x2 x3 x5 H117) E)
 (zqj2_1 Q E x2 x3 x5 H)

def zqj2_3_M  (τ : Tau) (H : Heap) : Prop := mP (τ 0) fun x0 => mP (τ 2) fun x2 => mP (τ 3) fun x3 => mP (τ 5) fun x5 => mB (τ 72) fun x72 => zqj2_3 Q E x0 x2 x3 x5 x72 H

theorem zqj2_4ok  : Ok Pr (zqj2_3_M Q E) (sB (sA zqj2_p6)) (zqj2_q2 Q E) E := fun τ H h =>
  wP 0 h (fun x0 h => wP 2 h (fun x2 h => wP 3 h (fun x3 h => wP 5 h (fun x5 h => wB 72 h (fun x72 h => (conv (by kernel_rfl) h))))))

noncomputable def zqj2_q3  : XT := (xthen (zqj2_3_M Q E) (zqj2_q2 Q E))

def zqj2_5 (Q : QT) (E : ET) (x0 x2 x3 x5 : OA) (x6 : Bool) (H : Heap) : Prop :=
 ∃ Z118 : Nat → Prop,
 ptr x0 fun q119 =>
 ldI .i64 (Addr.add q119 3) H fun n120 =>
 sel (n120 == 0)
 (sel (!x6)
 (zqj2_3 Q E x0 x2 x3 x5 true H)
 (ptr x3 fun q121 =>
 ∃ n122 n123 n124 n125 : Int, Heap.rd H q121 0 [(.int .u64 n122), (.int .u64 n123), (.int .u64 n124), (.int .u64 n125)] ∧ (ptr x5 fun ad => Z118 (Addr.block ad)) ∧ ptr x5 fun q126 =>
 ∃ n127 n128 n129 n130 : Int, Heap.rd H q126 0 [(.int .u64 n127), (.int .u64 n128), (.int .u64 n129), (.int .u64 n130)] ∧ Does Pr 125 #[(.agg #[(.int .u64 n122), (.int .u64 n123), (.int .u64 n124), (.int .u64 n125)])] H (fun v131 H132 =>
 ∃ n133 : Int, v131 = (.int .i64 n133) ∧ (∀ z, Z118 z → H z ≠ none → H132 z = H z) ∧ Does Pr 125 #[(.agg #[(.int .u64 n127), (.int .u64 n128), (.int .u64 n129), (.int .u64 n130)])] H132 (fun v134 H135 =>
 ∃ n136 : Int, v134 = (.int .i64 n136) ∧ zqj2_3 Q E x0 x2 x3 x5 (decide (n133 > n136)) H135) (fun _ _ => False)) (fun _ _ => False)))
 (zqj2_3 Q E x0 x2 x3 x5 false H)

def zqj2_5_M  (τ : Tau) (H : Heap) : Prop := mP (τ 0) fun x0 => mP (τ 2) fun x2 => mP (τ 3) fun x3 => mP (τ 5) fun x5 => mB (τ 6) fun x6 => zqj2_5 Q E x0 x2 x3 x5 x6 H

theorem zqj2_6ok  : Ok Pr (zqj2_5_M Q E) (sA (sA zqj2_p6)) (zqj2_q3 Q E) E := fun τ H h =>
  wP 0 h (fun x0 h => wP 2 h (fun x2 h => wP 3 h (fun x3 h => wP 5 h (fun x5 h => wB 6 h (fun x6 h => (conv (by kernel_rfl) h))))))

theorem zqj2_7ok  : Ok Pr (zqj2_5_M Q E) (sA zqj2_p6) (zqj2_q2 Q E) E := fun τ H h =>
  (conv (by kernel_rfl) (vc_seq (K := (zqj2_3_M Q E)) (zqj2_6ok Q E τ H h) (zqj2_4ok Q E)))

theorem zqj2_8ok  : Ok Pr (zqj2_5_M Q E) zqj2_p6 (zqj2_q1 Q E) E := fun τ H h =>
  (conv (by kernel_rfl) (vc_seq (K := (zqj2_1_M Q E)) (zqj2_7ok Q E τ H h) (zqj2_2ok Q E)))

noncomputable def zqj2_q4  : XT := (xthen (zqj2_5_M Q E) (zqj2_q1 Q E))

def zqj2_9 (Q : QT) (E : ET) (x0 x2 x3 : OA) (H : Heap) : Prop :=
 Does Pr 124 #[(.pointer x0)] H (fun v137 H138 =>
 ∃ n139 n140 n141 n142 : Int, ∃ b143 : Bool, v137 = (.tuple #[(.agg #[(.int .u64 n139), (.int .u64 n140), (.int .u64 n141), (.int .u64 n142)]), (.bool b143)]) ∧ nw (.cells #[(.int .u64 0), (.int .u64 0), (.int .u64 0), (.int .u64 0)] 46 (0, 0)) H138 fun i144 H145 =>
 wr ⟨i144, 0, none⟩ [(.int .u64 n139), (.int .u64 n140), (.int .u64 n141), (.int .u64 n142)] H145 fun H146 =>
 zqj2_5 Q E x0 x2 x3 (some ⟨i144, 0, none⟩) b143 H146) E

def zqj2_9_M  (τ : Tau) (H : Heap) : Prop := mP (τ 0) fun x0 => mP (τ 2) fun x2 => mP (τ 3) fun x3 => zqj2_9 Q E x0 x2 x3 H

theorem zqj2_10ok  : Ok Pr (zqj2_9_M Q E) (sA (sB zqj2_p4)) (zqj2_q4 Q E) E := fun τ H h =>
  wP 0 h (fun x0 h => wP 2 h (fun x2 h => wP 3 h (fun x3 h => (conv (by kernel_rfl) h))))

theorem zqj2_11ok  : Ok Pr (zqj2_9_M Q E) (sB zqj2_p4) (zqj2_q1 Q E) E := fun τ H h =>
  (conv (by kernel_rfl) (vc_seq (K := (zqj2_5_M Q E)) (zqj2_10ok Q E τ H h) (zqj2_8ok Q E)))

noncomputable def zqj2_q5  : XT := (xthen (zqj2_9_M Q E) (zqj2_q1 Q E))

def zqj2_12 (Q : QT) (E : ET) (x0 x2 x3 : OA) (x48 : Bool) (H : Heap) : Prop :=
 sel x48
 (Does Pr 57 #[(.pointer x0), (.int .i64 80)] H (fun v151 H152 =>
 ptr x3 fun q153 =>
 ∃ n154 n155 n156 n157 : Int, Heap.rd H152 q153 0 [(.int .u64 n154), (.int .u64 n155), (.int .u64 n156), (.int .u64 n157)] ∧ ptr x2 fun q159 =>
 wr q159 [(.int .u64 n154), (.int .u64 n155), (.int .u64 n156), (.int .u64 n157)] H152 fun H158 =>
 ptr x2 fun q160 =>
 ∃ n161 n162 n163 n164 : Int, Heap.rd H158 q160 0 [(.int .u64 n161), (.int .u64 n162), (.int .u64 n163), (.int .u64 n164)] ∧ Q (.agg #[(.int .u64 n161), (.int .u64 n162), (.int .u64 n163), (.int .u64 n164)]) H158) E)
 (zqj2_9 Q E x0 x2 x3 H)

def zqj2_12_M  (τ : Tau) (H : Heap) : Prop := mP (τ 0) fun x0 => mP (τ 2) fun x2 => mP (τ 3) fun x3 => mB (τ 48) fun x48 => zqj2_12 Q E x0 x2 x3 x48 H

theorem zqj2_13ok  : Ok Pr (zqj2_12_M Q E) (sB (sA zqj2_p4)) (zqj2_q5 Q E) E := fun τ H h =>
  wP 0 h (fun x0 h => wP 2 h (fun x2 h => wP 3 h (fun x3 h => wB 48 h (fun x48 h => (conv (by kernel_rfl) h)))))

noncomputable def zqj2_q6  : XT := (xthen (zqj2_12_M Q E) (zqj2_q5 Q E))

def zqj2_14 (Q : QT) (E : ET) (x0 x2 x3 : OA) (x4 : Bool) (H : Heap) : Prop :=
 sel (!x4)
 (zqj2_12 Q E x0 x2 x3 true H)
 (ptr x0 fun q165 =>
 ldI .i64 (Addr.add q165 1) H fun n166 =>
 ptr x0 fun q167 =>
 ldS q167 H fun s168 =>
 zqj2_12 Q E x0 x2 x3 (decide (n166 ≥ ((ByteArray.size s168 : Nat) : Int))) H)

def zqj2_14_M  (τ : Tau) (H : Heap) : Prop := mP (τ 0) fun x0 => mP (τ 2) fun x2 => mP (τ 3) fun x3 => mB (τ 4) fun x4 => zqj2_14 Q E x0 x2 x3 x4 H

theorem zqj2_15ok  : Ok Pr (zqj2_14_M Q E) (sA (sA zqj2_p4)) (zqj2_q6 Q E) E := fun τ H h =>
  wP 0 h (fun x0 h => wP 2 h (fun x2 h => wP 3 h (fun x3 h => wB 4 h (fun x4 h => (conv (by kernel_rfl) h)))))

theorem zqj2_16ok  : Ok Pr (zqj2_14_M Q E) (sA zqj2_p4) (zqj2_q5 Q E) E := fun τ H h =>
  (conv (by kernel_rfl) (vc_seq (K := (zqj2_12_M Q E)) (zqj2_15ok Q E τ H h) (zqj2_13ok Q E)))

theorem zqj2_17ok  : Ok Pr (zqj2_14_M Q E) zqj2_p4 (zqj2_q1 Q E) E := fun τ H h =>
  (conv (by kernel_rfl) (vc_seq (K := (zqj2_9_M Q E)) (zqj2_16ok Q E τ H h) (zqj2_11ok Q E)))

noncomputable def zqj2_q7  : XT := (xthen (zqj2_14_M Q E) (zqj2_q1 Q E))

def zqj2_18 (Q : QT) (E : ET) (x0 x2 x3 : OA) (x4 : Bool) (H : Heap) : Prop :=
 ptr x0 fun q169 =>
 ldI .i64 (Addr.add q169 1) H fun n170 =>
 ptr x0 fun q171 =>
 wr (Addr.add q171 1) [(.int .i64 (IntKind.wrap .i64 (n170 + 1)))] H fun H172 =>
 zqj2_14 Q E x0 x2 x3 x4 H172

def zqj2_18_M  (τ : Tau) (H : Heap) : Prop := mP (τ 0) fun x0 => mP (τ 2) fun x2 => mP (τ 3) fun x3 => mB (τ 4) fun x4 => zqj2_18 Q E x0 x2 x3 x4 H

theorem zqj2_19ok  : Ok Pr (zqj2_18_M Q E) (sA (sB zqj2_p2)) (zqj2_q7 Q E) E := fun τ H h =>
  wP 0 h (fun x0 h => wP 2 h (fun x2 h => wP 3 h (fun x3 h => wB 4 h (fun x4 h => (conv (by kernel_rfl) h)))))

theorem zqj2_20ok  : Ok Pr (zqj2_18_M Q E) (sB zqj2_p2) (zqj2_q1 Q E) E := fun τ H h =>
  (conv (by kernel_rfl) (vc_seq (K := (zqj2_14_M Q E)) (zqj2_19ok Q E τ H h) (zqj2_17ok Q E)))

noncomputable def zqj2_q8  : XT := (xthen (zqj2_18_M Q E) (zqj2_q1 Q E))

def zqj2_21 (Q : QT) (E : ET) (x0 x2 x3 : OA) (x4 x26 : Bool) (H : Heap) : Prop :=
 sel x26
 (ptr x3 fun q180 =>
 ∃ n181 n182 n183 n184 : Int, Heap.rd H q180 0 [(.int .u64 n181), (.int .u64 n182), (.int .u64 n183), (.int .u64 n184)] ∧ ptr x2 fun q186 =>
 wr q186 [(.int .u64 n181), (.int .u64 n182), (.int .u64 n183), (.int .u64 n184)] H fun H185 =>
 ptr x2 fun q187 =>
 ∃ n188 n189 n190 n191 : Int, Heap.rd H185 q187 0 [(.int .u64 n188), (.int .u64 n189), (.int .u64 n190), (.int .u64 n191)] ∧ Q (.agg #[(.int .u64 n188), (.int .u64 n189), (.int .u64 n190), (.int .u64 n191)]) H185)
 (zqj2_18 Q E x0 x2 x3 x4 H)

def zqj2_21_M  (τ : Tau) (H : Heap) : Prop := mP (τ 0) fun x0 => mP (τ 2) fun x2 => mP (τ 3) fun x3 => mB (τ 4) fun x4 => mB (τ 26) fun x26 => zqj2_21 Q E x0 x2 x3 x4 x26 H

theorem zqj2_22ok  : Ok Pr (zqj2_21_M Q E) (sB (sA zqj2_p2)) (zqj2_q8 Q E) E := fun τ H h =>
  wP 0 h (fun x0 h => wP 2 h (fun x2 h => wP 3 h (fun x3 h => wB 4 h (fun x4 h => wB 26 h (fun x26 h => (conv (by kernel_rfl) h))))))

noncomputable def zqj2_q9  : XT := (xthen (zqj2_21_M Q E) (zqj2_q8 Q E))

def zqj2_23 (Q : QT) (E : ET) (x0 x2 x3 : OA) (x4 : Bool) (H : Heap) : Prop :=
 Does Pr 90 #[(.pointer x0)] H (fun v192 H193 =>
 ∃ b194 : Bool, v192 = (.bool b194) ∧ sel (!b194)
 (zqj2_21 Q E x0 x2 x3 x4 true H193)
 (ptr x0 fun q195 =>
 ldS q195 H193 fun s196 =>
 ptr x0 fun q197 =>
 ldI .i64 (Addr.add q197 1) H193 fun n198 =>
 (0 ≤ n198 ∧ n198 < ((ByteArray.size s196 : Nat) : Int)) ∧ zqj2_21 Q E x0 x2 x3 x4 (((sAt s196 n198) : Int) != 45) H193)) (fun _ _ => False)

def zqj2_23_M  (τ : Tau) (H : Heap) : Prop := mP (τ 0) fun x0 => mP (τ 2) fun x2 => mP (τ 3) fun x3 => mB (τ 4) fun x4 => zqj2_23 Q E x0 x2 x3 x4 H

theorem zqj2_24ok  : Ok Pr (zqj2_23_M Q E) (sA (sA zqj2_p2)) (zqj2_q9 Q E) E := fun τ H h =>
  wP 0 h (fun x0 h => wP 2 h (fun x2 h => wP 3 h (fun x3 h => wB 4 h (fun x4 h => (conv (by kernel_rfl) h)))))

theorem zqj2_25ok  : Ok Pr (zqj2_23_M Q E) (sA zqj2_p2) (zqj2_q8 Q E) E := fun τ H h =>
  (conv (by kernel_rfl) (vc_seq (K := (zqj2_21_M Q E)) (zqj2_24ok Q E τ H h) (zqj2_22ok Q E)))

theorem zqj2_26ok  : Ok Pr (zqj2_23_M Q E) zqj2_p2 (zqj2_q1 Q E) E := fun τ H h =>
  (conv (by kernel_rfl) (vc_seq (K := (zqj2_18_M Q E)) (zqj2_25ok Q E τ H h) (zqj2_20ok Q E)))

noncomputable def zqj2_q10  : XT := (xthen (zqj2_23_M Q E) (zqj2_q1 Q E))

def zqj2_27 (Q : QT) (E : ET) (x0 x2 : OA) (H : Heap) : Prop :=
 Does Pr 124 #[(.pointer x0)] H (fun v199 H200 =>
 ∃ n201 n202 n203 n204 : Int, ∃ b205 : Bool, v199 = (.tuple #[(.agg #[(.int .u64 n201), (.int .u64 n202), (.int .u64 n203), (.int .u64 n204)]), (.bool b205)]) ∧ nw (.cells #[(.int .u64 0), (.int .u64 0), (.int .u64 0), (.int .u64 0)] 46 (0, 0)) H200 fun i206 H207 =>
 wr ⟨i206, 0, none⟩ [(.int .u64 n201), (.int .u64 n202), (.int .u64 n203), (.int .u64 n204)] H207 fun H208 =>
 zqj2_23 Q E x0 x2 (some ⟨i206, 0, none⟩) b205 H208) E

def zqj2_27_M  (τ : Tau) (H : Heap) : Prop := mP (τ 0) fun x0 => mP (τ 2) fun x2 => zqj2_27 Q E x0 x2 H

theorem zqj2_28ok  : Ok Pr (zqj2_27_M Q E) (sA (sB (bodyOf Try.f118))) (zqj2_q10 Q E) E := fun τ H h =>
  wP 0 h (fun x0 h => wP 2 h (fun x2 h => (conv (by kernel_rfl) h)))

theorem zqj2_29ok  : Ok Pr (zqj2_27_M Q E) (sB (bodyOf Try.f118)) (zqj2_q1 Q E) E := fun τ H h =>
  (conv (by kernel_rfl) (vc_seq (K := (zqj2_23_M Q E)) (zqj2_28ok Q E τ H h) (zqj2_26ok Q E)))

def zqj2 (Q : QT) (E : ET) (a0 : OA) (H : Heap) : Prop :=
 nw (.cells #[(.int .u64 0), (.int .u64 0), (.int .u64 0), (.int .u64 0)] 46 (0, 0)) H fun i209 H210 =>
 zqj2_27 Q E a0 (some ⟨i209, 0, none⟩) H210

theorem zqj2_fn (a0 : OA) (Q : QT) (E : ET) (H : Heap) (h : zqj2 Q E a0 H)   : Does Pr 118 #[(.pointer a0)] H Q E :=
  Fn_of_vc (fn := Try.f118) (c := (bodyOf Try.f118)) (args := [(.pointer a0)]) mixed (by kernel_rfl) (by kernel_rfl) (by kernel_rfl) (by kernel_rfl) (by kernel_rfl) ((conv (B := vc Pr (bodyOf Try.f118) (argT [(.pointer a0)]) (zqj2_q1 Q E) E H) (by kernel_rfl) (vc_seq (K := (zqj2_27_M Q E)) (conv (B := vc Pr (sA (bodyOf Try.f118)) (argT [(.pointer a0)]) (xthen (zqj2_27_M Q E) (zqj2_q1 Q E)) E H) (by kernel_rfl) h) (zqj2_29ok Q E))))

/-! jobmux/jobmuxref08.Range -/
noncomputable def zqk2_q1 (Q : QT) (E : ET) : XT := (retQ Pr (Try.f122).results.toList Q)

noncomputable def zqk2_p2 : Code := sB (sB (bodyOf Try.f122))

def zqk2_1 (Q : QT) (E : ET) (x4 x5 : OA) (H : Heap) : Prop :=
 ptr x5 fun q16 =>
 ∃ n17 n18 n19 n20 : Int, Heap.rd H q16 0 [(.int .u64 n17), (.int .u64 n18), (.int .u64 n19), (.int .u64 n20)] ∧ ptr x4 fun q22 =>
 wr q22 [(.int .u64 n17), (.int .u64 n18), (.int .u64 n19), (.int .u64 n20)] H fun H21 =>
 ptr x4 fun q23 =>
 ∃ n24 n25 n26 n27 : Int, Heap.rd H21 q23 0 [(.int .u64 n24), (.int .u64 n25), (.int .u64 n26), (.int .u64 n27)] ∧ Q (.agg #[(.int .u64 n24), (.int .u64 n25), (.int .u64 n26), (.int .u64 n27)]) H21

def zqk2_1_M  (τ : Tau) (H : Heap) : Prop := mP (τ 4) fun x4 => mP (τ 5) fun x5 => zqk2_1 Q E x4 x5 H

theorem zqk2_2ok  : Ok Pr (zqk2_1_M Q E) (sB zqk2_p2) (zqk2_q1 Q E) E := fun τ H h =>
  wP 4 h (fun x4 h => wP 5 h (fun x5 h => (conv (by kernel_rfl) h)))

noncomputable def zqk2_q2  : XT := (xthen (zqk2_1_M Q E) (zqk2_q1 Q E))

noncomputable def zqk2_p6 : Code := sI (sB (sA zqk2_p2))

noncomputable def zqk2_q4 (nx28 : Int → HP) : XT := (xthen (fun τ H => mI .i64 (τ 6) fun x6' => nx28 x6' H) (xblock 0 (zqk2_q2 Q E)))

def zqk2_3 (nx28 : Int → HP) (Q : QT) (E : ET) (x1 : Int) (x4 x5 : OA) (x6 : Int) (H : Heap) : Prop :=
 ptr x5 fun q29 =>
 ∃ n30 n31 n32 n33 : Int, Heap.rd H q29 0 [(.int .u64 n30), (.int .u64 n31), (.int .u64 n32), (.int .u64 n33)] ∧ Does Pr 108 #[(.agg #[(.int .u64 n30), (.int .u64 n31), (.int .u64 n32), (.int .u64 n33)]), (.int .u8 (IntKind.wrap .u8 x6))] H (fun v34 H35 =>
 ∃ n36 n37 n38 n39 : Int, v34 = (.agg #[(.int .u64 n36), (.int .u64 n37), (.int .u64 n38), (.int .u64 n39)]) ∧ ptr x5 fun q41 =>
 wr q41 [(.int .u64 n36), (.int .u64 n37), (.int .u64 n38), (.int .u64 n39)] H35 fun H40 =>
 nx28 (IntKind.wrap .i64 (x6 + 1)) H40) E

def zqk2_3_M (nx28 : Int → HP) (τ : Tau) (H : Heap) : Prop := mI .i64 (τ 1) fun x1 => mP (τ 4) fun x4 => mP (τ 5) fun x5 => mI .i64 (τ 6) fun x6 => zqk2_3 nx28 Q E x1 x4 x5 x6 H

theorem zqk2_4ok (nx28 : Int → HP) : Ok Pr (zqk2_3_M Q E nx28) (sB (sI zqk2_p6)) (zqk2_q4 Q E nx28) E := fun τ H h =>
  wI 1 h (fun x1 h => wP 4 h (fun x4 h => wP 5 h (fun x5 h => wI 6 h (fun x6 h => (conv (by kernel_rfl) h)))))

noncomputable def zqk2_q5 (nx28 : Int → HP) : XT := (xthen (zqk2_3_M Q E nx28) (zqk2_q4 Q E nx28))

def zqk2_5 (nx28 : Int → HP) (Q : QT) (E : ET) (x1 : Int) (x4 x5 : OA) (x6 : Int) (H : Heap) : Prop :=
 sel (decide (x6 ≤ x1))
 (zqk2_3 nx28 Q E x1 x4 x5 x6 H)
 (zqk2_1 Q E x4 x5 H)

def zqk2_5_M (nx28 : Int → HP) (τ : Tau) (H : Heap) : Prop := mI .i64 (τ 1) fun x1 => mP (τ 4) fun x4 => mP (τ 5) fun x5 => mI .i64 (τ 6) fun x6 => zqk2_5 nx28 Q E x1 x4 x5 x6 H

theorem zqk2_6ok (nx28 : Int → HP) : Ok Pr (zqk2_5_M Q E nx28) (sA (sI zqk2_p6)) (zqk2_q5 Q E nx28) E := fun τ H h =>
  wI 1 h (fun x1 h => wP 4 h (fun x4 h => wP 5 h (fun x5 h => wI 6 h (fun x6 h => (conv (by kernel_rfl) h)))))

theorem zqk2_7ok (nx28 : Int → HP) : Ok Pr (zqk2_5_M Q E nx28) (sI zqk2_p6) (zqk2_q4 Q E nx28) E := fun τ H h =>
  (conv (by kernel_rfl) (vc_seq (K := (zqk2_3_M Q E nx28)) (zqk2_6ok Q E nx28 τ H h) (zqk2_4ok Q E nx28)))

def zqk2_8 (Q : QT) (E : ET) (x1 : Int) (x4 x5 : OA) (x6 : Int) (H : Heap) : Prop :=
 ∃ (I : Int → HP) (μ : Int → Heap → Nat), I x6 H ∧ ∀ (x6 : Int) (H : Heap), I x6 H →
 zqk2_5 (fun x6' H1 => I x6' H1 ∧ μ x6' H1 < μ x6 H) Q E x1 x4 x5 x6 H

def zqk2_8_M  (τ : Tau) (H : Heap) : Prop := mI .i64 (τ 1) fun x1 => mP (τ 4) fun x4 => mP (τ 5) fun x5 => mI .i64 (τ 6) fun x6 => zqk2_8 Q E x1 x4 x5 x6 H

theorem zqk2_9ok  : Ok Pr (zqk2_8_M Q E) zqk2_p6 (xblock 0 (zqk2_q2 Q E)) E := fun τ H h =>
  wI 1 h (fun x1 h => wP 4 h (fun x4 h => wP 5 h (fun x5 h => wI 6 h (fun x6 h => match h with | ⟨I, μ, h0, hr⟩ => (conv (by kernel_rfl) (vc_loopG (c := sI zqk2_p6) (τ := (Tau.upd (Tau.upd (Tau.upd (Tau.upd τ 1 (.int .i64 x1)) 4 (.pointer x4)) 5 (.pointer x5)) 6 (.int .i64 x6))) [1, 4, 5] (fun τ H => mI .i64 (τ 6) fun x6' => I x6' H) (fun τ H => μ (gI (τ 6)) H) (by kernel_rfl) h0 (fun τ1 H1 hf hI => uF 1 (.int .i64 x1) (hf 1 (by simp)) (uF 4 (.pointer x4) (hf 4 (by simp)) (uF 5 (.pointer x5) (hf 5 (by simp)) (uI 6 hI (fun x6r h => lgx (zqk2_7ok Q E (fun x6' H2 => I x6' H2 ∧ μ x6' H2 < μ x6r H1) (Tau.upd (Tau.upd (Tau.upd (Tau.upd τ1 1 (.int .i64 x1)) 4 (.pointer x4)) 5 (.pointer x5)) 6 (.int .i64 x6r)) H1 (conv (by kernel_rfl) (hr x6r H1 h))) (fun τ2 H2 hk => kI 6 hk (fun x6' h => conv (by kernel_rfl) h)))))))))))))

theorem zqk2_10ok  : Ok Pr (zqk2_8_M Q E) (sB (sA zqk2_p2)) (zqk2_q2 Q E) E := fun τ H h =>
  (conv (by kernel_rfl) (zqk2_9ok Q E τ H h))

noncomputable def zqk2_q6  : XT := (xthen (zqk2_8_M Q E) (zqk2_q2 Q E))

def zqk2_11 (Q : QT) (E : ET) (x0 x1 : Int) (x4 x5 : OA) (H : Heap) : Prop :=
 zqk2_8 Q E x1 x4 x5 x0 H

def zqk2_11_M  (τ : Tau) (H : Heap) : Prop := mI .i64 (τ 0) fun x0 => mI .i64 (τ 1) fun x1 => mP (τ 4) fun x4 => mP (τ 5) fun x5 => zqk2_11 Q E x0 x1 x4 x5 H

theorem zqk2_12ok  : Ok Pr (zqk2_11_M Q E) (sA (sA zqk2_p2)) (zqk2_q6 Q E) E := fun τ H h =>
  wI 0 h (fun x0 h => wI 1 h (fun x1 h => wP 4 h (fun x4 h => wP 5 h (fun x5 h => (conv (by kernel_rfl) h)))))

theorem zqk2_13ok  : Ok Pr (zqk2_11_M Q E) (sA zqk2_p2) (zqk2_q2 Q E) E := fun τ H h =>
  (conv (by kernel_rfl) (vc_seq (K := (zqk2_8_M Q E)) (zqk2_12ok Q E τ H h) (zqk2_10ok Q E)))

theorem zqk2_14ok  : Ok Pr (zqk2_11_M Q E) zqk2_p2 (zqk2_q1 Q E) E := fun τ H h =>
  (conv (by kernel_rfl) (vc_seq (K := (zqk2_1_M Q E)) (zqk2_13ok Q E τ H h) (zqk2_2ok Q E)))

noncomputable def zqk2_q7  : XT := (xthen (zqk2_11_M Q E) (zqk2_q1 Q E))

def zqk2_15 (Q : QT) (E : ET) (x0 x1 : Int) (x4 : OA) (H : Heap) : Prop :=
 nw (.cells #[(.int .u64 0), (.int .u64 0), (.int .u64 0), (.int .u64 0)] 46 (0, 0)) H fun i42 H43 =>
 zqk2_11 Q E x0 x1 x4 (some ⟨i42, 0, none⟩) H43

def zqk2_15_M  (τ : Tau) (H : Heap) : Prop := mI .i64 (τ 0) fun x0 => mI .i64 (τ 1) fun x1 => mP (τ 4) fun x4 => zqk2_15 Q E x0 x1 x4 H

theorem zqk2_16ok  : Ok Pr (zqk2_15_M Q E) (sA (sB (bodyOf Try.f122))) (zqk2_q7 Q E) E := fun τ H h =>
  wI 0 h (fun x0 h => wI 1 h (fun x1 h => wP 4 h (fun x4 h => (conv (by kernel_rfl) h))))

theorem zqk2_17ok  : Ok Pr (zqk2_15_M Q E) (sB (bodyOf Try.f122)) (zqk2_q1 Q E) E := fun τ H h =>
  (conv (by kernel_rfl) (vc_seq (K := (zqk2_11_M Q E)) (zqk2_16ok Q E τ H h) (zqk2_14ok Q E)))

def zqk2 (Q : QT) (E : ET) (a0 : Int) (a1 : Int) (H : Heap) : Prop :=
 nw (.cells #[(.int .u64 0), (.int .u64 0), (.int .u64 0), (.int .u64 0)] 46 (0, 0)) H fun i44 H45 =>
 zqk2_15 Q E a0 a1 (some ⟨i44, 0, none⟩) H45

theorem zqk2_fn (a0 : Int) (a1 : Int) (Q : QT) (E : ET) (H : Heap) (h : zqk2 Q E a0 a1 H)   : Does Pr 122 #[(.int .i64 a0), (.int .i64 a1)] H Q E :=
  Fn_of_vc (fn := Try.f122) (c := (bodyOf Try.f122)) (args := [(.int .i64 a0), (.int .i64 a1)]) mixed (by kernel_rfl) (by kernel_rfl) (by kernel_rfl) (by kernel_rfl) (by kernel_rfl) ((conv (B := vc Pr (bodyOf Try.f122) (argT [(.int .i64 a0), (.int .i64 a1)]) (zqk2_q1 Q E) E H) (by kernel_rfl) (vc_seq (K := (zqk2_15_M Q E)) (conv (B := vc Pr (sA (bodyOf Try.f122)) (argT [(.int .i64 a0), (.int .i64 a1)]) (xthen (zqk2_15_M Q E) (zqk2_q1 Q E)) E H) (by kernel_rfl) h) (zqk2_17ok Q E))))

/-! jobmux/jobmuxref08.mark -/
def zql2 (Q : QT) (E : ET) (a0 : Int) (H : Heap) : Prop :=
 sel (decide ((a0 : Int) ≥ 33))
 (sel (decide ((a0 : Int) ≤ 47))
 (Q (.bool true) H)
 (sel (decide ((a0 : Int) ≥ 58))
 (sel (decide ((a0 : Int) ≤ 64))
 (Q (.bool true) H)
 (sel (decide ((a0 : Int) ≥ 91))
 (sel (decide ((a0 : Int) ≤ 96))
 (Q (.bool true) H)
 (sel (decide ((a0 : Int) ≥ 123))
 (Q (.bool (decide ((a0 : Int) ≤ 126))) H)
 (Q (.bool false) H)))
 (sel (decide ((a0 : Int) ≥ 123))
 (Q (.bool (decide ((a0 : Int) ≤ 126))) H)
 (Q (.bool false) H))))
 (sel (decide ((a0 : Int) ≥ 91))
 (sel (decide ((a0 : Int) ≤ 96))
 (Q (.bool true) H)
 (sel (decide ((a0 : Int) ≥ 123))
 (Q (.bool (decide ((a0 : Int) ≤ 126))) H)
 (Q (.bool false) H)))
 (sel (decide ((a0 : Int) ≥ 123))
 (Q (.bool (decide ((a0 : Int) ≤ 126))) H)
 (Q (.bool false) H)))))
 (sel (decide ((a0 : Int) ≥ 58))
 (sel (decide ((a0 : Int) ≤ 64))
 (Q (.bool true) H)
 (sel (decide ((a0 : Int) ≥ 91))
 (sel (decide ((a0 : Int) ≤ 96))
 (Q (.bool true) H)
 (sel (decide ((a0 : Int) ≥ 123))
 (Q (.bool (decide ((a0 : Int) ≤ 126))) H)
 (Q (.bool false) H)))
 (sel (decide ((a0 : Int) ≥ 123))
 (Q (.bool (decide ((a0 : Int) ≤ 126))) H)
 (Q (.bool false) H))))
 (sel (decide ((a0 : Int) ≥ 91))
 (sel (decide ((a0 : Int) ≤ 96))
 (Q (.bool true) H)
 (sel (decide ((a0 : Int) ≥ 123))
 (Q (.bool (decide ((a0 : Int) ≤ 126))) H)
 (Q (.bool false) H)))
 (sel (decide ((a0 : Int) ≥ 123))
 (Q (.bool (decide ((a0 : Int) ≤ 126))) H)
 (Q (.bool false) H))))

theorem zql2_fn (a0 : Int) (Q : QT) (E : ET) (H : Heap) (h : zql2 Q E a0 H)   : Does Pr 123 #[(.int .u8 a0)] H Q E :=
  Fn_of_vc (fn := Try.f123) (c := (bodyOf Try.f123)) (args := [(.int .u8 a0)]) mixed (by kernel_rfl) (by kernel_rfl) (by kernel_rfl) (by kernel_rfl) (by kernel_rfl) ((conv (B := vc Pr (bodyOf Try.f123) (argT [(.int .u8 a0)]) (retQ Pr (Try.f123).results.toList Q) E H) (by kernel_rfl) h))

/-! (*jobmux/jobmuxref08.parser).single -/
noncomputable def zqm2_q1 (Q : QT) (E : ET) : XT := (retQ Pr (Try.f124).results.toList Q)

noncomputable def zqm2_p1 : Code := sB (bodyOf Try.f124)

def zqm2_1 (Q : QT) (E : ET) (x2 : OA) (x4 : Int) (H : Heap) : Prop :=
 Does Pr 108 #[(.agg #[(.int .u64 0), (.int .u64 0), (.int .u64 0), (.int .u64 0)]), (.int .u8 x4)] H (fun v22 H23 =>
 ∃ n24 n25 n26 n27 : Int, v22 = (.agg #[(.int .u64 n24), (.int .u64 n25), (.int .u64 n26), (.int .u64 n27)]) ∧ ptr x2 fun q29 =>
 wr q29 [(.int .u64 n24), (.int .u64 n25), (.int .u64 n26), (.int .u64 n27)] H23 fun H28 =>
 ptr x2 fun q30 =>
 ∃ n31 n32 n33 n34 : Int, Heap.rd H28 q30 0 [(.int .u64 n31), (.int .u64 n32), (.int .u64 n33), (.int .u64 n34)] ∧ Q (.tuple #[(.agg #[(.int .u64 n31), (.int .u64 n32), (.int .u64 n33), (.int .u64 n34)]), (.bool true)]) H28) E

def zqm2_1_M  (τ : Tau) (H : Heap) : Prop := mP (τ 2) fun x2 => mI .u8 (τ 4) fun x4 => zqm2_1 Q E x2 x4 H

theorem zqm2_2ok  : Ok Pr (zqm2_1_M Q E) (sB (sB (sB zqm2_p1))) (zqm2_q1 Q E) E := fun τ H h =>
  wP 2 h (fun x2 h => wI 4 h (fun x4 h => (conv (by kernel_rfl) h)))

noncomputable def zqm2_q2  : XT := (xthen (zqm2_1_M Q E) (zqm2_q1 Q E))

noncomputable def zqm2_p5 : Code := sA (sB (sB zqm2_p1))

noncomputable def zqm2_q3  : XT := (xblock 0 (zqm2_q2 Q E))

noncomputable def zqm2_p8 : Code := sB (sI (sB zqm2_p5))

def zqm2_3 (Q : QT) (E : ET) (x0 x2 : OA) (H : Heap) : Prop :=
 Does Pr 109 #[(.pointer x0)] H (fun v35 H36 =>
 ∃ n37 n38 n39 n40 : Int, ∃ b41 : Bool, v35 = (.tuple #[(.agg #[(.int .u64 n37), (.int .u64 n38), (.int .u64 n39), (.int .u64 n40)]), (.bool b41)]) ∧ ptr x2 fun q43 =>
 wr q43 [(.int .u64 n37), (.int .u64 n38), (.int .u64 n39), (.int .u64 n40)] H36 fun H42 =>
 ptr x2 fun q44 =>
 ∃ n45 n46 n47 n48 : Int, Heap.rd H42 q44 0 [(.int .u64 n45), (.int .u64 n46), (.int .u64 n47), (.int .u64 n48)] ∧ Q (.tuple #[(.agg #[(.int .u64 n45), (.int .u64 n46), (.int .u64 n47), (.int .u64 n48)]), (.bool b41)]) H42) E

def zqm2_3_M  (τ : Tau) (H : Heap) : Prop := mP (τ 0) fun x0 => mP (τ 2) fun x2 => zqm2_3 Q E x0 x2 H

theorem zqm2_4ok  : Ok Pr (zqm2_3_M Q E) (sT zqm2_p8) (zqm2_q3 Q E) E := fun τ H h =>
  wP 0 h (fun x0 h => wP 2 h (fun x2 h => (conv (by kernel_rfl) h)))

def zqm2_5 (Q : QT) (E : ET) (x0 x2 : OA) (x4 : Int) (x28 : Bool) (H : Heap) : Prop :=
 sel x28
 (Does Pr 57 #[(.pointer x0), (.int .i64 80)] H (fun v49 H50 =>
 ptr x2 fun q52 =>
 wr q52 [(.int .u64 0), (.int .u64 0), (.int .u64 0), (.int .u64 0)] H50 fun H51 =>
 ptr x2 fun q53 =>
 ∃ n54 n55 n56 n57 : Int, Heap.rd H51 q53 0 [(.int .u64 n54), (.int .u64 n55), (.int .u64 n56), (.int .u64 n57)] ∧ Q (.tuple #[(.agg #[(.int .u64 n54), (.int .u64 n55), (.int .u64 n56), (.int .u64 n57)]), (.bool false)]) H51) E)
 (zqm2_1 Q E x2 x4 H)

def zqm2_5_M  (τ : Tau) (H : Heap) : Prop := mP (τ 0) fun x0 => mP (τ 2) fun x2 => mI .u8 (τ 4) fun x4 => mB (τ 28) fun x28 => zqm2_5 Q E x0 x2 x4 x28 H

theorem zqm2_6ok  : Ok Pr (zqm2_5_M Q E) (sB (sE zqm2_p8)) (zqm2_q3 Q E) E := fun τ H h =>
  wP 0 h (fun x0 h => wP 2 h (fun x2 h => wI 4 h (fun x4 h => wB 28 h (fun x28 h => (conv (by kernel_rfl) h)))))

noncomputable def zqm2_q4  : XT := (xthen (zqm2_5_M Q E) (zqm2_q3 Q E))

def zqm2_7 (Q : QT) (E : ET) (x0 x2 : OA) (x4 x21 : Int) (H : Heap) : Prop :=
 sel (x21 == 94)
 (zqm2_5 Q E x0 x2 x4 (x21 == 94) H)
 (sel (x21 == 45)
 (zqm2_5 Q E x0 x2 x4 (x21 == 45) H)
 (zqm2_5 Q E x0 x2 x4 (x21 == 93) H))

def zqm2_7_M  (τ : Tau) (H : Heap) : Prop := mP (τ 0) fun x0 => mP (τ 2) fun x2 => mI .u8 (τ 4) fun x4 => mI .u8 (τ 21) fun x21 => zqm2_7 Q E x0 x2 x4 x21 H

theorem zqm2_8ok  : Ok Pr (zqm2_7_M Q E) (sA (sE zqm2_p8)) (zqm2_q4 Q E) E := fun τ H h =>
  wP 0 h (fun x0 h => wP 2 h (fun x2 h => wI 4 h (fun x4 h => wI 21 h (fun x21 h => (conv (by kernel_rfl) h)))))

theorem zqm2_9ok  : Ok Pr (zqm2_7_M Q E) (sE zqm2_p8) (zqm2_q3 Q E) E := fun τ H h =>
  (conv (by kernel_rfl) (vc_seq (K := (zqm2_5_M Q E)) (zqm2_8ok Q E τ H h) (zqm2_6ok Q E)))

def zqm2_10 (Q : QT) (E : ET) (x0 x2 : OA) (x4 x21 : Int) (x22 : Bool) (H : Heap) : Prop :=
 sel x22
 (zqm2_3 Q E x0 x2 H)
 (zqm2_7 Q E x0 x2 x4 x21 H)

def zqm2_10_M  (τ : Tau) (H : Heap) : Prop := mP (τ 0) fun x0 => mP (τ 2) fun x2 => mI .u8 (τ 4) fun x4 => mI .u8 (τ 21) fun x21 => mB (τ 22) fun x22 => zqm2_10 Q E x0 x2 x4 x21 x22 H

theorem zqm2_11ok  : Ok Pr (zqm2_10_M Q E) zqm2_p8 (zqm2_q3 Q E) E := fun τ H h =>
  wP 0 h (fun x0 h => wP 2 h (fun x2 h => wI 4 h (fun x4 h => wI 21 h (fun x21 h => wB 22 h (fun x22 h => (conv (by kernel_rfl) (sel_mapT (b := x22) (τ := (Tau.upd (Tau.upd (Tau.upd (Tau.upd (Tau.upd τ 0 (.pointer x0)) 2 (.pointer x2)) 4 (.int .u8 x4)) 21 (.int .u8 x21)) 22 (.bool x22))) (H := H) (zqm2_4ok Q E) (zqm2_9ok Q E) (conv (by kernel_rfl) h))))))))

noncomputable def zqm2_q5  : XT := (xthen (zqm2_10_M Q E) (zqm2_q3 Q E))

def zqm2_12 (Q : QT) (E : ET) (x0 x2 : OA) (x4 x21 : Int) (H : Heap) : Prop :=
 zqm2_10 Q E x0 x2 x4 x21 (x21 == 92) H

def zqm2_12_M  (τ : Tau) (H : Heap) : Prop := mP (τ 0) fun x0 => mP (τ 2) fun x2 => mI .u8 (τ 4) fun x4 => mI .u8 (τ 21) fun x21 => zqm2_12 Q E x0 x2 x4 x21 H

theorem zqm2_13ok  : Ok Pr (zqm2_12_M Q E) (sA (sI (sB zqm2_p5))) (zqm2_q5 Q E) E := fun τ H h =>
  wP 0 h (fun x0 h => wP 2 h (fun x2 h => wI 4 h (fun x4 h => wI 21 h (fun x21 h => (conv (by kernel_rfl) h)))))

theorem zqm2_14ok  : Ok Pr (zqm2_12_M Q E) (sI (sB zqm2_p5)) (zqm2_q3 Q E) E := fun τ H h =>
  (conv (by kernel_rfl) (vc_seq (K := (zqm2_10_M Q E)) (zqm2_13ok Q E τ H h) (zqm2_11ok Q E)))

theorem zqm2_15ok  : Ok Pr (zqm2_12_M Q E) (sB zqm2_p5) (zqm2_q2 Q E) E := fun τ H h =>
  (conv (by kernel_rfl) (zqm2_14ok Q E τ H h))

noncomputable def zqm2_q6  : XT := (xthen (zqm2_12_M Q E) (zqm2_q2 Q E))

def zqm2_16 (Q : QT) (E : ET) (x0 x2 : OA) (x4 : Int) (H : Heap) : Prop :=
 zqm2_12 Q E x0 x2 x4 x4 H

def zqm2_16_M  (τ : Tau) (H : Heap) : Prop := mP (τ 0) fun x0 => mP (τ 2) fun x2 => mI .u8 (τ 4) fun x4 => zqm2_16 Q E x0 x2 x4 H

theorem zqm2_17ok  : Ok Pr (zqm2_16_M Q E) (sA zqm2_p5) (zqm2_q6 Q E) E := fun τ H h =>
  wP 0 h (fun x0 h => wP 2 h (fun x2 h => wI 4 h (fun x4 h => (conv (by kernel_rfl) h))))

theorem zqm2_18ok  : Ok Pr (zqm2_16_M Q E) zqm2_p5 (zqm2_q2 Q E) E := fun τ H h =>
  (conv (by kernel_rfl) (vc_seq (K := (zqm2_12_M Q E)) (zqm2_17ok Q E τ H h) (zqm2_15ok Q E)))

theorem zqm2_19ok  : Ok Pr (zqm2_16_M Q E) (sB (sB zqm2_p1)) (zqm2_q1 Q E) E := fun τ H h =>
  (conv (by kernel_rfl) (vc_seq (K := (zqm2_1_M Q E)) (zqm2_18ok Q E τ H h) (zqm2_2ok Q E)))

noncomputable def zqm2_q7  : XT := (xthen (zqm2_16_M Q E) (zqm2_q1 Q E))

def zqm2_20 (Q : QT) (E : ET) (x0 x2 : OA) (x4 : Int) (H : Heap) : Prop :=
 ptr x0 fun q58 =>
 ldI .i64 (Addr.add q58 1) H fun n59 =>
 ptr x0 fun q60 =>
 wr (Addr.add q60 1) [(.int .i64 (IntKind.wrap .i64 (n59 + 1)))] H fun H61 =>
 zqm2_16 Q E x0 x2 x4 H61

def zqm2_20_M  (τ : Tau) (H : Heap) : Prop := mP (τ 0) fun x0 => mP (τ 2) fun x2 => mI .u8 (τ 4) fun x4 => zqm2_20 Q E x0 x2 x4 H

theorem zqm2_21ok  : Ok Pr (zqm2_20_M Q E) (sA (sB zqm2_p1)) (zqm2_q7 Q E) E := fun τ H h =>
  wP 0 h (fun x0 h => wP 2 h (fun x2 h => wI 4 h (fun x4 h => (conv (by kernel_rfl) h))))

theorem zqm2_22ok  : Ok Pr (zqm2_20_M Q E) (sB zqm2_p1) (zqm2_q1 Q E) E := fun τ H h =>
  (conv (by kernel_rfl) (vc_seq (K := (zqm2_16_M Q E)) (zqm2_21ok Q E τ H h) (zqm2_19ok Q E)))

noncomputable def zqm2_q8  : XT := (xthen (zqm2_20_M Q E) (zqm2_q1 Q E))

def zqm2_23 (Q : QT) (E : ET) (x0 x2 : OA) (H : Heap) : Prop :=
 ptr x0 fun q62 =>
 ldS q62 H fun s63 =>
 ptr x0 fun q64 =>
 ldI .i64 (Addr.add q64 1) H fun n65 =>
 (0 ≤ n65 ∧ n65 < ((ByteArray.size s63 : Nat) : Int)) ∧ zqm2_20 Q E x0 x2 (sAt s63 n65) H

def zqm2_23_M  (τ : Tau) (H : Heap) : Prop := mP (τ 0) fun x0 => mP (τ 2) fun x2 => zqm2_23 Q E x0 x2 H

theorem zqm2_24ok  : Ok Pr (zqm2_23_M Q E) (sA zqm2_p1) (zqm2_q8 Q E) E := fun τ H h =>
  wP 0 h (fun x0 h => wP 2 h (fun x2 h => (conv (by kernel_rfl) h)))

theorem zqm2_25ok  : Ok Pr (zqm2_23_M Q E) zqm2_p1 (zqm2_q1 Q E) E := fun τ H h =>
  (conv (by kernel_rfl) (vc_seq (K := (zqm2_20_M Q E)) (zqm2_24ok Q E τ H h) (zqm2_22ok Q E)))

def zqm2 (Q : QT) (E : ET) (a0 : OA) (H : Heap) : Prop :=
 nw (.cells #[(.int .u64 0), (.int .u64 0), (.int .u64 0), (.int .u64 0)] 46 (0, 0)) H fun i66 H67 =>
 zqm2_23 Q E a0 (some ⟨i66, 0, none⟩) H67

theorem zqm2_fn (a0 : OA) (Q : QT) (E : ET) (H : Heap) (h : zqm2 Q E a0 H)   : Does Pr 124 #[(.pointer a0)] H Q E :=
  Fn_of_vc (fn := Try.f124) (c := (bodyOf Try.f124)) (args := [(.pointer a0)]) mixed (by kernel_rfl) (by kernel_rfl) (by kernel_rfl) (by kernel_rfl) (by kernel_rfl) ((conv (B := vc Pr (bodyOf Try.f124) (argT [(.pointer a0)]) (zqm2_q1 Q E) E H) (by kernel_rfl) (vc_seq (K := (zqm2_23_M Q E)) (conv (B := vc Pr (sA (bodyOf Try.f124)) (argT [(.pointer a0)]) (xthen (zqm2_23_M Q E) (zqm2_q1 Q E)) E H) (by kernel_rfl) h) (zqm2_25ok Q E))))

/-! jobmux/jobmuxref08.only -/
noncomputable def zqn2_q1 (Q : QT) (E : ET) : XT := (retQ Pr (Try.f125).results.toList Q)

noncomputable def zqn2_p1 : Code := sB (bodyOf Try.f125)

def zqn2_1 (Q : QT) (E : ET)  (H : Heap) : Prop :=
 Q (.int .i64 0) H

def zqn2_1_M  (τ : Tau) (H : Heap) : Prop := zqn2_1 Q E  H

theorem zqn2_2ok  : Ok Pr (zqn2_1_M Q E) (sB zqn2_p1) (zqn2_q1 Q E) E := fun τ H h =>
  (conv (by kernel_rfl) h)

noncomputable def zqn2_q2  : XT := (xthen (zqn2_1_M Q E) (zqn2_q1 Q E))

noncomputable def zqn2_q4 (nx10 : Int → HP) : XT := (xthen (fun τ H => mI .i64 (τ 3) fun x3' => nx10 x3' H) (xblock 0 (zqn2_q2 Q E)))

noncomputable def zqn2_p6 : Code := sI (sI (sB (sA zqn2_p1)))

def zqn2_3 (nx10 : Int → HP) (Q : QT) (E : ET) (x1 : OA) (x3 : Int) (H : Heap) : Prop :=
 nx10 (IntKind.wrap .i64 (x3 + 1)) H

def zqn2_3_M (nx10 : Int → HP) (τ : Tau) (H : Heap) : Prop := mP (τ 1) fun x1 => mI .i64 (τ 3) fun x3 => zqn2_3 nx10 Q E x1 x3 H

theorem zqn2_4ok (nx10 : Int → HP) : Ok Pr (zqn2_3_M Q E nx10) (sB (sB zqn2_p6)) (zqn2_q4 Q E nx10) E := fun τ H h =>
  wP 1 h (fun x1 h => wI 3 h (fun x3 h => (conv (by kernel_rfl) h)))

def zqn2_5 (nx10 : Int → HP) (Q : QT) (E : ET) (x1 : OA) (x3 : Int) (H : Heap) : Prop :=
 ptr x1 fun q19 =>
 ∃ n20 n21 n22 n23 : Int, Heap.rd H q19 0 [(.int .u64 n20), (.int .u64 n21), (.int .u64 n22), (.int .u64 n23)] ∧ Does Pr 73 #[(.agg #[(.int .u64 n20), (.int .u64 n21), (.int .u64 n22), (.int .u64 n23)]), (.int .u8 (IntKind.wrap .u8 x3))] H (fun v24 H25 =>
 ∃ b26 : Bool, v24 = (.bool b26) ∧ sel b26
 (Q (.int .i64 x3) H25)
 (zqn2_3 nx10 Q E x1 x3 H25)) E

def zqn2_5_M (nx10 : Int → HP) (τ : Tau) (H : Heap) : Prop := mP (τ 1) fun x1 => mI .i64 (τ 3) fun x3 => zqn2_5 nx10 Q E x1 x3 H

theorem zqn2_6ok (nx10 : Int → HP) : Ok Pr (zqn2_5_M Q E nx10) (sA (sB zqn2_p6)) (xthen (zqn2_3_M Q E nx10) (zqn2_q4 Q E nx10)) E := fun τ H h =>
  wP 1 h (fun x1 h => wI 3 h (fun x3 h => (conv (by kernel_rfl) h)))

theorem zqn2_7ok (nx10 : Int → HP) : Ok Pr (zqn2_5_M Q E nx10) (sB zqn2_p6) (zqn2_q4 Q E nx10) E := fun τ H h =>
  (conv (by kernel_rfl) (vc_seq (K := (zqn2_3_M Q E nx10)) (zqn2_6ok Q E nx10 τ H h) (zqn2_4ok Q E nx10)))

def zqn2_8 (nx10 : Int → HP) (Q : QT) (E : ET) (x1 : OA) (x3 : Int) (H : Heap) : Prop :=
 sel (decide (x3 < 256))
 (zqn2_5 nx10 Q E x1 x3 H)
 (zqn2_1 Q E  H)

def zqn2_8_M (nx10 : Int → HP) (τ : Tau) (H : Heap) : Prop := mP (τ 1) fun x1 => mI .i64 (τ 3) fun x3 => zqn2_8 nx10 Q E x1 x3 H

theorem zqn2_9ok (nx10 : Int → HP) : Ok Pr (zqn2_8_M Q E nx10) (sA zqn2_p6) (xthen (zqn2_5_M Q E nx10) (zqn2_q4 Q E nx10)) E := fun τ H h =>
  wP 1 h (fun x1 h => wI 3 h (fun x3 h => (conv (by kernel_rfl) h)))

theorem zqn2_10ok (nx10 : Int → HP) : Ok Pr (zqn2_8_M Q E nx10) zqn2_p6 (zqn2_q4 Q E nx10) E := fun τ H h =>
  (conv (by kernel_rfl) (vc_seq (K := (zqn2_5_M Q E nx10)) (zqn2_9ok Q E nx10 τ H h) (zqn2_7ok Q E nx10)))

def zqn2_11 (Q : QT) (E : ET) (x1 : OA) (x3 : Int) (H : Heap) : Prop :=
 ∃ (I : Int → HP) (μ : Int → Heap → Nat), I x3 H ∧ ∀ (x3 : Int) (H : Heap), I x3 H →
 zqn2_8 (fun x3' H1 => I x3' H1 ∧ μ x3' H1 < μ x3 H) Q E x1 x3 H

def zqn2_11_M  (τ : Tau) (H : Heap) : Prop := mP (τ 1) fun x1 => mI .i64 (τ 3) fun x3 => zqn2_11 Q E x1 x3 H

theorem zqn2_12ok  : Ok Pr (zqn2_11_M Q E) (sI (sB (sA zqn2_p1))) (xblock 0 (zqn2_q2 Q E)) E := fun τ H h =>
  wP 1 h (fun x1 h => wI 3 h (fun x3 h => match h with | ⟨I, μ, h0, hr⟩ => (conv (by kernel_rfl) (vc_loopG (c := sI (sI (sB (sA zqn2_p1)))) (τ := (Tau.upd (Tau.upd τ 1 (.pointer x1)) 3 (.int .i64 x3))) [1] (fun τ H => mI .i64 (τ 3) fun x3' => I x3' H) (fun τ H => μ (gI (τ 3)) H) (by kernel_rfl) h0 (fun τ1 H1 hf hI => uF 1 (.pointer x1) (hf 1 (by simp)) (uI 3 hI (fun x3r h => lgx (zqn2_10ok Q E (fun x3' H2 => I x3' H2 ∧ μ x3' H2 < μ x3r H1) (Tau.upd (Tau.upd τ1 1 (.pointer x1)) 3 (.int .i64 x3r)) H1 (conv (by kernel_rfl) (hr x3r H1 h))) (fun τ2 H2 hk => kI 3 hk (fun x3' h => conv (by kernel_rfl) h)))))))))

theorem zqn2_13ok  : Ok Pr (zqn2_11_M Q E) (sB (sA zqn2_p1)) (zqn2_q2 Q E) E := fun τ H h =>
  (conv (by kernel_rfl) (zqn2_12ok Q E τ H h))

def zqn2_14 (Q : QT) (E : ET) (x1 : OA) (H : Heap) : Prop :=
 zqn2_11 Q E x1 0 H

def zqn2_14_M  (τ : Tau) (H : Heap) : Prop := mP (τ 1) fun x1 => zqn2_14 Q E x1 H

theorem zqn2_15ok  : Ok Pr (zqn2_14_M Q E) (sA (sA zqn2_p1)) (xthen (zqn2_11_M Q E) (zqn2_q2 Q E)) E := fun τ H h =>
  wP 1 h (fun x1 h => (conv (by kernel_rfl) h))

theorem zqn2_16ok  : Ok Pr (zqn2_14_M Q E) (sA zqn2_p1) (zqn2_q2 Q E) E := fun τ H h =>
  (conv (by kernel_rfl) (vc_seq (K := (zqn2_11_M Q E)) (zqn2_15ok Q E τ H h) (zqn2_13ok Q E)))

theorem zqn2_17ok  : Ok Pr (zqn2_14_M Q E) zqn2_p1 (zqn2_q1 Q E) E := fun τ H h =>
  (conv (by kernel_rfl) (vc_seq (K := (zqn2_1_M Q E)) (zqn2_16ok Q E τ H h) (zqn2_2ok Q E)))

def zqn2 (Q : QT) (E : ET) (a0_0 : Int) (a0_1 : Int) (a0_2 : Int) (a0_3 : Int) (H : Heap) : Prop :=
 nw (.cells #[(.int .u64 a0_0), (.int .u64 a0_1), (.int .u64 a0_2), (.int .u64 a0_3)] 46 (0, 0)) H fun i27 H28 =>
 zqn2_14 Q E (some ⟨i27, 0, none⟩) H28

theorem zqn2_fn (a0_0 : Int) (a0_1 : Int) (a0_2 : Int) (a0_3 : Int) (Q : QT) (E : ET) (H : Heap) (h : zqn2 Q E a0_0 a0_1 a0_2 a0_3 H)   : Does Pr 125 #[(.agg #[(.int .u64 a0_0), (.int .u64 a0_1), (.int .u64 a0_2), (.int .u64 a0_3)])] H Q E :=
  Fn_of_vc (fn := Try.f125) (c := (bodyOf Try.f125)) (args := [(.agg #[(.int .u64 a0_0), (.int .u64 a0_1), (.int .u64 a0_2), (.int .u64 a0_3)])]) mixed (by kernel_rfl) (by kernel_rfl) (by kernel_rfl) (by kernel_rfl) (by kernel_rfl) ((conv (B := vc Pr (bodyOf Try.f125) (argT [(.agg #[(.int .u64 a0_0), (.int .u64 a0_1), (.int .u64 a0_2), (.int .u64 a0_3)])]) (zqn2_q1 Q E) E H) (by kernel_rfl) (vc_seq (K := (zqn2_14_M Q E)) (conv (B := vc Pr (sA (bodyOf Try.f125)) (argT [(.agg #[(.int .u64 a0_0), (.int .u64 a0_1), (.int .u64 a0_2), (.int .u64 a0_3)])]) (xthen (zqn2_14_M Q E) (zqn2_q1 Q E)) E H) (by kernel_rfl) h) (zqn2_17ok Q E))))

end Go.Proofs.Ytaffcoiomggpfaa
