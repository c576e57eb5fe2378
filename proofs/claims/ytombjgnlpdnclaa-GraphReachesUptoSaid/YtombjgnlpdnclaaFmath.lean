import Derived.Test.YtombjgnlpdnclaaVPr
/- Printed by gen.py: the Go functions of package math over a heap view, and that the model does so. -/
namespace Go.Proofs.Ytombjgnlpdnclaa
open Go.V
set_option linter.unusedVariables false
set_option maxRecDepth 100000
variable (Q : QT) (E : ET)
/-! math/bits.Len -/
noncomputable def math_bits_Len_q1 (Q : QT) (E : ET)  : XT := (retQ Pr (Try.f32).results.toList Q)

def math_bits_Len_1 (Q : QT) (E : ET) (x0 : Int) (H : Heap) : Prop :=
 Does Pr 43 #[(.int .u64 x0)] H (fun v4 H5 =>
 ∃ n6 : Int, v4 = (.int .i64 n6) ∧ Q (.int .i64 n6) H5) E

def math_bits_Len_1_M  (τ : Tau) (H : Heap) : Prop := mI .u64 (τ 0) fun x0 => math_bits_Len_1 Q E x0 H

theorem math_bits_Len_2ok  : Ok Pr (math_bits_Len_1_M Q E) (sB (sB (bodyOf Try.f32))) (math_bits_Len_q1 Q E) E := fun τ H h =>
  wI 0 h (fun x0 h => (conv (by kernel_rfl) h))

def math_bits_Len_3 (Q : QT) (E : ET) (x0 : Int) (H : Heap) : Prop :=
 math_bits_Len_1 Q E x0 H

def math_bits_Len_3_M  (τ : Tau) (H : Heap) : Prop := mI .u64 (τ 0) fun x0 => math_bits_Len_3 Q E x0 H

theorem math_bits_Len_4ok  : Ok Pr (math_bits_Len_3_M Q E) (sA (sB (bodyOf Try.f32))) (xthen (math_bits_Len_1_M Q E) (math_bits_Len_q1 Q E)) E := fun τ H h =>
  wI 0 h (fun x0 h => (conv (by kernel_rfl) h))

theorem math_bits_Len_5ok  : Ok Pr (math_bits_Len_3_M Q E) (sB (bodyOf Try.f32)) (math_bits_Len_q1 Q E) E := fun τ H h =>
  (conv (by kernel_rfl) (vc_seq (K := (math_bits_Len_1_M Q E)) (math_bits_Len_4ok Q E τ H h) (math_bits_Len_2ok Q E)))

def math_bits_Len (Q : QT) (E : ET) (a0 : Int) (H : Heap) : Prop :=
 math_bits_Len_3 Q E a0 H

theorem math_bits_Len_fn (a0 : Int) (Q : QT) (E : ET) (H : Heap) (h : math_bits_Len Q E a0 H)   : Does Pr 32 #[(.int .u64 a0)] H Q E :=
  Fn_of_vc (fn := Try.f32) (c := (bodyOf Try.f32)) (args := [(.int .u64 a0)]) mixed (by kernel_rfl) (by kernel_rfl) (by kernel_rfl) (by kernel_rfl) (by kernel_rfl) ((conv (B := vc Pr (bodyOf Try.f32) (argT [(.int .u64 a0)]) (math_bits_Len_q1 Q E) E H) (by kernel_rfl) (vc_seq (K := (math_bits_Len_3_M Q E)) (conv (B := vc Pr (sA (bodyOf Try.f32)) (argT [(.int .u64 a0)]) (xthen (math_bits_Len_3_M Q E) (math_bits_Len_q1 Q E)) E H) (by kernel_rfl) h) (math_bits_Len_5ok Q E))))

/-! math/bits.Len64 -/
noncomputable def math_bits_Len64_q1 (Q : QT) (E : ET)  : XT := (retQ Pr (Try.f43).results.toList Q)

noncomputable def math_bits_Len64_p1 : Code := sB (bodyOf Try.f43)

def math_bits_Len64_1 (Q : QT) (E : ET) (x0 x2 : Int) (H : Heap) : Prop :=
 (0 ≤ ((IntKind.wrap .u8 x0) : Int) ∧ ((IntKind.wrap .u8 x0) : Int) < ((ByteArray.size ⟨[0, 1, 2, 2, 3, 3, 3, 3, 4, 4, 4, 4, 4, 4, 4, 4, 5, 5, 5, 5, 5, 5, 5, 5, 5, 5, 5, 5, 5, 5, 5, 5, 6, 6, 6, 6, 6, 6, 6, 6, 6, 6, 6, 6, 6, 6, 6, 6, 6, 6, 6, 6, 6, 6, 6, 6, 6, 6, 6, 6, 6, 6, 6, 6, 7, 7, 7, 7, 7, 7, 7, 7, 7, 7, 7, 7, 7, 7, 7, 7, 7, 7, 7, 7, 7, 7, 7, 7, 7, 7, 7, 7, 7, 7, 7, 7, 7, 7, 7, 7, 7, 7, 7, 7, 7, 7, 7, 7, 7, 7, 7, 7, 7, 7, 7, 7, 7, 7, 7, 7, 7, 7, 7, 7, 7, 7, 7, 7, 8, 8, 8, 8, 8, 8, 8, 8, 8, 8, 8, 8, 8, 8, 8, 8, 8, 8, 8, 8, 8, 8, 8, 8, 8, 8, 8, 8, 8, 8, 8, 8, 8, 8, 8, 8, 8, 8, 8, 8, 8, 8, 8, 8, 8, 8, 8, 8, 8, 8, 8, 8, 8, 8, 8, 8, 8, 8, 8, 8, 8, 8, 8, 8, 8, 8, 8, 8, 8, 8, 8, 8, 8, 8, 8, 8, 8, 8, 8, 8, 8, 8, 8, 8, 8, 8, 8, 8, 8, 8, 8, 8, 8, 8, 8, 8, 8, 8, 8, 8, 8, 8, 8, 8, 8, 8, 8, 8, 8, 8, 8, 8, 8, 8, 8, 8, 8, 8, 8, 8, 8, 8, 8, 8, 8, 8, 8, 8].toArray⟩ : Nat) : Int)) ∧ Q (.int .i64 (IntKind.wrap .i64 (x2 + (IntKind.wrap .i64 (sAt ⟨[0, 1, 2, 2, 3, 3, 3, 3, 4, 4, 4, 4, 4, 4, 4, 4, 5, 5, 5, 5, 5, 5, 5, 5, 5, 5, 5, 5, 5, 5, 5, 5, 6, 6, 6, 6, 6, 6, 6, 6, 6, 6, 6, 6, 6, 6, 6, 6, 6, 6, 6, 6, 6, 6, 6, 6, 6, 6, 6, 6, 6, 6, 6, 6, 7, 7, 7, 7, 7, 7, 7, 7, 7, 7, 7, 7, 7, 7, 7, 7, 7, 7, 7, 7, 7, 7, 7, 7, 7, 7, 7, 7, 7, 7, 7, 7, 7, 7, 7, 7, 7, 7, 7, 7, 7, 7, 7, 7, 7, 7, 7, 7, 7, 7, 7, 7, 7, 7, 7, 7, 7, 7, 7, 7, 7, 7, 7, 7, 8, 8, 8, 8, 8, 8, 8, 8, 8, 8, 8, 8, 8, 8, 8, 8, 8, 8, 8, 8, 8, 8, 8, 8, 8, 8, 8, 8, 8, 8, 8, 8, 8, 8, 8, 8, 8, 8, 8, 8, 8, 8, 8, 8, 8, 8, 8, 8, 8, 8, 8, 8, 8, 8, 8, 8, 8, 8, 8, 8, 8, 8, 8, 8, 8, 8, 8, 8, 8, 8, 8, 8, 8, 8, 8, 8, 8, 8, 8, 8, 8, 8, 8, 8, 8, 8, 8, 8, 8, 8, 8, 8, 8, 8, 8, 8, 8, 8, 8, 8, 8, 8, 8, 8, 8, 8, 8, 8, 8, 8, 8, 8, 8, 8, 8, 8, 8, 8, 8, 8, 8, 8, 8, 8, 8, 8, 8, 8].toArray⟩ (IntKind.wrap .u8 x0)))))) H

def math_bits_Len64_1_M  (τ : Tau) (H : Heap) : Prop := mI .u64 (τ 0) fun x0 => mI .i64 (τ 2) fun x2 => math_bits_Len64_1 Q E x0 x2 H

theorem math_bits_Len64_2ok  : Ok Pr (math_bits_Len64_1_M Q E) (sB (sB (sB math_bits_Len64_p1))) (math_bits_Len64_q1 Q E) E := fun τ H h =>
  wI 0 h (fun x0 h => wI 2 h (fun x2 h => (conv (by kernel_rfl) h)))

noncomputable def math_bits_Len64_q2  : XT := (xthen (math_bits_Len64_1_M Q E) (math_bits_Len64_q1 Q E))

def math_bits_Len64_3 (Q : QT) (E : ET) (x0 x2 : Int) (H : Heap) : Prop :=
 sel (decide (x0 ≥ 256))
 (0 ≤ (8 : Int) ∧ math_bits_Len64_1 Q E (Int.fdiv x0 (2 ^ min (8 : Int).toNat (IntKind.bits .u64))) (IntKind.wrap .i64 (x2 + 8)) H)
 (math_bits_Len64_1 Q E x0 x2 H)

def math_bits_Len64_3_M  (τ : Tau) (H : Heap) : Prop := mI .u64 (τ 0) fun x0 => mI .i64 (τ 2) fun x2 => math_bits_Len64_3 Q E x0 x2 H

theorem math_bits_Len64_4ok  : Ok Pr (math_bits_Len64_3_M Q E) (sA (sB (sB math_bits_Len64_p1))) (math_bits_Len64_q2 Q E) E := fun τ H h =>
  wI 0 h (fun x0 h => wI 2 h (fun x2 h => (conv (by kernel_rfl) h)))

theorem math_bits_Len64_5ok  : Ok Pr (math_bits_Len64_3_M Q E) (sB (sB math_bits_Len64_p1)) (math_bits_Len64_q1 Q E) E := fun τ H h =>
  (conv (by kernel_rfl) (vc_seq (K := (math_bits_Len64_1_M Q E)) (math_bits_Len64_4ok Q E τ H h) (math_bits_Len64_2ok Q E)))

noncomputable def math_bits_Len64_q3  : XT := (xthen (math_bits_Len64_3_M Q E) (math_bits_Len64_q1 Q E))

def math_bits_Len64_6 (Q : QT) (E : ET) (x0 x2 : Int) (H : Heap) : Prop :=
 sel (decide (x0 ≥ 65536))
 (0 ≤ (16 : Int) ∧ math_bits_Len64_3 Q E (Int.fdiv x0 (2 ^ min (16 : Int).toNat (IntKind.bits .u64))) (IntKind.wrap .i64 (x2 + 16)) H)
 (math_bits_Len64_3 Q E x0 x2 H)

def math_bits_Len64_6_M  (τ : Tau) (H : Heap) : Prop := mI .u64 (τ 0) fun x0 => mI .i64 (τ 2) fun x2 => math_bits_Len64_6 Q E x0 x2 H

theorem math_bits_Len64_7ok  : Ok Pr (math_bits_Len64_6_M Q E) (sA (sB math_bits_Len64_p1)) (math_bits_Len64_q3 Q E) E := fun τ H h =>
  wI 0 h (fun x0 h => wI 2 h (fun x2 h => (conv (by kernel_rfl) h)))

theorem math_bits_Len64_8ok  : Ok Pr (math_bits_Len64_6_M Q E) (sB math_bits_Len64_p1) (math_bits_Len64_q1 Q E) E := fun τ H h =>
  (conv (by kernel_rfl) (vc_seq (K := (math_bits_Len64_3_M Q E)) (math_bits_Len64_7ok Q E τ H h) (math_bits_Len64_5ok Q E)))

noncomputable def math_bits_Len64_q4  : XT := (xthen (math_bits_Len64_6_M Q E) (math_bits_Len64_q1 Q E))

def math_bits_Len64_9 (Q : QT) (E : ET) (x0 x2 : Int) (H : Heap) : Prop :=
 sel (decide (x0 ≥ 4294967296))
 (0 ≤ (32 : Int) ∧ math_bits_Len64_6 Q E (Int.fdiv x0 (2 ^ min (32 : Int).toNat (IntKind.bits .u64))) 32 H)
 (math_bits_Len64_6 Q E x0 x2 H)

def math_bits_Len64_9_M  (τ : Tau) (H : Heap) : Prop := mI .u64 (τ 0) fun x0 => mI .i64 (τ 2) fun x2 => math_bits_Len64_9 Q E x0 x2 H

theorem math_bits_Len64_10ok  : Ok Pr (math_bits_Len64_9_M Q E) (sA math_bits_Len64_p1) (math_bits_Len64_q4 Q E) E := fun τ H h =>
  wI 0 h (fun x0 h => wI 2 h (fun x2 h => (conv (by kernel_rfl) h)))

theorem math_bits_Len64_11ok  : Ok Pr (math_bits_Len64_9_M Q E) math_bits_Len64_p1 (math_bits_Len64_q1 Q E) E := fun τ H h =>
  (conv (by kernel_rfl) (vc_seq (K := (math_bits_Len64_6_M Q E)) (math_bits_Len64_10ok Q E τ H h) (math_bits_Len64_8ok Q E)))

def math_bits_Len64 (Q : QT) (E : ET) (a0 : Int) (H : Heap) : Prop :=
 math_bits_Len64_9 Q E a0 0 H

theorem math_bits_Len64_fn (a0 : Int) (Q : QT) (E : ET) (H : Heap) (h : math_bits_Len64 Q E a0 H)   : Does Pr 43 #[(.int .u64 a0)] H Q E :=
  Fn_of_vc (fn := Try.f43) (c := (bodyOf Try.f43)) (args := [(.int .u64 a0)]) mixed (by kernel_rfl) (by kernel_rfl) (by kernel_rfl) (by kernel_rfl) (by kernel_rfl) ((conv (B := vc Pr (bodyOf Try.f43) (argT [(.int .u64 a0)]) (math_bits_Len64_q1 Q E) E H) (by kernel_rfl) (vc_seq (K := (math_bits_Len64_9_M Q E)) (conv (B := vc Pr (sA (bodyOf Try.f43)) (argT [(.int .u64 a0)]) (xthen (math_bits_Len64_9_M Q E) (math_bits_Len64_q1 Q E)) E H) (by kernel_rfl) h) (math_bits_Len64_11ok Q E))))

end Go.Proofs.Ytombjgnlpdnclaa
