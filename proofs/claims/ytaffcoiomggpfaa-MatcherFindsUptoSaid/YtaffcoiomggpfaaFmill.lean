import Derived.Test.YtaffcoiomggpfaaVPr
/- Printed by gen.py: the Go functions of package mill over a heap view,and that the model does so. -/
namespace Go.Proofs.Ytaffcoiomggpfaa
open Go.V
set_option linter.unusedVariables false
set_option maxRecDepth 100000
variable (Q:QT) (E:ET) (τ:Tau) (H:Heap)
noncomputable def zqp1_q1 (Q:QT) (E:ET) :XT:=(retQ Pr (Try.f21).results.toList Q)
def zqp1 (Q:QT) (E:ET)  (H:Heap):Prop :=
 nw (.cells #[(.string ⟨[111,107].toArray⟩),(.string ⟨#[]⟩),(.string ⟨[114,46,42,121,36].toArray⟩),(.string ⟨[94,117,112,124,103,111,43].toArray⟩),(.string ⟨[91,48,45,57,93,43,120,63].toArray⟩),(.string ⟨[40,97,98,41,42,99].toArray⟩),(.string ⟨[94,36].toArray⟩)] 9 (0,0)) H fun i1 H2 =>
 Q (.slice (some ⟨i1,0,none⟩) 7 7) H2
theorem zqp1_fn  (Q:QT) (E:ET) (H:Heap) (h:zqp1 Q E  H)  :Does Pr 21 #[] H Q E :=
  Fn_of_vc (fn:=Try.f21) (c:=(bodyOf Try.f21)) (args:=[]) mixed (by kernel_rfl) (by kernel_rfl) (by kernel_rfl) (by kernel_rfl) (by kernel_rfl) ((conv (B:=vc Pr (bodyOf Try.f21) (argT []) (zqp1_q1 Q E) E H) (by kernel_rfl) h))
noncomputable def zqq1_q1 (Q:QT) (E:ET) :XT:=(retQ Pr (Try.f22).results.toList Q)
noncomputable def zqq1_p1:Code:=sB (bodyOf Try.f22)
def zqq1_1 (Q:QT) (E:ET) (x5:Int) (H:Heap):Prop :=
 Q (.int .i64 x5) H
def zqq1_1_M:Prop:=mI .i64 (τ 5) fun x5=>zqq1_1 Q E x5 H
theorem zqq1_2ok :Ok Pr (zqq1_1_M Q E) (sB (sB zqq1_p1)) (zqq1_q1 Q E) E:=fun τ H h =>
  wI 5 h (fun x5 h=>(conv (by kernel_rfl) h))
noncomputable def zqq1_q2 :XT:=(xthen (zqq1_1_M Q E) (zqq1_q1 Q E))
def zqq1_3 (Q:QT) (E:ET) (x1 x5:Int) (H:Heap):Prop :=
 sel (decide (x5 < 0))
 (zqq1_1 Q E (IntKind.wrap .i64 (x5+x1)) H)
 (zqq1_1 Q E x5 H)
def zqq1_3_M:Prop:=mI .i64 (τ 1) fun x1=>mI .i64 (τ 5) fun x5=>zqq1_3 Q E x1 x5 H
theorem zqq1_4ok :Ok Pr (zqq1_3_M Q E) (sA (sB zqq1_p1)) (zqq1_q2 Q E) E:=fun τ H h =>
  wI 1 h (fun x1 h=>wI 5 h (fun x5 h=>(conv (by kernel_rfl) h)))
theorem zqq1_5ok :Ok Pr (zqq1_3_M Q E) (sB zqq1_p1) (zqq1_q1 Q E) E:=fun τ H h =>
  (conv (by kernel_rfl) (vc_seq (K:=(zqq1_1_M Q E)) (zqq1_4ok Q E τ H h) (zqq1_2ok Q E)))
noncomputable def zqq1_q3 :XT:=(xthen (zqq1_3_M Q E) (zqq1_q1 Q E))
def zqq1_6 (Q:QT) (E:ET) (x0 x1:Int) (H:Heap):Prop :=
 (x1:Int) ≠ 0∧zqq1_3 Q E x1 (Int.tmod x0 x1) H
def zqq1_6_M:Prop:=mI .i64 (τ 0) fun x0=>mI .i64 (τ 1) fun x1=>zqq1_6 Q E x0 x1 H
theorem zqq1_7ok :Ok Pr (zqq1_6_M Q E) (sA zqq1_p1) (zqq1_q3 Q E) E:=fun τ H h =>
  wI 0 h (fun x0 h=>wI 1 h (fun x1 h=>(conv (by kernel_rfl) h)))
theorem zqq1_8ok :Ok Pr (zqq1_6_M Q E) zqq1_p1 (zqq1_q1 Q E) E:=fun τ H h =>
  (conv (by kernel_rfl) (vc_seq (K:=(zqq1_3_M Q E)) (zqq1_7ok Q E τ H h) (zqq1_5ok Q E)))
def zqq1 (Q:QT) (E:ET) (a0:Int) (a1:Int) (H:Heap):Prop :=
 zqq1_6 Q E a0 a1 H
theorem zqq1_fn (a0:Int) (a1:Int) (Q:QT) (E:ET) (H:Heap) (h:zqq1 Q E a0 a1 H)  :Does Pr 22 #[(.int .i64 a0),(.int .i64 a1)] H Q E :=
  Fn_of_vc (fn:=Try.f22) (c:=(bodyOf Try.f22)) (args:=[(.int .i64 a0),(.int .i64 a1)]) mixed (by kernel_rfl) (by kernel_rfl) (by kernel_rfl) (by kernel_rfl) (by kernel_rfl) ((conv (B:=vc Pr (bodyOf Try.f22) (argT [(.int .i64 a0),(.int .i64 a1)]) (zqq1_q1 Q E) E H) (by kernel_rfl) (vc_seq (K:=(zqq1_6_M Q E)) (conv (B:=vc Pr (sA (bodyOf Try.f22)) (argT [(.int .i64 a0),(.int .i64 a1)]) (xthen (zqq1_6_M Q E) (zqq1_q1 Q E)) E H) (by kernel_rfl) h) (zqq1_8ok Q E))))
noncomputable def zqr1_q1 (Q:QT) (E:ET) :XT:=(retQ Pr (Try.f47).results.toList Q)
def zqr1 (Q:QT) (E:ET) (a0:OA) (a0l:Nat) (a0c:Nat) (H:Heap):Prop :=
 nw (.cells #[(.slice a0 a0l a0c),(.int .i64 0)] 123 (0,0)) H fun i1 H2 =>
 Q (.pointer (some ⟨i1,0,none⟩)) H2
theorem zqr1_fn (a0:OA) (a0l:Nat) (a0c:Nat) (Q:QT) (E:ET) (H:Heap) (h:zqr1 Q E a0 a0l a0c H)  :Does Pr 47 #[(.slice a0 a0l a0c)] H Q E :=
  Fn_of_vc (fn:=Try.f47) (c:=(bodyOf Try.f47)) (args:=[(.slice a0 a0l a0c)]) mixed (by kernel_rfl) (by kernel_rfl) (by kernel_rfl) (by kernel_rfl) (by kernel_rfl) ((conv (B:=vc Pr (bodyOf Try.f47) (argT [(.slice a0 a0l a0c)]) (zqr1_q1 Q E) E H) (by kernel_rfl) h))
noncomputable def zqs1_q1 (Q:QT) (E:ET) :XT:=(retQ Pr (Try.f49).results.toList Q)
def zqs1_1 (Q:QT) (E:ET) (x0:OA) (x1:Int) (H:Heap):Prop :=
 ptr x0 fun q4 =>
 ldI .i64 (Addr.add q4 1) H fun n5 =>
 ptr x0 fun q6 =>
 wr (Addr.add q6 1) [(.int .i64 (IntKind.wrap .i64 (n5+1)))] H fun H7 =>
 ptr x0 fun q8 =>
 ldSl q8 H7 fun p9 l10 c11 =>
 ptr x0 fun q12 =>
 ldI .i64 (Addr.add q12 1) H7 fun n13 =>
 (0≤((IntKind.wrap .i64 (n13 - 1)):Int)∧((IntKind.wrap .i64 (n13 - 1)):Int) < (l10:Int))∧ptr p9 fun q14 =>
 ldI .i64 (Addr.add q14 (((IntKind.wrap .i64 (n13 - 1)):Int).toNat * 1)) H7 fun n15 =>
 Does Pr 22 #[(.int .i64 n15),(.int .i64 x1)] H7 (fun v16 H17 =>
 ∃ n18:Int,v16=(.int .i64 n18)∧Q (.int .i64 n18) H17) (fun _ _=>False)
def zqs1_1_M:Prop:=mP (τ 0) fun x0=>mI .i64 (τ 1) fun x1=>zqs1_1 Q E x0 x1 H
theorem zqs1_2ok :Ok Pr (zqs1_1_M Q E) (sB (sB (bodyOf Try.f49))) (zqs1_q1 Q E) E:=fun τ H h =>
  wP 0 h (fun x0 h=>wI 1 h (fun x1 h=>(conv (by kernel_rfl) h)))
noncomputable def zqs1_q2 :XT:=(xthen (zqs1_1_M Q E) (zqs1_q1 Q E))
def zqs1_3 (Q:QT) (E:ET) (x0:OA) (x1:Int) (H:Heap):Prop :=
 Does Pr 61 #[(.pointer x0)] H (fun v19 H20 =>
 ∃ b21:Bool,v19=(.bool b21)∧sel (!b21)
 (Q (.int .i64 0) H20)
 (zqs1_1 Q E x0 x1 H20)) E
def zqs1_3_M:Prop:=mP (τ 0) fun x0=>mI .i64 (τ 1) fun x1=>zqs1_3 Q E x0 x1 H
theorem zqs1_4ok :Ok Pr (zqs1_3_M Q E) (sA (sB (bodyOf Try.f49))) (zqs1_q2 Q E) E:=fun τ H h =>
  wP 0 h (fun x0 h=>wI 1 h (fun x1 h=>(conv (by kernel_rfl) h)))
theorem zqs1_5ok :Ok Pr (zqs1_3_M Q E) (sB (bodyOf Try.f49)) (zqs1_q1 Q E) E:=fun τ H h =>
  (conv (by kernel_rfl) (vc_seq (K:=(zqs1_1_M Q E)) (zqs1_4ok Q E τ H h) (zqs1_2ok Q E)))
def zqs1 (Q:QT) (E:ET) (a0:OA) (a1:Int) (H:Heap):Prop :=
 zqs1_3 Q E a0 a1 H
theorem zqs1_fn (a0:OA) (a1:Int) (Q:QT) (E:ET) (H:Heap) (h:zqs1 Q E a0 a1 H)  :Does Pr 49 #[(.pointer a0),(.int .i64 a1)] H Q E :=
  Fn_of_vc (fn:=Try.f49) (c:=(bodyOf Try.f49)) (args:=[(.pointer a0),(.int .i64 a1)]) mixed (by kernel_rfl) (by kernel_rfl) (by kernel_rfl) (by kernel_rfl) (by kernel_rfl) ((conv (B:=vc Pr (bodyOf Try.f49) (argT [(.pointer a0),(.int .i64 a1)]) (zqs1_q1 Q E) E H) (by kernel_rfl) (vc_seq (K:=(zqs1_3_M Q E)) (conv (B:=vc Pr (sA (bodyOf Try.f49)) (argT [(.pointer a0),(.int .i64 a1)]) (xthen (zqs1_3_M Q E) (zqs1_q1 Q E)) E H) (by kernel_rfl) h) (zqs1_5ok Q E))))
noncomputable def zqt1_q1 (Q:QT) (E:ET) :XT:=(retQ Pr (Try.f61).results.toList Q)
def zqt1 (Q:QT) (E:ET) (a0:OA) (H:Heap):Prop :=
 ptr a0 fun q1 =>
 ldI .i64 (Addr.add q1 1) H fun n2 =>
 ptr a0 fun q3 =>
 ldSl q3 H fun p4 l5 c6 =>
 Q (.bool (decide (n2 < (l5:Int)))) H
theorem zqt1_fn (a0:OA) (Q:QT) (E:ET) (H:Heap) (h:zqt1 Q E a0 H)  :Does Pr 61 #[(.pointer a0)] H Q E :=
  Fn_of_vc (fn:=Try.f61) (c:=(bodyOf Try.f61)) (args:=[(.pointer a0)]) mixed (by kernel_rfl) (by kernel_rfl) (by kernel_rfl) (by kernel_rfl) (by kernel_rfl) ((conv (B:=vc Pr (bodyOf Try.f61) (argT [(.pointer a0)]) (zqt1_q1 Q E) E H) (by kernel_rfl) h))
noncomputable def zqu1_q1 (Q:QT) (E:ET) :XT:=(retQ Pr (Try.f76).results.toList Q)
def zqu1 (Q:QT) (E:ET) (a0:OA) (H:Heap):Prop :=
 nw (.cells #[(.string ⟨[111,107].toArray⟩),(.string ⟨[111].toArray⟩),(.string ⟨[107].toArray⟩),(.string ⟨[114,101,97,100,121,10].toArray⟩),(.string ⟨[117,112].toArray⟩),(.string ⟨[10,103,111,111].toArray⟩),(.string ⟨[49,50,120].toArray⟩),(.string ⟨[97,98,97,98,99].toArray⟩),(.string ⟨[99].toArray⟩),(.string ⟨[10].toArray⟩),(.string ⟨[122,122].toArray⟩),(.string ⟨[27,91,49,109,104,105,13,10].toArray⟩)] 9 (0,0)) H fun i1 H2 =>
 Does Pr 49 #[(.pointer a0),(.int .i64 12)] H2 (fun v3 H4 =>
 ∃ n5:Int,v3=(.int .i64 n5)∧(0≤n5∧n5 < ((12:Nat):Int))∧ldS (Addr.add ⟨i1,0,none⟩ (n5.toNat * 1)) H4 fun s6 =>
 ∀ c7,ByteArray.size s6≤c7→nw (.cells (bytesV s6++List.replicate (c7 - ByteArray.size s6) (Value.int .u8 0)).toArray 5 (c7,c7+1)) H4 fun i8 H9 =>
 Q (.slice (some ⟨i8,0,none⟩) (ByteArray.size s6) c7) H9) E
theorem zqu1_fn (a0:OA) (Q:QT) (E:ET) (H:Heap) (h:zqu1 Q E a0 H)  :Does Pr 76 #[(.pointer a0)] H Q E :=
  Fn_of_vc (fn:=Try.f76) (c:=(bodyOf Try.f76)) (args:=[(.pointer a0)]) mixed (by kernel_rfl) (by kernel_rfl) (by kernel_rfl) (by kernel_rfl) (by kernel_rfl) ((conv (B:=vc Pr (bodyOf Try.f76) (argT [(.pointer a0)]) (zqu1_q1 Q E) E H) (by kernel_rfl) h))
end Go.Proofs.Ytaffcoiomggpfaa
