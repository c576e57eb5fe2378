import Derived.Test.YtaffcoiomggpfaaVPr
/- Printed by gen.py: the Go functions of package regex over a heap view,and that the model does so. -/
namespace Go.Proofs.Ytaffcoiomggpfaa
open Go.V
set_option linter.unusedVariables false
set_option maxRecDepth 100000
variable (Q:QT) (E:ET) (τ:Tau) (H:Heap)
noncomputable def zqv1_q1 (Q:QT) (E:ET) :XT:=(retQ Pr (Try.f28).results.toList Q)
noncomputable def zqv1_p2:Code:=sB (sB (bodyOf Try.f28))
def zqv1_1 (Q:QT) (E:ET) (x4:OA) (H:Heap):Prop :=
 ptr x4 fun q11 =>
 ldSl (Addr.add q11 3) H fun p12 l13 c14 =>
 Q (.tuple #[(.slice p12 l13 c14),(.int .i64 0)]) H
def zqv1_1_M:Prop:=mP (τ 4) fun x4=>zqv1_1 Q E x4 H
theorem zqv1_2ok :Ok Pr (zqv1_1_M Q E) (sB (sB (sB zqv1_p2))) (zqv1_q1 Q E) E:=fun τ H h =>
  wP 4 h (fun x4 h=>(conv (by kernel_rfl) h))
def zqv1_3 (Q:QT) (E:ET) (x4:OA) (H:Heap):Prop :=
 ptr x4 fun q15 =>
 ldI .i64 (Addr.add q15 4) H fun n16 =>
 sel (n16 != 0)
 (ptr x4 fun q17 =>
 ldI .i64 (Addr.add q17 4) H fun n18 =>
 Q (.tuple #[(.slice none 0 0),(.int .i64 n18)]) H)
 (ptr x4 fun q19 =>
 ldSl (Addr.add q19 3) H fun p20 l21 c22 =>
 sel (decide (((l21:Int):Int) > 256))
 (Q (.tuple #[(.slice none 0 0),(.int .i64 1)]) H)
 (zqv1_1 Q E x4 H))
def zqv1_3_M:Prop:=mP (τ 4) fun x4=>zqv1_3 Q E x4 H
theorem zqv1_4ok :Ok Pr (zqv1_3_M Q E) (sA (sB (sB zqv1_p2))) (xthen (zqv1_1_M Q E) (zqv1_q1 Q E)) E:=fun τ H h =>
  wP 4 h (fun x4 h=>(conv (by kernel_rfl) h))
theorem zqv1_5ok :Ok Pr (zqv1_3_M Q E) (sB (sB zqv1_p2)) (zqv1_q1 Q E) E:=fun τ H h =>
  (conv (by kernel_rfl) (vc_seq (K:=(zqv1_1_M Q E)) (zqv1_4ok Q E τ H h) (zqv1_2ok Q E)))
def zqv1_6 (Q:QT) (E:ET) (x4:OA) (H:Heap):Prop :=
 Does Pr 60 #[(.pointer x4)] H (fun v23 H24 =>
 ∃ n25:Int,v23=(.int .i64 n25)∧zqv1_3 Q E x4 H24) E
def zqv1_6_M:Prop:=mP (τ 4) fun x4=>zqv1_6 Q E x4 H
theorem zqv1_7ok :Ok Pr (zqv1_6_M Q E) (sA (sB zqv1_p2)) (xthen (zqv1_3_M Q E) (zqv1_q1 Q E)) E:=fun τ H h =>
  wP 4 h (fun x4 h=>(conv (by kernel_rfl) h))
theorem zqv1_8ok :Ok Pr (zqv1_6_M Q E) (sB zqv1_p2) (zqv1_q1 Q E) E:=fun τ H h =>
  (conv (by kernel_rfl) (vc_seq (K:=(zqv1_3_M Q E)) (zqv1_7ok Q E τ H h) (zqv1_5ok Q E)))
def zqv1_9 (Q:QT) (E:ET) (x0:ByteArray) (H:Heap):Prop :=
 nw (.cells #[(.string x0),(.int .i64 0),(.int .i64 0),(.slice none 0 0),(.int .i64 0)] 89 (0,0)) H fun i26 H27 =>
 zqv1_6 Q E (some ⟨i26,0,none⟩) H27
def zqv1_9_M:Prop:=mS (τ 0) fun x0=>zqv1_9 Q E x0 H
theorem zqv1_10ok :Ok Pr (zqv1_9_M Q E) (sA zqv1_p2) (xthen (zqv1_6_M Q E) (zqv1_q1 Q E)) E:=fun τ H h =>
  wS 0 h (fun x0 h=>(conv (by kernel_rfl) h))
theorem zqv1_11ok :Ok Pr (zqv1_9_M Q E) zqv1_p2 (zqv1_q1 Q E) E:=fun τ H h =>
  (conv (by kernel_rfl) (vc_seq (K:=(zqv1_6_M Q E)) (zqv1_10ok Q E τ H h) (zqv1_8ok Q E)))
def zqv1_12 (Q:QT) (E:ET) (x0:ByteArray) (H:Heap):Prop :=
 sel (decide ((((ByteArray.size x0:Nat):Int):Int) > 128))
 (Q (.tuple #[(.slice none 0 0),(.int .i64 1)]) H)
 (zqv1_9 Q E x0 H)
def zqv1_12_M:Prop:=mS (τ 0) fun x0=>zqv1_12 Q E x0 H
theorem zqv1_13ok :Ok Pr (zqv1_12_M Q E) (sA (sB (bodyOf Try.f28))) (xthen (zqv1_9_M Q E) (zqv1_q1 Q E)) E:=fun τ H h =>
  wS 0 h (fun x0 h=>(conv (by kernel_rfl) h))
theorem zqv1_14ok :Ok Pr (zqv1_12_M Q E) (sB (bodyOf Try.f28)) (zqv1_q1 Q E) E:=fun τ H h =>
  (conv (by kernel_rfl) (vc_seq (K:=(zqv1_9_M Q E)) (zqv1_13ok Q E τ H h) (zqv1_11ok Q E)))
def zqv1 (Q:QT) (E:ET) (a0:ByteArray) (H:Heap):Prop :=
 zqv1_12 Q E a0 H
theorem zqv1_fn (a0:ByteArray) (Q:QT) (E:ET) (H:Heap) (h:zqv1 Q E a0 H)  :Does Pr 28 #[(.string a0)] H Q E :=
  Fn_of_vc (fn:=Try.f28) (c:=(bodyOf Try.f28)) (args:=[(.string a0)]) mixed (by kernel_rfl) (by kernel_rfl) (by kernel_rfl) (by kernel_rfl) (by kernel_rfl) ((conv (B:=vc Pr (bodyOf Try.f28) (argT [(.string a0)]) (zqv1_q1 Q E) E H) (by kernel_rfl) (vc_seq (K:=(zqv1_12_M Q E)) (conv (B:=vc Pr (sA (bodyOf Try.f28)) (argT [(.string a0)]) (xthen (zqv1_12_M Q E) (zqv1_q1 Q E)) E H) (by kernel_rfl) h) (zqv1_14ok Q E))))
noncomputable def zqw1_q1 (Q:QT) (E:ET) :XT:=(retQ Pr (Try.f40).results.toList Q)
noncomputable def zqw1_p1:Code:=sB (bodyOf Try.f40)
noncomputable def zqw1_p3:Code:=sB (sB zqw1_p1)
def zqw1_1 (Q:QT) (E:ET) (x0:OA) (l0 c0:Nat) (x3:OA) (l3 c3:Nat) (H:Heap):Prop :=
 (0≤((IntKind.wrap .i64 ((l0:Int) - 1)):Int)∧((IntKind.wrap .i64 ((l0:Int) - 1)):Int) < (l3:Int))∧ptr x3 fun q33 =>
 ldI .i64 (Addr.add q33 (((IntKind.wrap .i64 ((l0:Int) - 1)):Int).toNat * 1)) H fun n34 =>
 Q (.bool (n34 == (l0:Int))) H
def zqw1_1_M:Prop:=mSl (τ 0) fun x0 l0 c0=>mSl (τ 3) fun x3 l3 c3=>zqw1_1 Q E x0 l0 c0 x3 l3 c3 H
theorem zqw1_2ok :Ok Pr (zqw1_1_M Q E) (sB zqw1_p3) (zqw1_q1 Q E) E:=fun τ H h =>
  wSl 0 h (fun x0 l0 c0 h=>wSl 3 h (fun x3 l3 c3 h=>(conv (by kernel_rfl) h)))
noncomputable def zqw1_q2 :XT:=(xthen (zqw1_1_M Q E) (zqw1_q1 Q E))
noncomputable def zqw1_q3 :XT:=(xblock 0 (zqw1_q2 Q E))
noncomputable def zqw1_p7:Code:=sI (sB (sA zqw1_p3))
noncomputable def zqw1_q4 (nx35:Int→HP):XT:=(xthen (fun τ H=>mI .i64 (τ 21) fun x21'=>nx35 x21' H) (zqw1_q3 Q E))
noncomputable def zqw1_p9:Code:=sB (sI zqw1_p7)
def zqw1_3 (nx35:Int→HP) (Q:QT) (E:ET) (x0:OA) (l0 c0:Nat) (x3:OA) (l3 c3:Nat) (x19:OA) (l19 c19:Nat) (x20 x21:Int) (H:Heap):Prop :=
 nx35 (IntKind.wrap .i64 (x21+1)) H
def zqw1_3_M (nx35:Int→HP) (τ:Tau) (H:Heap):Prop:=mSl (τ 0) fun x0 l0 c0=>mSl (τ 3) fun x3 l3 c3=>mSl (τ 19) fun x19 l19 c19=>mI .i64 (τ 20) fun x20=>mI .i64 (τ 21) fun x21=>zqw1_3 nx35 Q E x0 l0 c0 x3 l3 c3 x19 l19 c19 x20 x21 H
theorem zqw1_4ok (nx35:Int→HP):Ok Pr (zqw1_3_M Q E nx35) (sB (sB zqw1_p9)) (zqw1_q4 Q E nx35) E:=fun τ H h =>
  wSl 0 h (fun x0 l0 c0 h=>wSl 3 h (fun x3 l3 c3 h=>wSl 19 h (fun x19 l19 c19 h=>wI 20 h (fun x20 h=>wI 21 h (fun x21 h=>(conv (by kernel_rfl) h))))))
noncomputable def zqw1_q6 (nx35:Int→HP):XT:=(xblock 1 (xthen (zqw1_3_M Q E nx35) (zqw1_q4 Q E nx35)))
noncomputable def zqw1_p13:Code:=sI (sA (sB zqw1_p9))
noncomputable def zqw1_p16:Code:=sB (sB (sB zqw1_p13))
noncomputable def zqw1_p18:Code:=sB (sB zqw1_p16)
def zqw1_5 (nx35:Int→HP) (Q:QT) (E:ET) (x0:OA) (l0 c0:Nat) (x3:OA) (l3 c3:Nat) (x19:OA) (l19 c19:Nat) (x20 x21:Int) (x88:Bool) (H:Heap):Prop :=
 sel x88
 (Q (.bool false) H)
 (zqw1_3 nx35 Q E x0 l0 c0 x3 l3 c3 x19 l19 c19 x20 x21 H)
def zqw1_5_M (nx35:Int→HP) (τ:Tau) (H:Heap):Prop:=mSl (τ 0) fun x0 l0 c0=>mSl (τ 3) fun x3 l3 c3=>mSl (τ 19) fun x19 l19 c19=>mI .i64 (τ 20) fun x20=>mI .i64 (τ 21) fun x21=>mB (τ 88) fun x88=>zqw1_5 nx35 Q E x0 l0 c0 x3 l3 c3 x19 l19 c19 x20 x21 x88 H
theorem zqw1_6ok (nx35:Int→HP):Ok Pr (zqw1_5_M Q E nx35) (sB zqw1_p18) (zqw1_q6 Q E nx35) E:=fun τ H h =>
  wSl 0 h (fun x0 l0 c0 h=>wSl 3 h (fun x3 l3 c3 h=>wSl 19 h (fun x19 l19 c19 h=>wI 20 h (fun x20 h=>wI 21 h (fun x21 h=>wB 88 h (fun x88 h=>(conv (by kernel_rfl) h)))))))
noncomputable def zqw1_q7 (nx35:Int→HP):XT:=(xthen (zqw1_5_M Q E nx35) (zqw1_q6 Q E nx35))
def zqw1_7 (nx35:Int→HP) (Q:QT) (E:ET) (x0:OA) (l0 c0:Nat) (x3:OA) (l3 c3:Nat) (x5:OA) (x6 x7:Int) (x19:OA) (l19 c19:Nat) (x20 x21:Int) (H:Heap):Prop :=
 ptr x5 fun q112 =>
 ldI .i64 (Addr.add q112 1) H fun n113 =>
 sel (n113 != x6)
 (zqw1_5 nx35 Q E x0 l0 c0 x3 l3 c3 x19 l19 c19 x20 x21 true H)
 (ptr x5 fun q114 =>
 ldI .i64 (Addr.add q114 2) H fun n115 =>
 zqw1_5 nx35 Q E x0 l0 c0 x3 l3 c3 x19 l19 c19 x20 x21 (n115 != x7) H)
def zqw1_7_M (nx35:Int→HP) (τ:Tau) (H:Heap):Prop:=mSl (τ 0) fun x0 l0 c0=>mSl (τ 3) fun x3 l3 c3=>mP (τ 5) fun x5=>mI .i64 (τ 6) fun x6=>mI .i64 (τ 7) fun x7=>mSl (τ 19) fun x19 l19 c19=>mI .i64 (τ 20) fun x20=>mI .i64 (τ 21) fun x21=>zqw1_7 nx35 Q E x0 l0 c0 x3 l3 c3 x5 x6 x7 x19 l19 c19 x20 x21 H
theorem zqw1_8ok (nx35:Int→HP):Ok Pr (zqw1_7_M Q E nx35) (sA zqw1_p18) (zqw1_q7 Q E nx35) E:=fun τ H h =>
  wSl 0 h (fun x0 l0 c0 h=>wSl 3 h (fun x3 l3 c3 h=>wP 5 h (fun x5 h=>wI 6 h (fun x6 h=>wI 7 h (fun x7 h=>wSl 19 h (fun x19 l19 c19 h=>wI 20 h (fun x20 h=>wI 21 h (fun x21 h=>(conv (by kernel_rfl) h)))))))))
theorem zqw1_9ok (nx35:Int→HP):Ok Pr (zqw1_7_M Q E nx35) zqw1_p18 (zqw1_q6 Q E nx35) E:=fun τ H h =>
  (conv (by kernel_rfl) (vc_seq (K:=(zqw1_5_M Q E nx35)) (zqw1_8ok Q E nx35 τ H h) (zqw1_6ok Q E nx35)))
noncomputable def zqw1_q8 (nx35:Int→HP):XT:=(xthen (zqw1_7_M Q E nx35) (zqw1_q6 Q E nx35))
noncomputable def zqw1_p21:Code:=sA (sB zqw1_p16)
def zqw1_10 (nx35:Int→HP) (Q:QT) (E:ET)  (H:Heap):Prop :=
 Q (.bool false) H
def zqw1_10_M (nx35:Int→HP) (τ:Tau) (H:Heap):Prop:=zqw1_10 nx35 Q E  H
theorem zqw1_11ok (nx35:Int→HP):Ok Pr (zqw1_10_M Q E nx35) (sB (sI (sB zqw1_p21))) (xblock 2 (zqw1_q8 Q E nx35)) E:=fun τ H h =>
  (conv (by kernel_rfl) h)
noncomputable def zqw1_q10 (nx35:Int→HP):XT:=(xthen (zqw1_10_M Q E nx35) (xblock 2 (zqw1_q8 Q E nx35)))
noncomputable def zqw1_p27:Code:=sB (sI (sA (sI (sB zqw1_p21))))
noncomputable def zqw1_q12 (nx35:Int→HP):XT:=(xthen (fun τ H=>vc Pr (sB zqw1_p27) τ (xblock 6 (zqw1_q10 Q E nx35)) E H) (xblock 6 (zqw1_q10 Q E nx35)))
noncomputable def zqw1_p29:Code:=sB (sA zqw1_p27)
def zqw1_12 (nx35:Int→HP) (Q:QT) (E:ET) (x0:OA) (l0 c0:Nat) (x3:OA) (l3 c3:Nat) (x4:Int) (x5:OA) (x6 x7:Int) (x19:OA) (l19 c19:Nat) (x20 x21:Int) (H:Heap):Prop :=
 (0≤x4∧x4 < (l3:Int))∧ptr x3 fun q150 =>
 ldI .i64 (Addr.add q150 (x4.toNat * 1)) H fun n151 =>
 (0≤x6∧x6 < (l3:Int))∧ptr x3 fun q152 =>
 ldI .i64 (Addr.add q152 (x6.toNat * 1)) H fun n153 =>
 (0≤x4∧x4 < (l3:Int))∧ptr x3 fun q154 =>
 wr (Addr.add q154 (x4.toNat * 1)) [(.int .i64 (IntKind.wrap .i64 (n151+n153)))] H fun H155 =>
 zqw1_7 nx35 Q E x0 l0 c0 x3 l3 c3 x5 x6 x7 x19 l19 c19 x20 x21 H155
def zqw1_12_M (nx35:Int→HP) (τ:Tau) (H:Heap):Prop:=mSl (τ 0) fun x0 l0 c0=>mSl (τ 3) fun x3 l3 c3=>mI .i64 (τ 4) fun x4=>mP (τ 5) fun x5=>mI .i64 (τ 6) fun x6=>mI .i64 (τ 7) fun x7=>mSl (τ 19) fun x19 l19 c19=>mI .i64 (τ 20) fun x20=>mI .i64 (τ 21) fun x21=>zqw1_12 nx35 Q E x0 l0 c0 x3 l3 c3 x4 x5 x6 x7 x19 l19 c19 x20 x21 H
theorem zqw1_13ok (nx35:Int→HP):Ok Pr (zqw1_12_M Q E nx35) (sB zqw1_p29) (zqw1_q12 Q E nx35) E:=fun τ H h =>
  wSl 0 h (fun x0 l0 c0 h=>wSl 3 h (fun x3 l3 c3 h=>wI 4 h (fun x4 h=>wP 5 h (fun x5 h=>wI 6 h (fun x6 h=>wI 7 h (fun x7 h=>wSl 19 h (fun x19 l19 c19 h=>wI 20 h (fun x20 h=>wI 21 h (fun x21 h=>(conv (by kernel_rfl) h))))))))))
noncomputable def zqw1_q13 (nx35:Int→HP):XT:=(xthen (zqw1_12_M Q E nx35) (zqw1_q12 Q E nx35))
def zqw1_14 (nx35:Int→HP) (Q:QT) (E:ET) (x0:OA) (l0 c0:Nat) (x3:OA) (l3 c3:Nat) (x4:Int) (x5:OA) (x6 x7:Int) (x19:OA) (l19 c19:Nat) (x20 x21:Int) (H:Heap):Prop :=
 sel (decide (x6 < 0))
 (Q (.bool false) H)
 (zqw1_12 nx35 Q E x0 l0 c0 x3 l3 c3 x4 x5 x6 x7 x19 l19 c19 x20 x21 H)
def zqw1_14_M (nx35:Int→HP) (τ:Tau) (H:Heap):Prop:=mSl (τ 0) fun x0 l0 c0=>mSl (τ 3) fun x3 l3 c3=>mI .i64 (τ 4) fun x4=>mP (τ 5) fun x5=>mI .i64 (τ 6) fun x6=>mI .i64 (τ 7) fun x7=>mSl (τ 19) fun x19 l19 c19=>mI .i64 (τ 20) fun x20=>mI .i64 (τ 21) fun x21=>zqw1_14 nx35 Q E x0 l0 c0 x3 l3 c3 x4 x5 x6 x7 x19 l19 c19 x20 x21 H
theorem zqw1_15ok (nx35:Int→HP):Ok Pr (zqw1_14_M Q E nx35) (sA zqw1_p29) (zqw1_q13 Q E nx35) E:=fun τ H h =>
  wSl 0 h (fun x0 l0 c0 h=>wSl 3 h (fun x3 l3 c3 h=>wI 4 h (fun x4 h=>wP 5 h (fun x5 h=>wI 6 h (fun x6 h=>wI 7 h (fun x7 h=>wSl 19 h (fun x19 l19 c19 h=>wI 20 h (fun x20 h=>wI 21 h (fun x21 h=>(conv (by kernel_rfl) h))))))))))
theorem zqw1_16ok (nx35:Int→HP):Ok Pr (zqw1_14_M Q E nx35) zqw1_p29 (zqw1_q12 Q E nx35) E:=fun τ H h =>
  (conv (by kernel_rfl) (vc_seq (K:=(zqw1_12_M Q E nx35)) (zqw1_15ok Q E nx35 τ H h) (zqw1_13ok Q E nx35)))
noncomputable def zqw1_q14 (nx35:Int→HP):XT:=(xthen (zqw1_14_M Q E nx35) (zqw1_q12 Q E nx35))
def zqw1_17 (nx35:Int→HP) (Q:QT) (E:ET) (x0:OA) (l0 c0:Nat) (x3:OA) (l3 c3:Nat) (x4:Int) (x5:OA) (x7:Int) (x19:OA) (l19 c19:Nat) (x20 x21:Int) (H:Heap):Prop :=
 (0≤x4∧x4 < (l3:Int))∧ptr x3 fun q156 =>
 ldI .i64 (Addr.add q156 (x4.toNat * 1)) H fun n157 =>
 zqw1_14 nx35 Q E x0 l0 c0 x3 l3 c3 x4 x5 (IntKind.wrap .i64 (x4 - n157)) x7 x19 l19 c19 x20 x21 H
def zqw1_17_M (nx35:Int→HP) (τ:Tau) (H:Heap):Prop:=mSl (τ 0) fun x0 l0 c0=>mSl (τ 3) fun x3 l3 c3=>mI .i64 (τ 4) fun x4=>mP (τ 5) fun x5=>mI .i64 (τ 7) fun x7=>mSl (τ 19) fun x19 l19 c19=>mI .i64 (τ 20) fun x20=>mI .i64 (τ 21) fun x21=>zqw1_17 nx35 Q E x0 l0 c0 x3 l3 c3 x4 x5 x7 x19 l19 c19 x20 x21 H
theorem zqw1_18ok (nx35:Int→HP):Ok Pr (zqw1_17_M Q E nx35) (sA (sA zqw1_p27)) (zqw1_q14 Q E nx35) E:=fun τ H h =>
  wSl 0 h (fun x0 l0 c0 h=>wSl 3 h (fun x3 l3 c3 h=>wI 4 h (fun x4 h=>wP 5 h (fun x5 h=>wI 7 h (fun x7 h=>wSl 19 h (fun x19 l19 c19 h=>wI 20 h (fun x20 h=>wI 21 h (fun x21 h=>(conv (by kernel_rfl) h)))))))))
theorem zqw1_19ok (nx35:Int→HP):Ok Pr (zqw1_17_M Q E nx35) (sA zqw1_p27) (zqw1_q12 Q E nx35) E:=fun τ H h =>
  (conv (by kernel_rfl) (vc_seq (K:=(zqw1_14_M Q E nx35)) (zqw1_18ok Q E nx35 τ H h) (zqw1_16ok Q E nx35)))
theorem zqw1_20ok (nx35:Int→HP):Ok Pr (zqw1_17_M Q E nx35) zqw1_p27 (xblock 6 (zqw1_q10 Q E nx35)) E:=fun τ H h =>
  (conv (by kernel_rfl) (zqw1_19ok Q E nx35 τ H h))
noncomputable def zqw1_q16 (nx35:Int→HP):XT:=(xblock 5 (xthen (zqw1_17_M Q E nx35) (xblock 6 (zqw1_q10 Q E nx35))))
noncomputable def zqw1_p34:Code:=sI (sA (sI (sA (sI (sB zqw1_p21)))))
noncomputable def zqw1_p36:Code:=sB (sB zqw1_p34)
def zqw1_21 (nx35:Int→HP) (Q:QT) (E:ET) (x0:OA) (l0 c0:Nat) (x3:OA) (l3 c3:Nat) (x4:Int) (x5:OA) (x7:Int) (x19:OA) (l19 c19:Nat) (x20 x21:Int) (H:Heap):Prop :=
 (0≤x4∧x4 < (l3:Int))∧ptr x3 fun q158 =>
 ldI .i64 (Addr.add q158 (x4.toNat * 1)) H fun n159 =>
 (0≤x7∧x7 < (l3:Int))∧ptr x3 fun q160 =>
 ldI .i64 (Addr.add q160 (x7.toNat * 1)) H fun n161 =>
 (0≤x4∧x4 < (l3:Int))∧ptr x3 fun q162 =>
 wr (Addr.add q162 (x4.toNat * 1)) [(.int .i64 (IntKind.wrap .i64 (n159+n161)))] H fun H163 =>
 zqw1_17 nx35 Q E x0 l0 c0 x3 l3 c3 x4 x5 x7 x19 l19 c19 x20 x21 H163
def zqw1_21_M (nx35:Int→HP) (τ:Tau) (H:Heap):Prop:=mSl (τ 0) fun x0 l0 c0=>mSl (τ 3) fun x3 l3 c3=>mI .i64 (τ 4) fun x4=>mP (τ 5) fun x5=>mI .i64 (τ 7) fun x7=>mSl (τ 19) fun x19 l19 c19=>mI .i64 (τ 20) fun x20=>mI .i64 (τ 21) fun x21=>zqw1_21 nx35 Q E x0 l0 c0 x3 l3 c3 x4 x5 x7 x19 l19 c19 x20 x21 H
theorem zqw1_22ok (nx35:Int→HP):Ok Pr (zqw1_21_M Q E nx35) (sB zqw1_p36) (zqw1_q16 Q E nx35) E:=fun τ H h =>
  wSl 0 h (fun x0 l0 c0 h=>wSl 3 h (fun x3 l3 c3 h=>wI 4 h (fun x4 h=>wP 5 h (fun x5 h=>wI 7 h (fun x7 h=>wSl 19 h (fun x19 l19 c19 h=>wI 20 h (fun x20 h=>wI 21 h (fun x21 h=>(conv (by kernel_rfl) h)))))))))
noncomputable def zqw1_q17 (nx35:Int→HP):XT:=(xthen (zqw1_21_M Q E nx35) (zqw1_q16 Q E nx35))
def zqw1_23 (nx35:Int→HP) (Q:QT) (E:ET) (x0:OA) (l0 c0:Nat) (x3:OA) (l3 c3:Nat) (x4:Int) (x5:OA) (x7:Int) (x19:OA) (l19 c19:Nat) (x20 x21:Int) (H:Heap):Prop :=
 sel (decide (x7 < 0))
 (Q (.bool false) H)
 (zqw1_21 nx35 Q E x0 l0 c0 x3 l3 c3 x4 x5 x7 x19 l19 c19 x20 x21 H)
def zqw1_23_M (nx35:Int→HP) (τ:Tau) (H:Heap):Prop:=mSl (τ 0) fun x0 l0 c0=>mSl (τ 3) fun x3 l3 c3=>mI .i64 (τ 4) fun x4=>mP (τ 5) fun x5=>mI .i64 (τ 7) fun x7=>mSl (τ 19) fun x19 l19 c19=>mI .i64 (τ 20) fun x20=>mI .i64 (τ 21) fun x21=>zqw1_23 nx35 Q E x0 l0 c0 x3 l3 c3 x4 x5 x7 x19 l19 c19 x20 x21 H
theorem zqw1_24ok (nx35:Int→HP):Ok Pr (zqw1_23_M Q E nx35) (sA zqw1_p36) (zqw1_q17 Q E nx35) E:=fun τ H h =>
  wSl 0 h (fun x0 l0 c0 h=>wSl 3 h (fun x3 l3 c3 h=>wI 4 h (fun x4 h=>wP 5 h (fun x5 h=>wI 7 h (fun x7 h=>wSl 19 h (fun x19 l19 c19 h=>wI 20 h (fun x20 h=>wI 21 h (fun x21 h=>(conv (by kernel_rfl) h)))))))))
theorem zqw1_25ok (nx35:Int→HP):Ok Pr (zqw1_23_M Q E nx35) zqw1_p36 (zqw1_q16 Q E nx35) E:=fun τ H h =>
  (conv (by kernel_rfl) (vc_seq (K:=(zqw1_21_M Q E nx35)) (zqw1_24ok Q E nx35 τ H h) (zqw1_22ok Q E nx35)))
noncomputable def zqw1_q18 (nx35:Int→HP):XT:=(xthen (zqw1_23_M Q E nx35) (zqw1_q16 Q E nx35))
def zqw1_26 (nx35:Int→HP) (Q:QT) (E:ET) (x0:OA) (l0 c0:Nat) (x3:OA) (l3 c3:Nat) (x4:Int) (x5 x19:OA) (l19 c19:Nat) (x20 x21:Int) (H:Heap):Prop :=
 zqw1_23 nx35 Q E x0 l0 c0 x3 l3 c3 x4 x5 (IntKind.wrap .i64 (x4 - 1)) x19 l19 c19 x20 x21 H
def zqw1_26_M (nx35:Int→HP) (τ:Tau) (H:Heap):Prop:=mSl (τ 0) fun x0 l0 c0=>mSl (τ 3) fun x3 l3 c3=>mI .i64 (τ 4) fun x4=>mP (τ 5) fun x5=>mSl (τ 19) fun x19 l19 c19=>mI .i64 (τ 20) fun x20=>mI .i64 (τ 21) fun x21=>zqw1_26 nx35 Q E x0 l0 c0 x3 l3 c3 x4 x5 x19 l19 c19 x20 x21 H
theorem zqw1_27ok (nx35:Int→HP):Ok Pr (zqw1_26_M Q E nx35) (sA (sB zqw1_p34)) (zqw1_q18 Q E nx35) E:=fun τ H h =>
  wSl 0 h (fun x0 l0 c0 h=>wSl 3 h (fun x3 l3 c3 h=>wI 4 h (fun x4 h=>wP 5 h (fun x5 h=>wSl 19 h (fun x19 l19 c19 h=>wI 20 h (fun x20 h=>wI 21 h (fun x21 h=>(conv (by kernel_rfl) h))))))))
theorem zqw1_28ok (nx35:Int→HP):Ok Pr (zqw1_26_M Q E nx35) (sB zqw1_p34) (zqw1_q16 Q E nx35) E:=fun τ H h =>
  (conv (by kernel_rfl) (vc_seq (K:=(zqw1_23_M Q E nx35)) (zqw1_27ok Q E nx35 τ H h) (zqw1_25ok Q E nx35)))
noncomputable def zqw1_q19 (nx35:Int→HP):XT:=(xthen (zqw1_26_M Q E nx35) (zqw1_q16 Q E nx35))
noncomputable def zqw1_q21 (nx35:Int→HP):XT:=(xthen (fun τ H=>vc Pr (sB (sI (sA zqw1_p34))) τ (xblock 4 (zqw1_q19 Q E nx35)) E H) (xblock 4 (zqw1_q19 Q E nx35)))
noncomputable def zqw1_p43:Code:=sI (sA (sI (sA zqw1_p34)))
noncomputable def zqw1_q23 (nx35:Int→HP):XT:=(xthen (fun τ H=>vc Pr (sB zqw1_p43) τ (xblock 3 (zqw1_q21 Q E nx35)) E H) (xblock 3 (zqw1_q21 Q E nx35)))
noncomputable def zqw1_p45:Code:=sB (sA zqw1_p43)
def zqw1_29 (nx35:Int→HP) (Q:QT) (E:ET) (x0:OA) (l0 c0:Nat) (x3:OA) (l3 c3:Nat) (x4:Int) (x5:OA) (x7:Int) (x19:OA) (l19 c19:Nat) (x20 x21 x40:Int) (H:Heap):Prop :=
 sel (x40 == 1)
 (zqw1_17 nx35 Q E x0 l0 c0 x3 l3 c3 x4 x5 x7 x19 l19 c19 x20 x21 H)
 (zqw1_10 nx35 Q E  H)
def zqw1_29_M (nx35:Int→HP) (τ:Tau) (H:Heap):Prop:=mSl (τ 0) fun x0 l0 c0=>mSl (τ 3) fun x3 l3 c3=>mI .i64 (τ 4) fun x4=>mP (τ 5) fun x5=>mI .i64 (τ 7) fun x7=>mSl (τ 19) fun x19 l19 c19=>mI .i64 (τ 20) fun x20=>mI .i64 (τ 21) fun x21=>mI .i64 (τ 40) fun x40=>zqw1_29 nx35 Q E x0 l0 c0 x3 l3 c3 x4 x5 x7 x19 l19 c19 x20 x21 x40 H
theorem zqw1_30ok (nx35:Int→HP):Ok Pr (zqw1_29_M Q E nx35) (sB zqw1_p45) (zqw1_q23 Q E nx35) E:=fun τ H h =>
  wSl 0 h (fun x0 l0 c0 h=>wSl 3 h (fun x3 l3 c3 h=>wI 4 h (fun x4 h=>wP 5 h (fun x5 h=>wI 7 h (fun x7 h=>wSl 19 h (fun x19 l19 c19 h=>wI 20 h (fun x20 h=>wI 21 h (fun x21 h=>wI 40 h (fun x40 h=>(conv (by kernel_rfl) h))))))))))
noncomputable def zqw1_q24 (nx35:Int→HP):XT:=(xthen (zqw1_29_M Q E nx35) (zqw1_q23 Q E nx35))
def zqw1_31 (nx35:Int→HP) (Q:QT) (E:ET) (x0:OA) (l0 c0:Nat) (x3:OA) (l3 c3:Nat) (x4:Int) (x5:OA) (x7:Int) (x19:OA) (l19 c19:Nat) (x20 x21 x40:Int) (H:Heap):Prop :=
 sel (x40 == 2)
 (zqw1_26 nx35 Q E x0 l0 c0 x3 l3 c3 x4 x5 x19 l19 c19 x20 x21 H)
 (zqw1_29 nx35 Q E x0 l0 c0 x3 l3 c3 x4 x5 x7 x19 l19 c19 x20 x21 x40 H)
def zqw1_31_M (nx35:Int→HP) (τ:Tau) (H:Heap):Prop:=mSl (τ 0) fun x0 l0 c0=>mSl (τ 3) fun x3 l3 c3=>mI .i64 (τ 4) fun x4=>mP (τ 5) fun x5=>mI .i64 (τ 7) fun x7=>mSl (τ 19) fun x19 l19 c19=>mI .i64 (τ 20) fun x20=>mI .i64 (τ 21) fun x21=>mI .i64 (τ 40) fun x40=>zqw1_31 nx35 Q E x0 l0 c0 x3 l3 c3 x4 x5 x7 x19 l19 c19 x20 x21 x40 H
theorem zqw1_32ok (nx35:Int→HP):Ok Pr (zqw1_31_M Q E nx35) (sA zqw1_p45) (zqw1_q24 Q E nx35) E:=fun τ H h =>
  wSl 0 h (fun x0 l0 c0 h=>wSl 3 h (fun x3 l3 c3 h=>wI 4 h (fun x4 h=>wP 5 h (fun x5 h=>wI 7 h (fun x7 h=>wSl 19 h (fun x19 l19 c19 h=>wI 20 h (fun x20 h=>wI 21 h (fun x21 h=>wI 40 h (fun x40 h=>(conv (by kernel_rfl) h))))))))))
theorem zqw1_33ok (nx35:Int→HP):Ok Pr (zqw1_31_M Q E nx35) zqw1_p45 (zqw1_q23 Q E nx35) E:=fun τ H h =>
  (conv (by kernel_rfl) (vc_seq (K:=(zqw1_29_M Q E nx35)) (zqw1_32ok Q E nx35 τ H h) (zqw1_30ok Q E nx35)))
noncomputable def zqw1_q25 (nx35:Int→HP):XT:=(xthen (zqw1_31_M Q E nx35) (zqw1_q23 Q E nx35))
def zqw1_34 (nx35:Int→HP) (Q:QT) (E:ET) (x0:OA) (l0 c0:Nat) (x3:OA) (l3 c3:Nat) (x4:Int) (x5:OA) (x6 x7:Int) (x19:OA) (l19 c19:Nat) (x20 x21 x40:Int) (H:Heap):Prop :=
 sel (x40 == 0)
 (zqw1_7 nx35 Q E x0 l0 c0 x3 l3 c3 x5 x6 x7 x19 l19 c19 x20 x21 H)
 (zqw1_31 nx35 Q E x0 l0 c0 x3 l3 c3 x4 x5 x7 x19 l19 c19 x20 x21 x40 H)
def zqw1_34_M (nx35:Int→HP) (τ:Tau) (H:Heap):Prop:=mSl (τ 0) fun x0 l0 c0=>mSl (τ 3) fun x3 l3 c3=>mI .i64 (τ 4) fun x4=>mP (τ 5) fun x5=>mI .i64 (τ 6) fun x6=>mI .i64 (τ 7) fun x7=>mSl (τ 19) fun x19 l19 c19=>mI .i64 (τ 20) fun x20=>mI .i64 (τ 21) fun x21=>mI .i64 (τ 40) fun x40=>zqw1_34 nx35 Q E x0 l0 c0 x3 l3 c3 x4 x5 x6 x7 x19 l19 c19 x20 x21 x40 H
theorem zqw1_35ok (nx35:Int→HP):Ok Pr (zqw1_34_M Q E nx35) (sA (sA zqw1_p43)) (zqw1_q25 Q E nx35) E:=fun τ H h =>
  wSl 0 h (fun x0 l0 c0 h=>wSl 3 h (fun x3 l3 c3 h=>wI 4 h (fun x4 h=>wP 5 h (fun x5 h=>wI 6 h (fun x6 h=>wI 7 h (fun x7 h=>wSl 19 h (fun x19 l19 c19 h=>wI 20 h (fun x20 h=>wI 21 h (fun x21 h=>wI 40 h (fun x40 h=>(conv (by kernel_rfl) h)))))))))))
theorem zqw1_36ok (nx35:Int→HP):Ok Pr (zqw1_34_M Q E nx35) (sA zqw1_p43) (zqw1_q23 Q E nx35) E:=fun τ H h =>
  (conv (by kernel_rfl) (vc_seq (K:=(zqw1_31_M Q E nx35)) (zqw1_35ok Q E nx35 τ H h) (zqw1_33ok Q E nx35)))
theorem zqw1_37ok (nx35:Int→HP):Ok Pr (zqw1_34_M Q E nx35) zqw1_p43 (xblock 3 (zqw1_q21 Q E nx35)) E:=fun τ H h =>
  (conv (by kernel_rfl) (zqw1_36ok Q E nx35 τ H h))
theorem zqw1_38ok (nx35:Int→HP):Ok Pr (zqw1_34_M Q E nx35) (sA (sI (sA zqw1_p34))) (zqw1_q21 Q E nx35) E:=fun τ H h =>
  (conv (by kernel_rfl) (zqw1_37ok Q E nx35 τ H h))
theorem zqw1_39ok (nx35:Int→HP):Ok Pr (zqw1_34_M Q E nx35) (sI (sA zqw1_p34)) (xblock 4 (zqw1_q19 Q E nx35)) E:=fun τ H h =>
  (conv (by kernel_rfl) (zqw1_38ok Q E nx35 τ H h))
theorem zqw1_40ok (nx35:Int→HP):Ok Pr (zqw1_34_M Q E nx35) (sA zqw1_p34) (zqw1_q19 Q E nx35) E:=fun τ H h =>
  (conv (by kernel_rfl) (zqw1_39ok Q E nx35 τ H h))
theorem zqw1_41ok (nx35:Int→HP):Ok Pr (zqw1_34_M Q E nx35) zqw1_p34 (zqw1_q16 Q E nx35) E:=fun τ H h =>
  (conv (by kernel_rfl) (vc_seq (K:=(zqw1_26_M Q E nx35)) (zqw1_40ok Q E nx35 τ H h) (zqw1_28ok Q E nx35)))
theorem zqw1_42ok (nx35:Int→HP):Ok Pr (zqw1_34_M Q E nx35) (sA (sI (sA (sI (sB zqw1_p21))))) (xthen (zqw1_17_M Q E nx35) (xblock 6 (zqw1_q10 Q E nx35))) E:=fun τ H h =>
  (conv (by kernel_rfl) (zqw1_41ok Q E nx35 τ H h))
theorem zqw1_43ok (nx35:Int→HP):Ok Pr (zqw1_34_M Q E nx35) (sI (sA (sI (sB zqw1_p21)))) (xblock 6 (zqw1_q10 Q E nx35)) E:=fun τ H h =>
  (conv (by kernel_rfl) (vc_seq (K:=(zqw1_17_M Q E nx35)) (zqw1_42ok Q E nx35 τ H h) (zqw1_20ok Q E nx35)))
theorem zqw1_44ok (nx35:Int→HP):Ok Pr (zqw1_34_M Q E nx35) (sA (sI (sB zqw1_p21))) (zqw1_q10 Q E nx35) E:=fun τ H h =>
  (conv (by kernel_rfl) (zqw1_43ok Q E nx35 τ H h))
theorem zqw1_45ok (nx35:Int→HP):Ok Pr (zqw1_34_M Q E nx35) (sI (sB zqw1_p21)) (xblock 2 (zqw1_q8 Q E nx35)) E:=fun τ H h =>
  (conv (by kernel_rfl) (vc_seq (K:=(zqw1_10_M Q E nx35)) (zqw1_44ok Q E nx35 τ H h) (zqw1_11ok Q E nx35)))
theorem zqw1_46ok (nx35:Int→HP):Ok Pr (zqw1_34_M Q E nx35) (sB zqw1_p21) (zqw1_q8 Q E nx35) E:=fun τ H h =>
  (conv (by kernel_rfl) (zqw1_45ok Q E nx35 τ H h))
noncomputable def zqw1_q26 (nx35:Int→HP):XT:=(xthen (zqw1_34_M Q E nx35) (zqw1_q8 Q E nx35))
def zqw1_47 (nx35:Int→HP) (Q:QT) (E:ET) (x0:OA) (l0 c0:Nat) (x3:OA) (l3 c3:Nat) (x4:Int) (x5:OA) (x6 x7:Int) (x19:OA) (l19 c19:Nat) (x20 x21:Int) (H:Heap):Prop :=
 ptr x5 fun q164 =>
 ldI .i64 q164 H fun n165 =>
 Does Pr 74 #[(.int .i64 n165)] H (fun v166 H167 =>
 ∃ n168:Int,v166=(.int .i64 n168)∧zqw1_34 nx35 Q E x0 l0 c0 x3 l3 c3 x4 x5 x6 x7 x19 l19 c19 x20 x21 n168 H167) E
def zqw1_47_M (nx35:Int→HP) (τ:Tau) (H:Heap):Prop:=mSl (τ 0) fun x0 l0 c0=>mSl (τ 3) fun x3 l3 c3=>mI .i64 (τ 4) fun x4=>mP (τ 5) fun x5=>mI .i64 (τ 6) fun x6=>mI .i64 (τ 7) fun x7=>mSl (τ 19) fun x19 l19 c19=>mI .i64 (τ 20) fun x20=>mI .i64 (τ 21) fun x21=>zqw1_47 nx35 Q E x0 l0 c0 x3 l3 c3 x4 x5 x6 x7 x19 l19 c19 x20 x21 H
theorem zqw1_48ok (nx35:Int→HP):Ok Pr (zqw1_47_M Q E nx35) (sA zqw1_p21) (zqw1_q26 Q E nx35) E:=fun τ H h =>
  wSl 0 h (fun x0 l0 c0 h=>wSl 3 h (fun x3 l3 c3 h=>wI 4 h (fun x4 h=>wP 5 h (fun x5 h=>wI 6 h (fun x6 h=>wI 7 h (fun x7 h=>wSl 19 h (fun x19 l19 c19 h=>wI 20 h (fun x20 h=>wI 21 h (fun x21 h=>(conv (by kernel_rfl) h))))))))))
theorem zqw1_49ok (nx35:Int→HP):Ok Pr (zqw1_47_M Q E nx35) zqw1_p21 (zqw1_q8 Q E nx35) E:=fun τ H h =>
  (conv (by kernel_rfl) (vc_seq (K:=(zqw1_34_M Q E nx35)) (zqw1_48ok Q E nx35 τ H h) (zqw1_46ok Q E nx35)))
theorem zqw1_50ok (nx35:Int→HP):Ok Pr (zqw1_47_M Q E nx35) (sB zqw1_p16) (zqw1_q6 Q E nx35) E:=fun τ H h =>
  (conv (by kernel_rfl) (vc_seq (K:=(zqw1_7_M Q E nx35)) (zqw1_49ok Q E nx35 τ H h) (zqw1_9ok Q E nx35)))
noncomputable def zqw1_q27 (nx35:Int→HP):XT:=(xthen (zqw1_47_M Q E nx35) (zqw1_q6 Q E nx35))
def zqw1_51 (nx35:Int→HP) (Q:QT) (E:ET) (x0:OA) (l0 c0:Nat) (x3:OA) (l3 c3:Nat) (x4:Int) (x5:OA) (x6 x7:Int) (x19:OA) (l19 c19:Nat) (x20 x21:Int) (H:Heap):Prop :=
 (0≤x4∧x4 < (l3:Int))∧ptr x3 fun q169 =>
 wr (Addr.add q169 (x4.toNat * 1)) [(.int .i64 1)] H fun H170 =>
 zqw1_47 nx35 Q E x0 l0 c0 x3 l3 c3 x4 x5 x6 x7 x19 l19 c19 x20 x21 H170
def zqw1_51_M (nx35:Int→HP) (τ:Tau) (H:Heap):Prop:=mSl (τ 0) fun x0 l0 c0=>mSl (τ 3) fun x3 l3 c3=>mI .i64 (τ 4) fun x4=>mP (τ 5) fun x5=>mI .i64 (τ 6) fun x6=>mI .i64 (τ 7) fun x7=>mSl (τ 19) fun x19 l19 c19=>mI .i64 (τ 20) fun x20=>mI .i64 (τ 21) fun x21=>zqw1_51 nx35 Q E x0 l0 c0 x3 l3 c3 x4 x5 x6 x7 x19 l19 c19 x20 x21 H
theorem zqw1_52ok (nx35:Int→HP):Ok Pr (zqw1_51_M Q E nx35) (sA zqw1_p16) (zqw1_q27 Q E nx35) E:=fun τ H h =>
  wSl 0 h (fun x0 l0 c0 h=>wSl 3 h (fun x3 l3 c3 h=>wI 4 h (fun x4 h=>wP 5 h (fun x5 h=>wI 6 h (fun x6 h=>wI 7 h (fun x7 h=>wSl 19 h (fun x19 l19 c19 h=>wI 20 h (fun x20 h=>wI 21 h (fun x21 h=>(conv (by kernel_rfl) h))))))))))
theorem zqw1_53ok (nx35:Int→HP):Ok Pr (zqw1_51_M Q E nx35) zqw1_p16 (zqw1_q6 Q E nx35) E:=fun τ H h =>
  (conv (by kernel_rfl) (vc_seq (K:=(zqw1_47_M Q E nx35)) (zqw1_52ok Q E nx35 τ H h) (zqw1_50ok Q E nx35)))
noncomputable def zqw1_q28 (nx35:Int→HP):XT:=(xthen (zqw1_51_M Q E nx35) (zqw1_q6 Q E nx35))
def zqw1_54 (nx35:Int→HP) (Q:QT) (E:ET) (x0:OA) (l0 c0:Nat) (x3:OA) (l3 c3:Nat) (x4:Int) (x5 x19:OA) (l19 c19:Nat) (x20 x21:Int) (H:Heap):Prop :=
 zqw1_51 nx35 Q E x0 l0 c0 x3 l3 c3 x4 x5 0 0 x19 l19 c19 x20 x21 H
def zqw1_54_M (nx35:Int→HP) (τ:Tau) (H:Heap):Prop:=mSl (τ 0) fun x0 l0 c0=>mSl (τ 3) fun x3 l3 c3=>mI .i64 (τ 4) fun x4=>mP (τ 5) fun x5=>mSl (τ 19) fun x19 l19 c19=>mI .i64 (τ 20) fun x20=>mI .i64 (τ 21) fun x21=>zqw1_54 nx35 Q E x0 l0 c0 x3 l3 c3 x4 x5 x19 l19 c19 x20 x21 H
theorem zqw1_55ok (nx35:Int→HP):Ok Pr (zqw1_54_M Q E nx35) (sA (sB (sB zqw1_p13))) (zqw1_q28 Q E nx35) E:=fun τ H h =>
  wSl 0 h (fun x0 l0 c0 h=>wSl 3 h (fun x3 l3 c3 h=>wI 4 h (fun x4 h=>wP 5 h (fun x5 h=>wSl 19 h (fun x19 l19 c19 h=>wI 20 h (fun x20 h=>wI 21 h (fun x21 h=>(conv (by kernel_rfl) h))))))))
theorem zqw1_56ok (nx35:Int→HP):Ok Pr (zqw1_54_M Q E nx35) (sB (sB zqw1_p13)) (zqw1_q6 Q E nx35) E:=fun τ H h =>
  (conv (by kernel_rfl) (vc_seq (K:=(zqw1_51_M Q E nx35)) (zqw1_55ok Q E nx35 τ H h) (zqw1_53ok Q E nx35)))
noncomputable def zqw1_q29 (nx35:Int→HP):XT:=(xthen (zqw1_54_M Q E nx35) (zqw1_q6 Q E nx35))
noncomputable def zqw1_p52:Code:=sA (sB zqw1_p13)
def zqw1_57 (nx35:Int→HP) (Q:QT) (E:ET) (x0:OA) (l0 c0:Nat) (x3:OA) (l3 c3:Nat) (x4:Int) (x5 x19:OA) (l19 c19:Nat) (x20 x21:Int) (x34:Bool) (H:Heap):Prop :=
 sel x34
 (Q (.bool false) H)
 (zqw1_54 nx35 Q E x0 l0 c0 x3 l3 c3 x4 x5 x19 l19 c19 x20 x21 H)
def zqw1_57_M (nx35:Int→HP) (τ:Tau) (H:Heap):Prop:=mSl (τ 0) fun x0 l0 c0=>mSl (τ 3) fun x3 l3 c3=>mI .i64 (τ 4) fun x4=>mP (τ 5) fun x5=>mSl (τ 19) fun x19 l19 c19=>mI .i64 (τ 20) fun x20=>mI .i64 (τ 21) fun x21=>mB (τ 34) fun x34=>zqw1_57 nx35 Q E x0 l0 c0 x3 l3 c3 x4 x5 x19 l19 c19 x20 x21 x34 H
theorem zqw1_58ok (nx35:Int→HP):Ok Pr (zqw1_57_M Q E nx35) (sB zqw1_p52) (zqw1_q29 Q E nx35) E:=fun τ H h =>
  wSl 0 h (fun x0 l0 c0 h=>wSl 3 h (fun x3 l3 c3 h=>wI 4 h (fun x4 h=>wP 5 h (fun x5 h=>wSl 19 h (fun x19 l19 c19 h=>wI 20 h (fun x20 h=>wI 21 h (fun x21 h=>wB 34 h (fun x34 h=>(conv (by kernel_rfl) h)))))))))
noncomputable def zqw1_q30 (nx35:Int→HP):XT:=(xthen (zqw1_57_M Q E nx35) (zqw1_q29 Q E nx35))
def zqw1_59 (nx35:Int→HP) (Q:QT) (E:ET) (x0:OA) (l0 c0:Nat) (x3:OA) (l3 c3:Nat) (x4:Int) (x5 x19:OA) (l19 c19:Nat) (x20 x21:Int) (H:Heap):Prop :=
 ptr x5 fun q176 =>
 ldI .i64 q176 H fun n177 =>
 sel (n177 != 2)
 (ptr x5 fun q178 =>
 ∃ n179 n180 n181 n182:Int,Heap.rd H (Addr.add q178 3) 0 [(.int .u64 n179),(.int .u64 n180),(.int .u64 n181),(.int .u64 n182)]∧zqw1_57 nx35 Q E x0 l0 c0 x3 l3 c3 x4 x5 x19 l19 c19 x20 x21 (!(eqVs [(.int .u64 n179),(.int .u64 n180),(.int .u64 n181),(.int .u64 n182)] [(.int .u64 0),(.int .u64 0),(.int .u64 0),(.int .u64 0)])) H)
 (zqw1_57 nx35 Q E x0 l0 c0 x3 l3 c3 x4 x5 x19 l19 c19 x20 x21 false H)
def zqw1_59_M (nx35:Int→HP) (τ:Tau) (H:Heap):Prop:=mSl (τ 0) fun x0 l0 c0=>mSl (τ 3) fun x3 l3 c3=>mI .i64 (τ 4) fun x4=>mP (τ 5) fun x5=>mSl (τ 19) fun x19 l19 c19=>mI .i64 (τ 20) fun x20=>mI .i64 (τ 21) fun x21=>zqw1_59 nx35 Q E x0 l0 c0 x3 l3 c3 x4 x5 x19 l19 c19 x20 x21 H
theorem zqw1_60ok (nx35:Int→HP):Ok Pr (zqw1_59_M Q E nx35) (sA zqw1_p52) (zqw1_q30 Q E nx35) E:=fun τ H h =>
  wSl 0 h (fun x0 l0 c0 h=>wSl 3 h (fun x3 l3 c3 h=>wI 4 h (fun x4 h=>wP 5 h (fun x5 h=>wSl 19 h (fun x19 l19 c19 h=>wI 20 h (fun x20 h=>wI 21 h (fun x21 h=>(conv (by kernel_rfl) h))))))))
theorem zqw1_61ok (nx35:Int→HP):Ok Pr (zqw1_59_M Q E nx35) zqw1_p52 (zqw1_q29 Q E nx35) E:=fun τ H h =>
  (conv (by kernel_rfl) (vc_seq (K:=(zqw1_57_M Q E nx35)) (zqw1_60ok Q E nx35 τ H h) (zqw1_58ok Q E nx35)))
theorem zqw1_62ok (nx35:Int→HP):Ok Pr (zqw1_59_M Q E nx35) (sB zqw1_p13) (zqw1_q6 Q E nx35) E:=fun τ H h =>
  (conv (by kernel_rfl) (vc_seq (K:=(zqw1_54_M Q E nx35)) (zqw1_61ok Q E nx35 τ H h) (zqw1_56ok Q E nx35)))
noncomputable def zqw1_q31 (nx35:Int→HP):XT:=(xthen (zqw1_59_M Q E nx35) (zqw1_q6 Q E nx35))
def zqw1_63 (nx35:Int→HP) (Q:QT) (E:ET) (x0:OA) (l0 c0:Nat) (x3:OA) (l3 c3:Nat) (x19:OA) (l19 c19:Nat) (x20 x21:Int) (H:Heap):Prop :=
 (0≤x21∧x21 < (l19:Int))∧ptr x19 fun q183 =>
 ∃ n184 n185 n186 n187 n188 n189 n190:Int,Heap.rd H (Addr.add q183 (x21.toNat * 7)) 0 [(.int .i64 n184),(.int .i64 n185),(.int .i64 n186),(.int .u64 n187),(.int .u64 n188),(.int .u64 n189),(.int .u64 n190)]∧nw (.cells #[(.int .i64 0),(.int .i64 0),(.int .i64 0),(.int .u64 0),(.int .u64 0),(.int .u64 0),(.int .u64 0)] 48 (0,0)) H fun i191 H192 =>
 wr ⟨i191,0,none⟩ [(.int .i64 n184),(.int .i64 n185),(.int .i64 n186),(.int .u64 n187),(.int .u64 n188),(.int .u64 n189),(.int .u64 n190)] H192 fun H193 =>
 zqw1_59 nx35 Q E x0 l0 c0 x3 l3 c3 x21 (some ⟨i191,0,none⟩) x19 l19 c19 x20 x21 H193
def zqw1_63_M (nx35:Int→HP) (τ:Tau) (H:Heap):Prop:=mSl (τ 0) fun x0 l0 c0=>mSl (τ 3) fun x3 l3 c3=>mSl (τ 19) fun x19 l19 c19=>mI .i64 (τ 20) fun x20=>mI .i64 (τ 21) fun x21=>zqw1_63 nx35 Q E x0 l0 c0 x3 l3 c3 x19 l19 c19 x20 x21 H
theorem zqw1_64ok (nx35:Int→HP):Ok Pr (zqw1_63_M Q E nx35) (sA zqw1_p13) (zqw1_q31 Q E nx35) E:=fun τ H h =>
  wSl 0 h (fun x0 l0 c0 h=>wSl 3 h (fun x3 l3 c3 h=>wSl 19 h (fun x19 l19 c19 h=>wI 20 h (fun x20 h=>wI 21 h (fun x21 h=>(conv (by kernel_rfl) h))))))
theorem zqw1_65ok (nx35:Int→HP):Ok Pr (zqw1_63_M Q E nx35) zqw1_p13 (zqw1_q6 Q E nx35) E:=fun τ H h =>
  (conv (by kernel_rfl) (vc_seq (K:=(zqw1_59_M Q E nx35)) (zqw1_64ok Q E nx35 τ H h) (zqw1_62ok Q E nx35)))
theorem zqw1_66ok (nx35:Int→HP):Ok Pr (zqw1_63_M Q E nx35) (sA (sB zqw1_p9)) (xthen (zqw1_3_M Q E nx35) (zqw1_q4 Q E nx35)) E:=fun τ H h =>
  (conv (by kernel_rfl) (zqw1_65ok Q E nx35 τ H h))
theorem zqw1_67ok (nx35:Int→HP):Ok Pr (zqw1_63_M Q E nx35) (sB zqw1_p9) (zqw1_q4 Q E nx35) E:=fun τ H h =>
  (conv (by kernel_rfl) (vc_seq (K:=(zqw1_3_M Q E nx35)) (zqw1_66ok Q E nx35 τ H h) (zqw1_4ok Q E nx35)))
noncomputable def zqw1_q32 (nx35:Int→HP):XT:=(xthen (zqw1_63_M Q E nx35) (zqw1_q4 Q E nx35))
def zqw1_68 (nx35:Int→HP) (Q:QT) (E:ET) (x0:OA) (l0 c0:Nat) (x3:OA) (l3 c3:Nat) (x19:OA) (l19 c19:Nat) (x20 x21:Int) (x22:Bool) (H:Heap):Prop :=
 sel x22
 (zqw1_63 nx35 Q E x0 l0 c0 x3 l3 c3 x19 l19 c19 x20 x21 H)
 (zqw1_1 Q E x0 l0 c0 x3 l3 c3 H)
def zqw1_68_M (nx35:Int→HP) (τ:Tau) (H:Heap):Prop:=mSl (τ 0) fun x0 l0 c0=>mSl (τ 3) fun x3 l3 c3=>mSl (τ 19) fun x19 l19 c19=>mI .i64 (τ 20) fun x20=>mI .i64 (τ 21) fun x21=>mB (τ 22) fun x22=>zqw1_68 nx35 Q E x0 l0 c0 x3 l3 c3 x19 l19 c19 x20 x21 x22 H
theorem zqw1_69ok (nx35:Int→HP):Ok Pr (zqw1_68_M Q E nx35) (sA zqw1_p9) (zqw1_q32 Q E nx35) E:=fun τ H h =>
  wSl 0 h (fun x0 l0 c0 h=>wSl 3 h (fun x3 l3 c3 h=>wSl 19 h (fun x19 l19 c19 h=>wI 20 h (fun x20 h=>wI 21 h (fun x21 h=>wB 22 h (fun x22 h=>(conv (by kernel_rfl) h)))))))
theorem zqw1_70ok (nx35:Int→HP):Ok Pr (zqw1_68_M Q E nx35) zqw1_p9 (zqw1_q4 Q E nx35) E:=fun τ H h =>
  (conv (by kernel_rfl) (vc_seq (K:=(zqw1_63_M Q E nx35)) (zqw1_69ok Q E nx35 τ H h) (zqw1_67ok Q E nx35)))
noncomputable def zqw1_q33 (nx35:Int→HP):XT:=(xthen (zqw1_68_M Q E nx35) (zqw1_q4 Q E nx35))
def zqw1_71 (nx35:Int→HP) (Q:QT) (E:ET) (x0:OA) (l0 c0:Nat) (x3:OA) (l3 c3:Nat) (x19:OA) (l19 c19:Nat) (x20 x21:Int) (H:Heap):Prop :=
 zqw1_68 nx35 Q E x0 l0 c0 x3 l3 c3 x19 l19 c19 x20 x21 (decide (x21 < x20)) H
def zqw1_71_M (nx35:Int→HP) (τ:Tau) (H:Heap):Prop:=mSl (τ 0) fun x0 l0 c0=>mSl (τ 3) fun x3 l3 c3=>mSl (τ 19) fun x19 l19 c19=>mI .i64 (τ 20) fun x20=>mI .i64 (τ 21) fun x21=>zqw1_71 nx35 Q E x0 l0 c0 x3 l3 c3 x19 l19 c19 x20 x21 H
theorem zqw1_72ok (nx35:Int→HP):Ok Pr (zqw1_71_M Q E nx35) (sA (sI zqw1_p7)) (zqw1_q33 Q E nx35) E:=fun τ H h =>
  wSl 0 h (fun x0 l0 c0 h=>wSl 3 h (fun x3 l3 c3 h=>wSl 19 h (fun x19 l19 c19 h=>wI 20 h (fun x20 h=>wI 21 h (fun x21 h=>(conv (by kernel_rfl) h))))))
theorem zqw1_73ok (nx35:Int→HP):Ok Pr (zqw1_71_M Q E nx35) (sI zqw1_p7) (zqw1_q4 Q E nx35) E:=fun τ H h =>
  (conv (by kernel_rfl) (vc_seq (K:=(zqw1_68_M Q E nx35)) (zqw1_72ok Q E nx35 τ H h) (zqw1_70ok Q E nx35)))
def zqw1_74 (Q:QT) (E:ET) (x0:OA) (l0 c0:Nat) (x3:OA) (l3 c3:Nat) (x19:OA) (l19 c19:Nat) (x20 x21:Int) (H:Heap):Prop :=
 ∃ (I:Int→HP) (μ:Int→Heap→Nat),I x21 H∧∀ (x21:Int) (H:Heap),I x21 H →
 zqw1_71 (fun x21' H1=>I x21' H1∧μ x21' H1 < μ x21 H) Q E x0 l0 c0 x3 l3 c3 x19 l19 c19 x20 x21 H
def zqw1_74_M:Prop:=mSl (τ 0) fun x0 l0 c0=>mSl (τ 3) fun x3 l3 c3=>mSl (τ 19) fun x19 l19 c19=>mI .i64 (τ 20) fun x20=>mI .i64 (τ 21) fun x21=>zqw1_74 Q E x0 l0 c0 x3 l3 c3 x19 l19 c19 x20 x21 H
theorem zqw1_75ok :Ok Pr (zqw1_74_M Q E) zqw1_p7 (zqw1_q3 Q E) E:=fun τ H h =>
  wSl 0 h (fun x0 l0 c0 h=>wSl 3 h (fun x3 l3 c3 h=>wSl 19 h (fun x19 l19 c19 h=>wI 20 h (fun x20 h=>wI 21 h (fun x21 h=>match h with | ⟨I,μ,h0,hr⟩=>(conv (by kernel_rfl) (vc_loopG (c:=sI zqw1_p7) (τ:=(Tau.upd (Tau.upd (Tau.upd (Tau.upd (Tau.upd τ 0 (.slice x0 l0 c0)) 3 (.slice x3 l3 c3)) 19 (.slice x19 l19 c19)) 20 (.int .i64 x20)) 21 (.int .i64 x21))) [0,3,19,20] (fun τ H=>mI .i64 (τ 21) fun x21'=>I x21' H) (fun τ H=>μ (gI (τ 21)) H) (by kernel_rfl) h0 (fun τ1 H1 hf hI=>uF 0 (.slice x0 l0 c0) (hf 0 (by simp)) (uF 3 (.slice x3 l3 c3) (hf 3 (by simp)) (uF 19 (.slice x19 l19 c19) (hf 19 (by simp)) (uF 20 (.int .i64 x20) (hf 20 (by simp)) (uI 21 hI (fun x21r h=>lgx (zqw1_73ok Q E (fun x21' H2=>I x21' H2∧μ x21' H2 < μ x21r H1) (Tau.upd (Tau.upd (Tau.upd (Tau.upd (Tau.upd τ1 0 (.slice x0 l0 c0)) 3 (.slice x3 l3 c3)) 19 (.slice x19 l19 c19)) 20 (.int .i64 x20)) 21 (.int .i64 x21r)) H1 (conv (by kernel_rfl) (hr x21r H1 h))) (fun τ2 H2 hk=>kI 21 hk (fun x21' h=>conv (by kernel_rfl) h)))))))))))))))
theorem zqw1_76ok :Ok Pr (zqw1_74_M Q E) (sB (sA zqw1_p3)) (zqw1_q2 Q E) E:=fun τ H h =>
  (conv (by kernel_rfl) (zqw1_75ok Q E τ H h))
noncomputable def zqw1_q34 :XT:=(xthen (zqw1_74_M Q E) (zqw1_q2 Q E))
def zqw1_77 (Q:QT) (E:ET) (x0:OA) (l0 c0:Nat) (x3:OA) (l3 c3:Nat) (H:Heap):Prop :=
 zqw1_74 Q E x0 l0 c0 x3 l3 c3 x0 l0 c0 (l0:Int) 0 H
def zqw1_77_M:Prop:=mSl (τ 0) fun x0 l0 c0=>mSl (τ 3) fun x3 l3 c3=>zqw1_77 Q E x0 l0 c0 x3 l3 c3 H
theorem zqw1_78ok :Ok Pr (zqw1_77_M Q E) (sA (sA zqw1_p3)) (zqw1_q34 Q E) E:=fun τ H h =>
  wSl 0 h (fun x0 l0 c0 h=>wSl 3 h (fun x3 l3 c3 h=>(conv (by kernel_rfl) h)))
theorem zqw1_79ok :Ok Pr (zqw1_77_M Q E) (sA zqw1_p3) (zqw1_q2 Q E) E:=fun τ H h =>
  (conv (by kernel_rfl) (vc_seq (K:=(zqw1_74_M Q E)) (zqw1_78ok Q E τ H h) (zqw1_76ok Q E)))
theorem zqw1_80ok :Ok Pr (zqw1_77_M Q E) zqw1_p3 (zqw1_q1 Q E) E:=fun τ H h =>
  (conv (by kernel_rfl) (vc_seq (K:=(zqw1_1_M Q E)) (zqw1_79ok Q E τ H h) (zqw1_2ok Q E)))
def zqw1_81 (Q:QT) (E:ET) (x0:OA) (l0 c0:Nat) (H:Heap):Prop :=
 (0≤((l0:Int):Int)∧((l0:Int):Int)≤(l0:Int)∧((l0:Int):Int)≤281474976710656∧((8:Nat):Int) * (l0:Int)≤281474976710656)∧nw (.cells (rep ((l0:Int):Int).toNat [(.int .i64 0)]).toArray 3 (0,0)) H fun i194 H195 =>
 zqw1_77 Q E x0 l0 c0 (some ⟨i194,0,none⟩) (((l0:Int):Int).toNat) (((l0:Int):Int).toNat) H195
def zqw1_81_M:Prop:=mSl (τ 0) fun x0 l0 c0=>zqw1_81 Q E x0 l0 c0 H
theorem zqw1_82ok :Ok Pr (zqw1_81_M Q E) (sA (sB zqw1_p1)) (xthen (zqw1_77_M Q E) (zqw1_q1 Q E)) E:=fun τ H h =>
  wSl 0 h (fun x0 l0 c0 h=>(conv (by kernel_rfl) h))
theorem zqw1_83ok :Ok Pr (zqw1_81_M Q E) (sB zqw1_p1) (zqw1_q1 Q E) E:=fun τ H h =>
  (conv (by kernel_rfl) (vc_seq (K:=(zqw1_77_M Q E)) (zqw1_82ok Q E τ H h) (zqw1_80ok Q E)))
noncomputable def zqw1_q36 :XT:=(xthen (zqw1_81_M Q E) (zqw1_q1 Q E))
def zqw1_84 (Q:QT) (E:ET) (x0:OA) (l0 c0:Nat) (x15:Bool) (H:Heap):Prop :=
 sel x15
 (Q (.bool false) H)
 (zqw1_81 Q E x0 l0 c0 H)
def zqw1_84_M:Prop:=mSl (τ 0) fun x0 l0 c0=>mB (τ 15) fun x15=>zqw1_84 Q E x0 l0 c0 x15 H
theorem zqw1_85ok :Ok Pr (zqw1_84_M Q E) (sB (sA zqw1_p1)) (zqw1_q36 Q E) E:=fun τ H h =>
  wSl 0 h (fun x0 l0 c0 h=>wB 15 h (fun x15 h=>(conv (by kernel_rfl) h)))
def zqw1_86 (Q:QT) (E:ET) (x0:OA) (l0 c0:Nat) (H:Heap):Prop :=
 sel (((l0:Int):Int) == 0)
 (zqw1_84 Q E x0 l0 c0 true H)
 (zqw1_84 Q E x0 l0 c0 (decide (((l0:Int):Int) > 256)) H)
def zqw1_86_M:Prop:=mSl (τ 0) fun x0 l0 c0=>zqw1_86 Q E x0 l0 c0 H
theorem zqw1_87ok :Ok Pr (zqw1_86_M Q E) (sA (sA zqw1_p1)) (xthen (zqw1_84_M Q E) (zqw1_q36 Q E)) E:=fun τ H h =>
  wSl 0 h (fun x0 l0 c0 h=>(conv (by kernel_rfl) h))
theorem zqw1_88ok :Ok Pr (zqw1_86_M Q E) (sA zqw1_p1) (zqw1_q36 Q E) E:=fun τ H h =>
  (conv (by kernel_rfl) (vc_seq (K:=(zqw1_84_M Q E)) (zqw1_87ok Q E τ H h) (zqw1_85ok Q E)))
theorem zqw1_89ok :Ok Pr (zqw1_86_M Q E) zqw1_p1 (zqw1_q1 Q E) E:=fun τ H h =>
  (conv (by kernel_rfl) (vc_seq (K:=(zqw1_81_M Q E)) (zqw1_88ok Q E τ H h) (zqw1_83ok Q E)))
def zqw1 (Q:QT) (E:ET) (a0:OA) (a0l:Nat) (a0c:Nat) (H:Heap):Prop :=
 zqw1_86 Q E a0 a0l a0c H
theorem zqw1_fn (a0:OA) (a0l:Nat) (a0c:Nat) (Q:QT) (E:ET) (H:Heap) (h:zqw1 Q E a0 a0l a0c H)  :Does Pr 40 #[(.slice a0 a0l a0c)] H Q E :=
  Fn_of_vc (fn:=Try.f40) (c:=(bodyOf Try.f40)) (args:=[(.slice a0 a0l a0c)]) mixed (by kernel_rfl) (by kernel_rfl) (by kernel_rfl) (by kernel_rfl) (by kernel_rfl) ((conv (B:=vc Pr (bodyOf Try.f40) (argT [(.slice a0 a0l a0c)]) (zqw1_q1 Q E) E H) (by kernel_rfl) (vc_seq (K:=(zqw1_86_M Q E)) (conv (B:=vc Pr (sA (bodyOf Try.f40)) (argT [(.slice a0 a0l a0c)]) (xthen (zqw1_86_M Q E) (zqw1_q1 Q E)) E H) (by kernel_rfl) h) (zqw1_89ok Q E))))
noncomputable def zqx1_q1 (Q:QT) (E:ET) :XT:=(retQ Pr (Try.f60).results.toList Q)
noncomputable def zqx1_p1:Code:=sB (bodyOf Try.f60)
noncomputable def zqx1_q3 (nx4:Int→HP):XT:=(xthen (fun τ H=>mI .i64 (τ 3) fun x3'=>nx4 x3' H) (xblock 0 (zqx1_q1 Q E)))
def zqx1_1 (nx4:Int→HP) (Q:QT) (E:ET) (x0:OA) (x3:Int) (H:Heap):Prop :=
 ptr x0 fun q9 =>
 ldI .i64 (Addr.add q9 1) H fun n10 =>
 ptr x0 fun q11 =>
 wr (Addr.add q11 1) [(.int .i64 (IntKind.wrap .i64 (n10+1)))] H fun H12 =>
 Does Pr 93 #[(.pointer x0)] H12 (fun v13 H14 =>
 ∃ n15:Int,v13=(.int .i64 n15)∧Does Pr 95 #[(.pointer x0),(.agg #[(.int .i64 4),(.int .i64 x3),(.int .i64 n15),(.int .u64 0),(.int .u64 0),(.int .u64 0),(.int .u64 0)])] H14 (fun v16 H17 =>
 ∃ n18:Int,v16=(.int .i64 n18)∧nx4 n18 H17) E) E
def zqx1_1_M (nx4:Int→HP) (τ:Tau) (H:Heap):Prop:=mP (τ 0) fun x0=>mI .i64 (τ 3) fun x3=>zqx1_1 nx4 Q E x0 x3 H
theorem zqx1_2ok (nx4:Int→HP):Ok Pr (zqx1_1_M Q E nx4) (sB (sI (sI (sI (sB zqx1_p1))))) (xblock 1 (zqx1_q3 Q E nx4)) E:=fun τ H h =>
  wP 0 h (fun x0 h=>wI 3 h (fun x3 h=>(conv (by kernel_rfl) h)))
noncomputable def zqx1_q5 (nx4:Int→HP):XT:=(xthen (zqx1_1_M Q E nx4) (xblock 1 (zqx1_q3 Q E nx4)))
noncomputable def zqx1_p7:Code:=sA (sI (sI (sI (sB zqx1_p1))))
def zqx1_3 (nx4:Int→HP) (Q:QT) (E:ET) (x0:OA) (x3:Int) (x18:Bool) (H:Heap):Prop :=
 sel x18
 (Q (.int .i64 x3) H)
 (zqx1_1 nx4 Q E x0 x3 H)
def zqx1_3_M (nx4:Int→HP) (τ:Tau) (H:Heap):Prop:=mP (τ 0) fun x0=>mI .i64 (τ 3) fun x3=>mB (τ 18) fun x18=>zqx1_3 nx4 Q E x0 x3 x18 H
theorem zqx1_4ok (nx4:Int→HP):Ok Pr (zqx1_3_M Q E nx4) (sB (sB zqx1_p7)) (zqx1_q5 Q E nx4) E:=fun τ H h =>
  wP 0 h (fun x0 h=>wI 3 h (fun x3 h=>wB 18 h (fun x18 h=>(conv (by kernel_rfl) h))))
noncomputable def zqx1_q6 (nx4:Int→HP):XT:=(xthen (zqx1_3_M Q E nx4) (zqx1_q5 Q E nx4))
def zqx1_5 (nx4:Int→HP) (Q:QT) (E:ET) (x0:OA) (x3 x4:Int) (x5:Bool) (H:Heap):Prop :=
 sel (!x5)
 (zqx1_3 nx4 Q E x0 x3 true H)
 (zqx1_3 nx4 Q E x0 x3 (x4 != 124) H)
def zqx1_5_M (nx4:Int→HP) (τ:Tau) (H:Heap):Prop:=mP (τ 0) fun x0=>mI .i64 (τ 3) fun x3=>mI .u8 (τ 4) fun x4=>mB (τ 5) fun x5=>zqx1_5 nx4 Q E x0 x3 x4 x5 H
theorem zqx1_6ok (nx4:Int→HP):Ok Pr (zqx1_5_M Q E nx4) (sA (sB zqx1_p7)) (zqx1_q6 Q E nx4) E:=fun τ H h =>
  wP 0 h (fun x0 h=>wI 3 h (fun x3 h=>wI 4 h (fun x4 h=>wB 5 h (fun x5 h=>(conv (by kernel_rfl) h)))))
theorem zqx1_7ok (nx4:Int→HP):Ok Pr (zqx1_5_M Q E nx4) (sB zqx1_p7) (zqx1_q5 Q E nx4) E:=fun τ H h =>
  (conv (by kernel_rfl) (vc_seq (K:=(zqx1_3_M Q E nx4)) (zqx1_6ok Q E nx4 τ H h) (zqx1_4ok Q E nx4)))
noncomputable def zqx1_q7 (nx4:Int→HP):XT:=(xthen (zqx1_5_M Q E nx4) (zqx1_q5 Q E nx4))
def zqx1_8 (nx4:Int→HP) (Q:QT) (E:ET) (x0:OA) (x3:Int) (H:Heap):Prop :=
 Does Pr 94 #[(.pointer x0)] H (fun v23 H24 =>
 ∃ n25:Int,∃ b26:Bool,v23=(.tuple #[(.int .u8 n25),(.bool b26)])∧zqx1_5 nx4 Q E x0 x3 n25 b26 H24) E
def zqx1_8_M (nx4:Int→HP) (τ:Tau) (H:Heap):Prop:=mP (τ 0) fun x0=>mI .i64 (τ 3) fun x3=>zqx1_8 nx4 Q E x0 x3 H
theorem zqx1_9ok (nx4:Int→HP):Ok Pr (zqx1_8_M Q E nx4) (sA zqx1_p7) (zqx1_q7 Q E nx4) E:=fun τ H h =>
  wP 0 h (fun x0 h=>wI 3 h (fun x3 h=>(conv (by kernel_rfl) h)))
theorem zqx1_10ok (nx4:Int→HP):Ok Pr (zqx1_8_M Q E nx4) zqx1_p7 (zqx1_q5 Q E nx4) E:=fun τ H h =>
  (conv (by kernel_rfl) (vc_seq (K:=(zqx1_5_M Q E nx4)) (zqx1_9ok Q E nx4 τ H h) (zqx1_7ok Q E nx4)))
theorem zqx1_11ok (nx4:Int→HP):Ok Pr (zqx1_8_M Q E nx4) (sI (sI (sI (sB zqx1_p1)))) (xblock 1 (zqx1_q3 Q E nx4)) E:=fun τ H h =>
  (conv (by kernel_rfl) (vc_seq (K:=(zqx1_1_M Q E nx4)) (zqx1_10ok Q E nx4 τ H h) (zqx1_2ok Q E nx4)))
theorem zqx1_12ok (nx4:Int→HP):Ok Pr (zqx1_8_M Q E nx4) (sI (sI (sB zqx1_p1))) (zqx1_q3 Q E nx4) E:=fun τ H h =>
  (conv (by kernel_rfl) (zqx1_11ok Q E nx4 τ H h))
def zqx1_13 (Q:QT) (E:ET) (x0:OA) (x3:Int) (H:Heap):Prop :=
 ∃ (I:Int→HP) (μ:Int→Heap→Nat),I x3 H∧∀ (x3:Int) (H:Heap),I x3 H →
 zqx1_8 (fun x3' H1=>I x3' H1∧μ x3' H1 < μ x3 H) Q E x0 x3 H
def zqx1_13_M:Prop:=mP (τ 0) fun x0=>mI .i64 (τ 3) fun x3=>zqx1_13 Q E x0 x3 H
theorem zqx1_14ok :Ok Pr (zqx1_13_M Q E) (sI (sB zqx1_p1)) (xblock 0 (zqx1_q1 Q E)) E:=fun τ H h =>
  wP 0 h (fun x0 h=>wI 3 h (fun x3 h=>match h with | ⟨I,μ,h0,hr⟩=>(conv (by kernel_rfl) (vc_loopG (c:=sI (sI (sB zqx1_p1))) (τ:=(Tau.upd (Tau.upd τ 0 (.pointer x0)) 3 (.int .i64 x3))) [0] (fun τ H=>mI .i64 (τ 3) fun x3'=>I x3' H) (fun τ H=>μ (gI (τ 3)) H) (by kernel_rfl) h0 (fun τ1 H1 hf hI=>uF 0 (.pointer x0) (hf 0 (by simp)) (uI 3 hI (fun x3r h=>lgx (zqx1_12ok Q E (fun x3' H2=>I x3' H2∧μ x3' H2 < μ x3r H1) (Tau.upd (Tau.upd τ1 0 (.pointer x0)) 3 (.int .i64 x3r)) H1 (conv (by kernel_rfl) (hr x3r H1 h))) (fun τ2 H2 hk=>kI 3 hk (fun x3' h=>conv (by kernel_rfl) h)))))))))
theorem zqx1_15ok :Ok Pr (zqx1_13_M Q E) (sB zqx1_p1) (zqx1_q1 Q E) E:=fun τ H h =>
  (conv (by kernel_rfl) (zqx1_14ok Q E τ H h))
def zqx1_16 (Q:QT) (E:ET) (x0:OA) (H:Heap):Prop :=
 Does Pr 93 #[(.pointer x0)] H (fun v27 H28 =>
 ∃ n29:Int,v27=(.int .i64 n29)∧zqx1_13 Q E x0 n29 H28) E
def zqx1_16_M:Prop:=mP (τ 0) fun x0=>zqx1_16 Q E x0 H
theorem zqx1_17ok :Ok Pr (zqx1_16_M Q E) (sA zqx1_p1) (xthen (zqx1_13_M Q E) (zqx1_q1 Q E)) E:=fun τ H h =>
  wP 0 h (fun x0 h=>(conv (by kernel_rfl) h))
theorem zqx1_18ok :Ok Pr (zqx1_16_M Q E) zqx1_p1 (zqx1_q1 Q E) E:=fun τ H h =>
  (conv (by kernel_rfl) (vc_seq (K:=(zqx1_13_M Q E)) (zqx1_17ok Q E τ H h) (zqx1_15ok Q E)))
def zqx1 (Q:QT) (E:ET) (a0:OA) (H:Heap):Prop :=
 zqx1_16 Q E a0 H
theorem zqx1_fn (a0:OA) (Q:QT) (E:ET) (H:Heap) (h:zqx1 Q E a0 H)  :Does Pr 60 #[(.pointer a0)] H Q E :=
  Fn_of_vc (fn:=Try.f60) (c:=(bodyOf Try.f60)) (args:=[(.pointer a0)]) mixed (by kernel_rfl) (by kernel_rfl) (by kernel_rfl) (by kernel_rfl) (by kernel_rfl) ((conv (B:=vc Pr (bodyOf Try.f60) (argT [(.pointer a0)]) (zqx1_q1 Q E) E H) (by kernel_rfl) (vc_seq (K:=(zqx1_16_M Q E)) (conv (B:=vc Pr (sA (bodyOf Try.f60)) (argT [(.pointer a0)]) (xthen (zqx1_16_M Q E) (zqx1_q1 Q E)) E H) (by kernel_rfl) h) (zqx1_18ok Q E))))
noncomputable def zqy1_q1 (Q:QT) (E:ET) :XT:=(retQ Pr (Try.f74).results.toList Q)
def zqy1_1 (Q:QT) (E:ET)  (H:Heap):Prop :=
 Q (.int .i64 (-1)) H
def zqy1_1_M  (τ:Tau) (H:Heap):Prop:=zqy1_1 Q E  H
theorem zqy1_2ok :Ok Pr (zqy1_1_M Q E) (sB (sB (bodyOf Try.f74))) (zqy1_q1 Q E) E:=fun τ H h =>
  (conv (by kernel_rfl) h)
noncomputable def zqy1_q2 :XT:=(xthen (zqy1_1_M Q E) (zqy1_q1 Q E))
noncomputable def zqy1_p3:Code:=sA (sB (bodyOf Try.f74))
noncomputable def zqy1_q3 :XT:=(xblock 0 (zqy1_q2 Q E))
def zqy1_3 (Q:QT) (E:ET)  (H:Heap):Prop :=
 Q (.int .i64 0) H
def zqy1_3_M  (τ:Tau) (H:Heap):Prop:=zqy1_3 Q E  H
theorem zqy1_4ok :Ok Pr (zqy1_3_M Q E) (sT (sB (sI (sB zqy1_p3)))) (zqy1_q3 Q E) E:=fun τ H h =>
  (conv (by kernel_rfl) h)
noncomputable def zqy1_p8:Code:=sE (sB (sI (sB zqy1_p3)))
def zqy1_5 (Q:QT) (E:ET)  (H:Heap):Prop :=
 Q (.int .i64 1) H
def zqy1_5_M  (τ:Tau) (H:Heap):Prop:=zqy1_5 Q E  H
theorem zqy1_6ok :Ok Pr (zqy1_5_M Q E) (sT (sB zqy1_p8)) (zqy1_q3 Q E) E:=fun τ H h =>
  (conv (by kernel_rfl) h)
def zqy1_7 (Q:QT) (E:ET) (x13:Bool) (H:Heap):Prop :=
 sel x13
 (Q (.int .i64 2) H)
 (zqy1_1 Q E  H)
def zqy1_7_M:Prop:=mB (τ 13) fun x13=>zqy1_7 Q E x13 H
theorem zqy1_8ok :Ok Pr (zqy1_7_M Q E) (sB (sE (sB zqy1_p8))) (zqy1_q3 Q E) E:=fun τ H h =>
  wB 13 h (fun x13 h=>(conv (by kernel_rfl) h))
def zqy1_9 (Q:QT) (E:ET) (x3:Int) (H:Heap):Prop :=
 sel (x3 == 3)
 (zqy1_7 Q E (x3 == 3) H)
 (zqy1_7 Q E (x3 == 4) H)
def zqy1_9_M:Prop:=mI .i64 (τ 3) fun x3=>zqy1_9 Q E x3 H
theorem zqy1_10ok :Ok Pr (zqy1_9_M Q E) (sA (sE (sB zqy1_p8))) (xthen (zqy1_7_M Q E) (zqy1_q3 Q E)) E:=fun τ H h =>
  wI 3 h (fun x3 h=>(conv (by kernel_rfl) h))
theorem zqy1_11ok :Ok Pr (zqy1_9_M Q E) (sE (sB zqy1_p8)) (zqy1_q3 Q E) E:=fun τ H h =>
  (conv (by kernel_rfl) (vc_seq (K:=(zqy1_7_M Q E)) (zqy1_10ok Q E τ H h) (zqy1_8ok Q E)))
def zqy1_12 (Q:QT) (E:ET) (x3:Int) (x9:Bool) (H:Heap):Prop :=
 sel x9
 (zqy1_5 Q E  H)
 (zqy1_9 Q E x3 H)
def zqy1_12_M:Prop:=mI .i64 (τ 3) fun x3=>mB (τ 9) fun x9=>zqy1_12 Q E x3 x9 H
theorem zqy1_13ok :Ok Pr (zqy1_12_M Q E) (sB zqy1_p8) (zqy1_q3 Q E) E:=fun τ H h =>
  wI 3 h (fun x3 h=>wB 9 h (fun x9 h=>(conv (by kernel_rfl) (sel_mapT (b:=x9) (τ:=(Tau.upd (Tau.upd τ 3 (.int .i64 x3)) 9 (.bool x9))) (H:=H) (zqy1_6ok Q E) (zqy1_11ok Q E) (conv (by kernel_rfl) h)))))
def zqy1_14 (Q:QT) (E:ET) (x3:Int) (H:Heap):Prop :=
 sel (x3 == 5)
 (zqy1_12 Q E x3 (x3 == 5) H)
 (sel (x3 == 6)
 (zqy1_12 Q E x3 (x3 == 6) H)
 (zqy1_12 Q E x3 (x3 == 7) H))
def zqy1_14_M:Prop:=mI .i64 (τ 3) fun x3=>zqy1_14 Q E x3 H
theorem zqy1_15ok :Ok Pr (zqy1_14_M Q E) (sA zqy1_p8) (xthen (zqy1_12_M Q E) (zqy1_q3 Q E)) E:=fun τ H h =>
  wI 3 h (fun x3 h=>(conv (by kernel_rfl) h))
theorem zqy1_16ok :Ok Pr (zqy1_14_M Q E) zqy1_p8 (zqy1_q3 Q E) E:=fun τ H h =>
  (conv (by kernel_rfl) (vc_seq (K:=(zqy1_12_M Q E)) (zqy1_15ok Q E τ H h) (zqy1_13ok Q E)))
def zqy1_17 (Q:QT) (E:ET) (x3:Int) (x4:Bool) (H:Heap):Prop :=
 sel x4
 (zqy1_3 Q E  H)
 (zqy1_14 Q E x3 H)
def zqy1_17_M:Prop:=mI .i64 (τ 3) fun x3=>mB (τ 4) fun x4=>zqy1_17 Q E x3 x4 H
theorem zqy1_18ok :Ok Pr (zqy1_17_M Q E) (sB (sI (sB zqy1_p3))) (zqy1_q3 Q E) E:=fun τ H h =>
  wI 3 h (fun x3 h=>wB 4 h (fun x4 h=>(conv (by kernel_rfl) (sel_mapT (b:=x4) (τ:=(Tau.upd (Tau.upd τ 3 (.int .i64 x3)) 4 (.bool x4))) (H:=H) (zqy1_4ok Q E) (zqy1_16ok Q E) (conv (by kernel_rfl) h)))))
def zqy1_19 (Q:QT) (E:ET) (x3:Int) (H:Heap):Prop :=
 sel (x3 == 1)
 (zqy1_17 Q E x3 (x3 == 1) H)
 (sel (x3 == 2)
 (zqy1_17 Q E x3 (x3 == 2) H)
 (sel (x3 == 8)
 (zqy1_17 Q E x3 (x3 == 8) H)
 (zqy1_17 Q E x3 (x3 == 9) H)))
def zqy1_19_M:Prop:=mI .i64 (τ 3) fun x3=>zqy1_19 Q E x3 H
theorem zqy1_20ok :Ok Pr (zqy1_19_M Q E) (sA (sI (sB zqy1_p3))) (xthen (zqy1_17_M Q E) (zqy1_q3 Q E)) E:=fun τ H h =>
  wI 3 h (fun x3 h=>(conv (by kernel_rfl) h))
theorem zqy1_21ok :Ok Pr (zqy1_19_M Q E) (sI (sB zqy1_p3)) (zqy1_q3 Q E) E:=fun τ H h =>
  (conv (by kernel_rfl) (vc_seq (K:=(zqy1_17_M Q E)) (zqy1_20ok Q E τ H h) (zqy1_18ok Q E)))
theorem zqy1_22ok :Ok Pr (zqy1_19_M Q E) (sB zqy1_p3) (zqy1_q2 Q E) E:=fun τ H h =>
  (conv (by kernel_rfl) (zqy1_21ok Q E τ H h))
def zqy1_23 (Q:QT) (E:ET) (x0:Int) (H:Heap):Prop :=
 zqy1_19 Q E x0 H
def zqy1_23_M:Prop:=mI .i64 (τ 0) fun x0=>zqy1_23 Q E x0 H
theorem zqy1_24ok :Ok Pr (zqy1_23_M Q E) (sA zqy1_p3) (xthen (zqy1_19_M Q E) (zqy1_q2 Q E)) E:=fun τ H h =>
  wI 0 h (fun x0 h=>(conv (by kernel_rfl) h))
theorem zqy1_25ok :Ok Pr (zqy1_23_M Q E) zqy1_p3 (zqy1_q2 Q E) E:=fun τ H h =>
  (conv (by kernel_rfl) (vc_seq (K:=(zqy1_19_M Q E)) (zqy1_24ok Q E τ H h) (zqy1_22ok Q E)))
theorem zqy1_26ok :Ok Pr (zqy1_23_M Q E) (sB (bodyOf Try.f74)) (zqy1_q1 Q E) E:=fun τ H h =>
  (conv (by kernel_rfl) (vc_seq (K:=(zqy1_1_M Q E)) (zqy1_25ok Q E τ H h) (zqy1_2ok Q E)))
def zqy1 (Q:QT) (E:ET) (a0:Int) (H:Heap):Prop :=
 zqy1_23 Q E a0 H
theorem zqy1_fn (a0:Int) (Q:QT) (E:ET) (H:Heap) (h:zqy1 Q E a0 H)  :Does Pr 74 #[(.int .i64 a0)] H Q E :=
  Fn_of_vc (fn:=Try.f74) (c:=(bodyOf Try.f74)) (args:=[(.int .i64 a0)]) mixed (by kernel_rfl) (by kernel_rfl) (by kernel_rfl) (by kernel_rfl) (by kernel_rfl) ((conv (B:=vc Pr (bodyOf Try.f74) (argT [(.int .i64 a0)]) (zqy1_q1 Q E) E H) (by kernel_rfl) (vc_seq (K:=(zqy1_23_M Q E)) (conv (B:=vc Pr (sA (bodyOf Try.f74)) (argT [(.int .i64 a0)]) (xthen (zqy1_23_M Q E) (zqy1_q1 Q E)) E H) (by kernel_rfl) h) (zqy1_26ok Q E))))
noncomputable def zqz1_q1 (Q:QT) (E:ET) :XT:=(retQ Pr (Try.f93).results.toList Q)
noncomputable def zqz1_p2:Code:=sB (sB (bodyOf Try.f93))
def zqz1_1 (Q:QT) (E:ET) (x3:Int) (H:Heap):Prop :=
 Q (.int .i64 x3) H
def zqz1_1_M:Prop:=mI .i64 (τ 3) fun x3=>zqz1_1 Q E x3 H
theorem zqz1_2ok :Ok Pr (zqz1_1_M Q E) (sB (sB zqz1_p2)) (zqz1_q1 Q E) E:=fun τ H h =>
  wI 3 h (fun x3 h=>(conv (by kernel_rfl) h))
noncomputable def zqz1_q2 :XT:=(xthen (zqz1_1_M Q E) (zqz1_q1 Q E))
def zqz1_3 (Q:QT) (E:ET) (x0:OA) (x3:Int) (H:Heap):Prop :=
 sel (decide (x3 < 0))
 (Does Pr 95 #[(.pointer x0),(.agg #[(.int .i64 1),(.int .i64 0),(.int .i64 0),(.int .u64 0),(.int .u64 0),(.int .u64 0),(.int .u64 0)])] H (fun v19 H20 =>
 ∃ n21:Int,v19=(.int .i64 n21)∧Q (.int .i64 n21) H20) E)
 (zqz1_1 Q E x3 H)
def zqz1_3_M:Prop:=mP (τ 0) fun x0=>mI .i64 (τ 3) fun x3=>zqz1_3 Q E x0 x3 H
theorem zqz1_4ok :Ok Pr (zqz1_3_M Q E) (sA (sB zqz1_p2)) (zqz1_q2 Q E) E:=fun τ H h =>
  wP 0 h (fun x0 h=>wI 3 h (fun x3 h=>(conv (by kernel_rfl) h)))
theorem zqz1_5ok :Ok Pr (zqz1_3_M Q E) (sB zqz1_p2) (zqz1_q1 Q E) E:=fun τ H h =>
  (conv (by kernel_rfl) (vc_seq (K:=(zqz1_1_M Q E)) (zqz1_4ok Q E τ H h) (zqz1_2ok Q E)))
noncomputable def zqz1_q3 :XT:=(xthen (zqz1_3_M Q E) (zqz1_q1 Q E))
noncomputable def zqz1_q6 (nx22:Int→HP):XT:=(xblock 1 (xthen (fun τ H=>mI .i64 (τ 3) fun x3'=>nx22 x3' H) (xblock 0 (zqz1_q3 Q E))))
noncomputable def zqz1_p9:Code:=sI (sI (sI (sA zqz1_p2)))
noncomputable def zqz1_p11:Code:=sB (sB zqz1_p9)
def zqz1_6 (nx22:Int→HP) (Q:QT) (E:ET) (x0:OA) (x6:Int) (H:Heap):Prop :=
 nx22 x6 H
def zqz1_6_M (nx22:Int→HP) (τ:Tau) (H:Heap):Prop:=mP (τ 0) fun x0=>mI .i64 (τ 6) fun x6=>zqz1_6 nx22 Q E x0 x6 H
theorem zqz1_7ok (nx22:Int→HP):Ok Pr (zqz1_6_M Q E nx22) (sB (sB (sB zqz1_p11))) (zqz1_q6 Q E nx22) E:=fun τ H h =>
  wP 0 h (fun x0 h=>wI 6 h (fun x6 h=>(conv (by kernel_rfl) h)))
noncomputable def zqz1_q7 (nx22:Int→HP):XT:=(xthen (zqz1_6_M Q E nx22) (zqz1_q6 Q E nx22))
def zqz1_8 (nx22:Int→HP) (Q:QT) (E:ET) (x0:OA) (x3 x6:Int) (H:Heap):Prop :=
 sel (decide (x3 ≥ 0))
 (Does Pr 95 #[(.pointer x0),(.agg #[(.int .i64 3),(.int .i64 x3),(.int .i64 x6),(.int .u64 0),(.int .u64 0),(.int .u64 0),(.int .u64 0)])] H (fun v38 H39 =>
 ∃ n40:Int,v38=(.int .i64 n40)∧zqz1_6 nx22 Q E x0 n40 H39) E)
 (zqz1_6 nx22 Q E x0 x6 H)
def zqz1_8_M (nx22:Int→HP) (τ:Tau) (H:Heap):Prop:=mP (τ 0) fun x0=>mI .i64 (τ 3) fun x3=>mI .i64 (τ 6) fun x6=>zqz1_8 nx22 Q E x0 x3 x6 H
theorem zqz1_9ok (nx22:Int→HP):Ok Pr (zqz1_8_M Q E nx22) (sA (sB (sB zqz1_p11))) (zqz1_q7 Q E nx22) E:=fun τ H h =>
  wP 0 h (fun x0 h=>wI 3 h (fun x3 h=>wI 6 h (fun x6 h=>(conv (by kernel_rfl) h))))
theorem zqz1_10ok (nx22:Int→HP):Ok Pr (zqz1_8_M Q E nx22) (sB (sB zqz1_p11)) (zqz1_q6 Q E nx22) E:=fun τ H h =>
  (conv (by kernel_rfl) (vc_seq (K:=(zqz1_6_M Q E nx22)) (zqz1_9ok Q E nx22 τ H h) (zqz1_7ok Q E nx22)))
noncomputable def zqz1_q8 (nx22:Int→HP):XT:=(xthen (zqz1_8_M Q E nx22) (zqz1_q6 Q E nx22))
def zqz1_11 (nx22:Int→HP) (Q:QT) (E:ET) (x0:OA) (x3 x4:Int) (H:Heap):Prop :=
 Does Pr 104 #[(.pointer x0),(.int .u8 x4)] H (fun v41 H42 =>
 ∃ n43:Int,v41=(.int .i64 n43)∧zqz1_8 nx22 Q E x0 x3 n43 H42) E
def zqz1_11_M (nx22:Int→HP) (τ:Tau) (H:Heap):Prop:=mP (τ 0) fun x0=>mI .i64 (τ 3) fun x3=>mI .u8 (τ 4) fun x4=>zqz1_11 nx22 Q E x0 x3 x4 H
theorem zqz1_12ok (nx22:Int→HP):Ok Pr (zqz1_11_M Q E nx22) (sA (sB zqz1_p11)) (zqz1_q8 Q E nx22) E:=fun τ H h =>
  wP 0 h (fun x0 h=>wI 3 h (fun x3 h=>wI 4 h (fun x4 h=>(conv (by kernel_rfl) h))))
theorem zqz1_13ok (nx22:Int→HP):Ok Pr (zqz1_11_M Q E nx22) (sB zqz1_p11) (zqz1_q6 Q E nx22) E:=fun τ H h =>
  (conv (by kernel_rfl) (vc_seq (K:=(zqz1_8_M Q E nx22)) (zqz1_12ok Q E nx22 τ H h) (zqz1_10ok Q E nx22)))
noncomputable def zqz1_q9 (nx22:Int→HP):XT:=(xthen (zqz1_11_M Q E nx22) (zqz1_q6 Q E nx22))
def zqz1_14 (nx22:Int→HP) (Q:QT) (E:ET) (x0:OA) (x3 x4:Int) (x35:Bool) (H:Heap):Prop :=
 sel x35
 (zqz1_3 Q E x0 x3 H)
 (zqz1_11 nx22 Q E x0 x3 x4 H)
def zqz1_14_M (nx22:Int→HP) (τ:Tau) (H:Heap):Prop:=mP (τ 0) fun x0=>mI .i64 (τ 3) fun x3=>mI .u8 (τ 4) fun x4=>mB (τ 35) fun x35=>zqz1_14 nx22 Q E x0 x3 x4 x35 H
theorem zqz1_15ok (nx22:Int→HP):Ok Pr (zqz1_14_M Q E nx22) (sB (sA zqz1_p11)) (zqz1_q9 Q E nx22) E:=fun τ H h =>
  wP 0 h (fun x0 h=>wI 3 h (fun x3 h=>wI 4 h (fun x4 h=>wB 35 h (fun x35 h=>(conv (by kernel_rfl) h)))))
noncomputable def zqz1_q10 (nx22:Int→HP):XT:=(xthen (zqz1_14_M Q E nx22) (zqz1_q9 Q E nx22))
def zqz1_16 (nx22:Int→HP) (Q:QT) (E:ET) (x0:OA) (x3 x4:Int) (x5:Bool) (H:Heap):Prop :=
 sel (!x5)
 (zqz1_14 nx22 Q E x0 x3 x4 true H)
 (sel (x4 == 124)
 (zqz1_14 nx22 Q E x0 x3 x4 true H)
 (zqz1_14 nx22 Q E x0 x3 x4 (x4 == 41) H))
def zqz1_16_M (nx22:Int→HP) (τ:Tau) (H:Heap):Prop:=mP (τ 0) fun x0=>mI .i64 (τ 3) fun x3=>mI .u8 (τ 4) fun x4=>mB (τ 5) fun x5=>zqz1_16 nx22 Q E x0 x3 x4 x5 H
theorem zqz1_17ok (nx22:Int→HP):Ok Pr (zqz1_16_M Q E nx22) (sA (sA zqz1_p11)) (zqz1_q10 Q E nx22) E:=fun τ H h =>
  wP 0 h (fun x0 h=>wI 3 h (fun x3 h=>wI 4 h (fun x4 h=>wB 5 h (fun x5 h=>(conv (by kernel_rfl) h)))))
theorem zqz1_18ok (nx22:Int→HP):Ok Pr (zqz1_16_M Q E nx22) (sA zqz1_p11) (zqz1_q9 Q E nx22) E:=fun τ H h =>
  (conv (by kernel_rfl) (vc_seq (K:=(zqz1_14_M Q E nx22)) (zqz1_17ok Q E nx22 τ H h) (zqz1_15ok Q E nx22)))
theorem zqz1_19ok (nx22:Int→HP):Ok Pr (zqz1_16_M Q E nx22) zqz1_p11 (zqz1_q6 Q E nx22) E:=fun τ H h =>
  (conv (by kernel_rfl) (vc_seq (K:=(zqz1_11_M Q E nx22)) (zqz1_18ok Q E nx22 τ H h) (zqz1_13ok Q E nx22)))
noncomputable def zqz1_q11 (nx22:Int→HP):XT:=(xthen (zqz1_16_M Q E nx22) (zqz1_q6 Q E nx22))
def zqz1_20 (nx22:Int→HP) (Q:QT) (E:ET) (x0:OA) (x3 x4:Int) (x5 x23:Bool) (H:Heap):Prop :=
 sel x23
 (Does Pr 103 #[(.pointer x0),(.int .i64 83)] H (fun v46 H47 =>
 ∃ n48:Int,v46=(.int .i64 n48)∧zqz1_16 nx22 Q E x0 x3 x4 x5 H47) E)
 (zqz1_16 nx22 Q E x0 x3 x4 x5 H)
def zqz1_20_M (nx22:Int→HP) (τ:Tau) (H:Heap):Prop:=mP (τ 0) fun x0=>mI .i64 (τ 3) fun x3=>mI .u8 (τ 4) fun x4=>mB (τ 5) fun x5=>mB (τ 23) fun x23=>zqz1_20 nx22 Q E x0 x3 x4 x5 x23 H
theorem zqz1_21ok (nx22:Int→HP):Ok Pr (zqz1_20_M Q E nx22) (sB (sA (sB zqz1_p9))) (zqz1_q11 Q E nx22) E:=fun τ H h =>
  wP 0 h (fun x0 h=>wI 3 h (fun x3 h=>wI 4 h (fun x4 h=>wB 5 h (fun x5 h=>wB 23 h (fun x23 h=>(conv (by kernel_rfl) h))))))
noncomputable def zqz1_q12 (nx22:Int→HP):XT:=(xthen (zqz1_20_M Q E nx22) (zqz1_q11 Q E nx22))
def zqz1_22 (nx22:Int→HP) (Q:QT) (E:ET) (x0:OA) (x3 x4:Int) (x5:Bool) (H:Heap):Prop :=
 sel x5
 (sel (x4 == 41)
 (ptr x0 fun q49 =>
 ldI .i64 (Addr.add q49 2) H fun n50 =>
 zqz1_20 nx22 Q E x0 x3 x4 x5 (n50 == 0) H)
 (zqz1_20 nx22 Q E x0 x3 x4 x5 false H))
 (zqz1_20 nx22 Q E x0 x3 x4 x5 false H)
def zqz1_22_M (nx22:Int→HP) (τ:Tau) (H:Heap):Prop:=mP (τ 0) fun x0=>mI .i64 (τ 3) fun x3=>mI .u8 (τ 4) fun x4=>mB (τ 5) fun x5=>zqz1_22 nx22 Q E x0 x3 x4 x5 H
theorem zqz1_23ok (nx22:Int→HP):Ok Pr (zqz1_22_M Q E nx22) (sA (sA (sB zqz1_p9))) (zqz1_q12 Q E nx22) E:=fun τ H h =>
  wP 0 h (fun x0 h=>wI 3 h (fun x3 h=>wI 4 h (fun x4 h=>wB 5 h (fun x5 h=>(conv (by kernel_rfl) h)))))
theorem zqz1_24ok (nx22:Int→HP):Ok Pr (zqz1_22_M Q E nx22) (sA (sB zqz1_p9)) (zqz1_q11 Q E nx22) E:=fun τ H h =>
  (conv (by kernel_rfl) (vc_seq (K:=(zqz1_20_M Q E nx22)) (zqz1_23ok Q E nx22 τ H h) (zqz1_21ok Q E nx22)))
theorem zqz1_25ok (nx22:Int→HP):Ok Pr (zqz1_22_M Q E nx22) (sB zqz1_p9) (zqz1_q6 Q E nx22) E:=fun τ H h =>
  (conv (by kernel_rfl) (vc_seq (K:=(zqz1_16_M Q E nx22)) (zqz1_24ok Q E nx22 τ H h) (zqz1_19ok Q E nx22)))
noncomputable def zqz1_q13 (nx22:Int→HP):XT:=(xthen (zqz1_22_M Q E nx22) (zqz1_q6 Q E nx22))
def zqz1_26 (nx22:Int→HP) (Q:QT) (E:ET) (x0:OA) (x3:Int) (H:Heap):Prop :=
 Does Pr 94 #[(.pointer x0)] H (fun v51 H52 =>
 ∃ n53:Int,∃ b54:Bool,v51=(.tuple #[(.int .u8 n53),(.bool b54)])∧zqz1_22 nx22 Q E x0 x3 n53 b54 H52) E
def zqz1_26_M (nx22:Int→HP) (τ:Tau) (H:Heap):Prop:=mP (τ 0) fun x0=>mI .i64 (τ 3) fun x3=>zqz1_26 nx22 Q E x0 x3 H
theorem zqz1_27ok (nx22:Int→HP):Ok Pr (zqz1_26_M Q E nx22) (sA zqz1_p9) (zqz1_q13 Q E nx22) E:=fun τ H h =>
  wP 0 h (fun x0 h=>wI 3 h (fun x3 h=>(conv (by kernel_rfl) h)))
theorem zqz1_28ok (nx22:Int→HP):Ok Pr (zqz1_26_M Q E nx22) zqz1_p9 (zqz1_q6 Q E nx22) E:=fun τ H h =>
  (conv (by kernel_rfl) (vc_seq (K:=(zqz1_22_M Q E nx22)) (zqz1_27ok Q E nx22 τ H h) (zqz1_25ok Q E nx22)))
theorem zqz1_29ok (nx22:Int→HP):Ok Pr (zqz1_26_M Q E nx22) (sI (sI (sA zqz1_p2))) (xthen (fun τ H=>mI .i64 (τ 3) fun x3'=>nx22 x3' H) (xblock 0 (zqz1_q3 Q E))) E:=fun τ H h =>
  (conv (by kernel_rfl) (zqz1_28ok Q E nx22 τ H h))
def zqz1_30 (Q:QT) (E:ET) (x0:OA) (x3:Int) (H:Heap):Prop :=
 ∃ (I:Int→HP) (μ:Int→Heap→Nat),I x3 H∧∀ (x3:Int) (H:Heap),I x3 H →
 zqz1_26 (fun x3' H1=>I x3' H1∧μ x3' H1 < μ x3 H) Q E x0 x3 H
def zqz1_30_M:Prop:=mP (τ 0) fun x0=>mI .i64 (τ 3) fun x3=>zqz1_30 Q E x0 x3 H
theorem zqz1_31ok :Ok Pr (zqz1_30_M Q E) (sI (sA zqz1_p2)) (xblock 0 (zqz1_q3 Q E)) E:=fun τ H h =>
  wP 0 h (fun x0 h=>wI 3 h (fun x3 h=>match h with | ⟨I,μ,h0,hr⟩=>(conv (by kernel_rfl) (vc_loopG (c:=sI (sI (sA zqz1_p2))) (τ:=(Tau.upd (Tau.upd τ 0 (.pointer x0)) 3 (.int .i64 x3))) [0] (fun τ H=>mI .i64 (τ 3) fun x3'=>I x3' H) (fun τ H=>μ (gI (τ 3)) H) (by kernel_rfl) h0 (fun τ1 H1 hf hI=>uF 0 (.pointer x0) (hf 0 (by simp)) (uI 3 hI (fun x3r h=>lgx (zqz1_29ok Q E (fun x3' H2=>I x3' H2∧μ x3' H2 < μ x3r H1) (Tau.upd (Tau.upd τ1 0 (.pointer x0)) 3 (.int .i64 x3r)) H1 (conv (by kernel_rfl) (hr x3r H1 h))) (fun τ2 H2 hk=>kI 3 hk (fun x3' h=>conv (by kernel_rfl) h)))))))))
theorem zqz1_32ok :Ok Pr (zqz1_30_M Q E) (sA zqz1_p2) (zqz1_q3 Q E) E:=fun τ H h =>
  (conv (by kernel_rfl) (zqz1_31ok Q E τ H h))
theorem zqz1_33ok :Ok Pr (zqz1_30_M Q E) zqz1_p2 (zqz1_q1 Q E) E:=fun τ H h =>
  (conv (by kernel_rfl) (vc_seq (K:=(zqz1_3_M Q E)) (zqz1_32ok Q E τ H h) (zqz1_5ok Q E)))
def zqz1_34 (Q:QT) (E:ET) (x0:OA) (H:Heap):Prop :=
 zqz1_30 Q E x0 (-1) H
def zqz1_34_M:Prop:=mP (τ 0) fun x0=>zqz1_34 Q E x0 H
theorem zqz1_35ok :Ok Pr (zqz1_34_M Q E) (sA (sB (bodyOf Try.f93))) (xthen (zqz1_30_M Q E) (zqz1_q1 Q E)) E:=fun τ H h =>
  wP 0 h (fun x0 h=>(conv (by kernel_rfl) h))
theorem zqz1_36ok :Ok Pr (zqz1_34_M Q E) (sB (bodyOf Try.f93)) (zqz1_q1 Q E) E:=fun τ H h =>
  (conv (by kernel_rfl) (vc_seq (K:=(zqz1_30_M Q E)) (zqz1_35ok Q E τ H h) (zqz1_33ok Q E)))
def zqz1 (Q:QT) (E:ET) (a0:OA) (H:Heap):Prop :=
 zqz1_34 Q E a0 H
theorem zqz1_fn (a0:OA) (Q:QT) (E:ET) (H:Heap) (h:zqz1 Q E a0 H)  :Does Pr 93 #[(.pointer a0)] H Q E :=
  Fn_of_vc (fn:=Try.f93) (c:=(bodyOf Try.f93)) (args:=[(.pointer a0)]) mixed (by kernel_rfl) (by kernel_rfl) (by kernel_rfl) (by kernel_rfl) (by kernel_rfl) ((conv (B:=vc Pr (bodyOf Try.f93) (argT [(.pointer a0)]) (zqz1_q1 Q E) E H) (by kernel_rfl) (vc_seq (K:=(zqz1_34_M Q E)) (conv (B:=vc Pr (sA (bodyOf Try.f93)) (argT [(.pointer a0)]) (xthen (zqz1_34_M Q E) (zqz1_q1 Q E)) E H) (by kernel_rfl) h) (zqz1_36ok Q E))))
noncomputable def zqa2_q1 (Q:QT) (E:ET) :XT:=(retQ Pr (Try.f94).results.toList Q)
def zqa2_1 (Q:QT) (E:ET) (x0:OA) (H:Heap):Prop :=
 ptr x0 fun q7 =>
 ldS q7 H fun s8 =>
 ptr x0 fun q9 =>
 ldI .i64 (Addr.add q9 1) H fun n10 =>
 (0≤n10∧n10 < ((ByteArray.size s8:Nat):Int))∧Q (.tuple #[(.int .u8 (sAt s8 n10)),(.bool true)]) H
def zqa2_1_M:Prop:=mP (τ 0) fun x0=>zqa2_1 Q E x0 H
theorem zqa2_2ok :Ok Pr (zqa2_1_M Q E) (sB (sB (bodyOf Try.f94))) (zqa2_q1 Q E) E:=fun τ H h =>
  wP 0 h (fun x0 h=>(conv (by kernel_rfl) h))
noncomputable def zqa2_q2 :XT:=(xthen (zqa2_1_M Q E) (zqa2_q1 Q E))
def zqa2_3 (Q:QT) (E:ET) (x0:OA) (x20:Bool) (H:Heap):Prop :=
 sel x20
 (Q (.tuple #[(.int .u8 0),(.bool false)]) H)
 (zqa2_1 Q E x0 H)
def zqa2_3_M:Prop:=mP (τ 0) fun x0=>mB (τ 20) fun x20=>zqa2_3 Q E x0 x20 H
theorem zqa2_4ok :Ok Pr (zqa2_3_M Q E) (sB (sA (sB (bodyOf Try.f94)))) (zqa2_q2 Q E) E:=fun τ H h =>
  wP 0 h (fun x0 h=>wB 20 h (fun x20 h=>(conv (by kernel_rfl) h)))
def zqa2_5 (Q:QT) (E:ET) (x0:OA) (H:Heap):Prop :=
 ptr x0 fun q17 =>
 ldI .i64 (Addr.add q17 4) H fun n18 =>
 sel (n18 != 0)
 (zqa2_3 Q E x0 true H)
 (ptr x0 fun q19 =>
 ldI .i64 (Addr.add q19 1) H fun n20 =>
 ptr x0 fun q21 =>
 ldS q21 H fun s22 =>
 zqa2_3 Q E x0 (decide (n20 ≥ ((ByteArray.size s22:Nat):Int))) H)
def zqa2_5_M:Prop:=mP (τ 0) fun x0=>zqa2_5 Q E x0 H
theorem zqa2_6ok :Ok Pr (zqa2_5_M Q E) (sA (sA (sB (bodyOf Try.f94)))) (xthen (zqa2_3_M Q E) (zqa2_q2 Q E)) E:=fun τ H h =>
  wP 0 h (fun x0 h=>(conv (by kernel_rfl) h))
theorem zqa2_7ok :Ok Pr (zqa2_5_M Q E) (sA (sB (bodyOf Try.f94))) (zqa2_q2 Q E) E:=fun τ H h =>
  (conv (by kernel_rfl) (vc_seq (K:=(zqa2_3_M Q E)) (zqa2_6ok Q E τ H h) (zqa2_4ok Q E)))
theorem zqa2_8ok :Ok Pr (zqa2_5_M Q E) (sB (bodyOf Try.f94)) (zqa2_q1 Q E) E:=fun τ H h =>
  (conv (by kernel_rfl) (vc_seq (K:=(zqa2_1_M Q E)) (zqa2_7ok Q E τ H h) (zqa2_2ok Q E)))
def zqa2 (Q:QT) (E:ET) (a0:OA) (H:Heap):Prop :=
 zqa2_5 Q E a0 H
theorem zqa2_fn (a0:OA) (Q:QT) (E:ET) (H:Heap) (h:zqa2 Q E a0 H)  :Does Pr 94 #[(.pointer a0)] H Q E :=
  Fn_of_vc (fn:=Try.f94) (c:=(bodyOf Try.f94)) (args:=[(.pointer a0)]) mixed (by kernel_rfl) (by kernel_rfl) (by kernel_rfl) (by kernel_rfl) (by kernel_rfl) ((conv (B:=vc Pr (bodyOf Try.f94) (argT [(.pointer a0)]) (zqa2_q1 Q E) E H) (by kernel_rfl) (vc_seq (K:=(zqa2_5_M Q E)) (conv (B:=vc Pr (sA (bodyOf Try.f94)) (argT [(.pointer a0)]) (xthen (zqa2_5_M Q E) (zqa2_q1 Q E)) E H) (by kernel_rfl) h) (zqa2_8ok Q E))))
noncomputable def zqb2_q1 (Q:QT) (E:ET) :XT:=(retQ Pr (Try.f95).results.toList Q)
def zqb2 (Q:QT) (E:ET) (a0:OA) (a1_0:Int) (a1_1:Int) (a1_2:Int) (a1_3:Int) (a1_4:Int) (a1_5:Int) (a1_6:Int) (H:Heap):Prop :=
 nw (.cells #[(.int .i64 a1_0),(.int .i64 a1_1),(.int .i64 a1_2),(.int .u64 a1_3),(.int .u64 a1_4),(.int .u64 a1_5),(.int .u64 a1_6)] 48 (0,0)) H fun i1 H2 =>
 ptr a0 fun q3 =>
 ldSl (Addr.add q3 3) H2 fun p4 l5 c6 =>
 ∃ n7 n8 n9 n10 n11 n12 n13:Int,Heap.rd H2 ⟨i1,0,none⟩ 0 [(.int .i64 n7),(.int .i64 n8),(.int .i64 n9),(.int .u64 n10),(.int .u64 n11),(.int .u64 n12),(.int .u64 n13)]∧nw (.cells #[(.int .i64 n7),(.int .i64 n8),(.int .i64 n9),(.int .u64 n10),(.int .u64 n11),(.int .u64 n12),(.int .u64 n13)] 48 (0,0)) H2 fun i14 H15 =>
 app Pr 23 p4 l5 c6 (.slice (some ⟨i14,0,none⟩) 1 1) H15 fun p16 l17 c18 H19 =>
 ptr a0 fun q20 =>
 wr (Addr.add q20 3) [(.slice p16 l17 c18)] H19 fun H21 =>
 ptr a0 fun q22 =>
 ldSl (Addr.add q22 3) H21 fun p23 l24 c25 =>
 Q (.int .i64 (IntKind.wrap .i64 ((l24:Int) - 1))) H21
theorem zqb2_fn (a0:OA) (a1_0:Int) (a1_1:Int) (a1_2:Int) (a1_3:Int) (a1_4:Int) (a1_5:Int) (a1_6:Int) (Q:QT) (E:ET) (H:Heap) (h:zqb2 Q E a0 a1_0 a1_1 a1_2 a1_3 a1_4 a1_5 a1_6 H)  :Does Pr 95 #[(.pointer a0),(.agg #[(.int .i64 a1_0),(.int .i64 a1_1),(.int .i64 a1_2),(.int .u64 a1_3),(.int .u64 a1_4),(.int .u64 a1_5),(.int .u64 a1_6)])] H Q E :=
  Fn_of_vc (fn:=Try.f95) (c:=(bodyOf Try.f95)) (args:=[(.pointer a0),(.agg #[(.int .i64 a1_0),(.int .i64 a1_1),(.int .i64 a1_2),(.int .u64 a1_3),(.int .u64 a1_4),(.int .u64 a1_5),(.int .u64 a1_6)])]) mixed (by kernel_rfl) (by kernel_rfl) (by kernel_rfl) (by kernel_rfl) (by kernel_rfl) ((conv (B:=vc Pr (bodyOf Try.f95) (argT [(.pointer a0),(.agg #[(.int .i64 a1_0),(.int .i64 a1_1),(.int .i64 a1_2),(.int .u64 a1_3),(.int .u64 a1_4),(.int .u64 a1_5),(.int .u64 a1_6)])]) (zqb2_q1 Q E) E H) (by kernel_rfl) h))
noncomputable def zqc2_q1 (Q:QT) (E:ET) :XT:=(retQ Pr (Try.f103).results.toList Q)
def zqc2_1 (Q:QT) (E:ET) (x0:OA) (H:Heap):Prop :=
 ptr x0 fun q5 =>
 ldI .i64 (Addr.add q5 4) H fun n6 =>
 Q (.int .i64 n6) H
def zqc2_1_M:Prop:=mP (τ 0) fun x0=>zqc2_1 Q E x0 H
theorem zqc2_2ok :Ok Pr (zqc2_1_M Q E) (sB (sB (bodyOf Try.f103))) (zqc2_q1 Q E) E:=fun τ H h =>
  wP 0 h (fun x0 h=>(conv (by kernel_rfl) h))
noncomputable def zqc2_q2 :XT:=(xthen (zqc2_1_M Q E) (zqc2_q1 Q E))
def zqc2_3 (Q:QT) (E:ET) (x0:OA) (x1:Int) (H:Heap):Prop :=
 ptr x0 fun q7 =>
 ldI .i64 (Addr.add q7 4) H fun n8 =>
 sel (n8 == 0)
 (ptr x0 fun q9 =>
 wr (Addr.add q9 4) [(.int .i64 x1)] H fun H10 =>
 zqc2_1 Q E x0 H10)
 (zqc2_1 Q E x0 H)
def zqc2_3_M:Prop:=mP (τ 0) fun x0=>mI .i64 (τ 1) fun x1=>zqc2_3 Q E x0 x1 H
theorem zqc2_4ok :Ok Pr (zqc2_3_M Q E) (sA (sB (bodyOf Try.f103))) (zqc2_q2 Q E) E:=fun τ H h =>
  wP 0 h (fun x0 h=>wI 1 h (fun x1 h=>(conv (by kernel_rfl) h)))
theorem zqc2_5ok :Ok Pr (zqc2_3_M Q E) (sB (bodyOf Try.f103)) (zqc2_q1 Q E) E:=fun τ H h =>
  (conv (by kernel_rfl) (vc_seq (K:=(zqc2_1_M Q E)) (zqc2_4ok Q E τ H h) (zqc2_2ok Q E)))
def zqc2 (Q:QT) (E:ET) (a0:OA) (a1:Int) (H:Heap):Prop :=
 zqc2_3 Q E a0 a1 H
theorem zqc2_fn (a0:OA) (a1:Int) (Q:QT) (E:ET) (H:Heap) (h:zqc2 Q E a0 a1 H)  :Does Pr 103 #[(.pointer a0),(.int .i64 a1)] H Q E :=
  Fn_of_vc (fn:=Try.f103) (c:=(bodyOf Try.f103)) (args:=[(.pointer a0),(.int .i64 a1)]) mixed (by kernel_rfl) (by kernel_rfl) (by kernel_rfl) (by kernel_rfl) (by kernel_rfl) ((conv (B:=vc Pr (bodyOf Try.f103) (argT [(.pointer a0),(.int .i64 a1)]) (zqc2_q1 Q E) E H) (by kernel_rfl) (vc_seq (K:=(zqc2_3_M Q E)) (conv (B:=vc Pr (sA (bodyOf Try.f103)) (argT [(.pointer a0),(.int .i64 a1)]) (xthen (zqc2_3_M Q E) (zqc2_q1 Q E)) E H) (by kernel_rfl) h) (zqc2_5ok Q E))))
noncomputable def zqd2_q1 (Q:QT) (E:ET) :XT:=(retQ Pr (Try.f104).results.toList Q)
noncomputable def zqd2_q3 (nx4:Int→HP):XT:=(xthen (fun τ H=>mI .i64 (τ 5) fun x5'=>nx4 x5' H) (xblock 0 (zqd2_q1 Q E)))
noncomputable def zqd2_p4:Code:=sI (sI (sB (sB (bodyOf Try.f104))))
def zqd2_1 (nx4:Int→HP) (Q:QT) (E:ET) (x0:OA) (x5 x6:Int) (H:Heap):Prop :=
 ptr x0 fun q9 =>
 ldI .i64 (Addr.add q9 1) H fun n10 =>
 ptr x0 fun q11 =>
 wr (Addr.add q11 1) [(.int .i64 (IntKind.wrap .i64 (n10+1)))] H fun H12 =>
 Does Pr 95 #[(.pointer x0),(.agg #[(.int .i64 x6),(.int .i64 x5),(.int .i64 0),(.int .u64 0),(.int .u64 0),(.int .u64 0),(.int .u64 0)])] H12 (fun v13 H14 =>
 ∃ n15:Int,v13=(.int .i64 n15)∧nx4 n15 H14) E
def zqd2_1_M (nx4:Int→HP) (τ:Tau) (H:Heap):Prop:=mP (τ 0) fun x0=>mI .i64 (τ 5) fun x5=>mI .i64 (τ 6) fun x6=>zqd2_1 nx4 Q E x0 x5 x6 H
theorem zqd2_2ok (nx4:Int→HP):Ok Pr (zqd2_1_M Q E nx4) (sB (sB (sI zqd2_p4))) (xblock 1 (zqd2_q3 Q E nx4)) E:=fun τ H h =>
  wP 0 h (fun x0 h=>wI 5 h (fun x5 h=>wI 6 h (fun x6 h=>(conv (by kernel_rfl) h))))
noncomputable def zqd2_q5 (nx4:Int→HP):XT:=(xthen (zqd2_1_M Q E nx4) (xblock 1 (zqd2_q3 Q E nx4)))
def zqd2_3 (nx4:Int→HP) (Q:QT) (E:ET) (x0:OA) (x5:Int) (H:Heap):Prop :=
 Does Pr 94 #[(.pointer x0)] H (fun v16 H17 =>
 ∃ n18:Int,∃ b19:Bool,v16=(.tuple #[(.int .u8 n18),(.bool b19)])∧sel (n18 == 42)
 (zqd2_1 nx4 Q E x0 x5 5 H17)
 (sel (n18 == 43)
 (zqd2_1 nx4 Q E x0 x5 6 H17)
 (sel (n18 == 63)
 (zqd2_1 nx4 Q E x0 x5 7 H17)
 (Q (.int .i64 x5) H17)))) E
def zqd2_3_M (nx4:Int→HP) (τ:Tau) (H:Heap):Prop:=mP (τ 0) fun x0=>mI .i64 (τ 5) fun x5=>zqd2_3 nx4 Q E x0 x5 H
theorem zqd2_4ok (nx4:Int→HP):Ok Pr (zqd2_3_M Q E nx4) (sA (sB (sI zqd2_p4))) (zqd2_q5 Q E nx4) E:=fun τ H h =>
  wP 0 h (fun x0 h=>wI 5 h (fun x5 h=>(conv (by kernel_rfl) h)))
theorem zqd2_5ok (nx4:Int→HP):Ok Pr (zqd2_3_M Q E nx4) (sB (sI zqd2_p4)) (xblock 1 (zqd2_q3 Q E nx4)) E:=fun τ H h =>
  (conv (by kernel_rfl) (vc_seq (K:=(zqd2_1_M Q E nx4)) (zqd2_4ok Q E nx4 τ H h) (zqd2_2ok Q E nx4)))
noncomputable def zqd2_q6 (nx4:Int→HP):XT:=(xthen (zqd2_3_M Q E nx4) (xblock 1 (zqd2_q3 Q E nx4)))
def zqd2_6 (nx4:Int→HP) (Q:QT) (E:ET) (x0:OA) (x5:Int) (H:Heap):Prop :=
 zqd2_3 nx4 Q E x0 x5 H
def zqd2_6_M (nx4:Int→HP) (τ:Tau) (H:Heap):Prop:=mP (τ 0) fun x0=>mI .i64 (τ 5) fun x5=>zqd2_6 nx4 Q E x0 x5 H
theorem zqd2_7ok (nx4:Int→HP):Ok Pr (zqd2_6_M Q E nx4) (sA (sI zqd2_p4)) (zqd2_q6 Q E nx4) E:=fun τ H h =>
  wP 0 h (fun x0 h=>wI 5 h (fun x5 h=>(conv (by kernel_rfl) h)))
theorem zqd2_8ok (nx4:Int→HP):Ok Pr (zqd2_6_M Q E nx4) (sI zqd2_p4) (xblock 1 (zqd2_q3 Q E nx4)) E:=fun τ H h =>
  (conv (by kernel_rfl) (vc_seq (K:=(zqd2_3_M Q E nx4)) (zqd2_7ok Q E nx4 τ H h) (zqd2_5ok Q E nx4)))
theorem zqd2_9ok (nx4:Int→HP):Ok Pr (zqd2_6_M Q E nx4) zqd2_p4 (zqd2_q3 Q E nx4) E:=fun τ H h =>
  (conv (by kernel_rfl) (zqd2_8ok Q E nx4 τ H h))
def zqd2_10 (Q:QT) (E:ET) (x0:OA) (x5:Int) (H:Heap):Prop :=
 ∃ (I:Int→HP) (μ:Int→Heap→Nat),I x5 H∧∀ (x5:Int) (H:Heap),I x5 H →
 zqd2_6 (fun x5' H1=>I x5' H1∧μ x5' H1 < μ x5 H) Q E x0 x5 H
def zqd2_10_M:Prop:=mP (τ 0) fun x0=>mI .i64 (τ 5) fun x5=>zqd2_10 Q E x0 x5 H
theorem zqd2_11ok :Ok Pr (zqd2_10_M Q E) (sI (sB (sB (bodyOf Try.f104)))) (xblock 0 (zqd2_q1 Q E)) E:=fun τ H h =>
  wP 0 h (fun x0 h=>wI 5 h (fun x5 h=>match h with | ⟨I,μ,h0,hr⟩=>(conv (by kernel_rfl) (vc_loopG (c:=sI (sI (sB (sB (bodyOf Try.f104))))) (τ:=(Tau.upd (Tau.upd τ 0 (.pointer x0)) 5 (.int .i64 x5))) [0] (fun τ H=>mI .i64 (τ 5) fun x5'=>I x5' H) (fun τ H=>μ (gI (τ 5)) H) (by kernel_rfl) h0 (fun τ1 H1 hf hI=>uF 0 (.pointer x0) (hf 0 (by simp)) (uI 5 hI (fun x5r h=>lgx (zqd2_9ok Q E (fun x5' H2=>I x5' H2∧μ x5' H2 < μ x5r H1) (Tau.upd (Tau.upd τ1 0 (.pointer x0)) 5 (.int .i64 x5r)) H1 (conv (by kernel_rfl) (hr x5r H1 h))) (fun τ2 H2 hk=>kI 5 hk (fun x5' h=>conv (by kernel_rfl) h)))))))))
theorem zqd2_12ok :Ok Pr (zqd2_10_M Q E) (sB (sB (bodyOf Try.f104))) (zqd2_q1 Q E) E:=fun τ H h =>
  (conv (by kernel_rfl) (zqd2_11ok Q E τ H h))
noncomputable def zqd2_q7 :XT:=(xthen (zqd2_10_M Q E) (zqd2_q1 Q E))
def zqd2_13 (Q:QT) (E:ET) (x0:OA) (x1:Int) (H:Heap):Prop :=
 Does Pr 106 #[(.pointer x0),(.int .u8 x1)] H (fun v20 H21 =>
 ∃ n22:Int,v20=(.int .i64 n22)∧zqd2_10 Q E x0 n22 H21) E
def zqd2_13_M:Prop:=mP (τ 0) fun x0=>mI .u8 (τ 1) fun x1=>zqd2_13 Q E x0 x1 H
theorem zqd2_14ok :Ok Pr (zqd2_13_M Q E) (sA (sB (bodyOf Try.f104))) (zqd2_q7 Q E) E:=fun τ H h =>
  wP 0 h (fun x0 h=>wI 1 h (fun x1 h=>(conv (by kernel_rfl) h)))
theorem zqd2_15ok :Ok Pr (zqd2_13_M Q E) (sB (bodyOf Try.f104)) (zqd2_q1 Q E) E:=fun τ H h =>
  (conv (by kernel_rfl) (vc_seq (K:=(zqd2_10_M Q E)) (zqd2_14ok Q E τ H h) (zqd2_12ok Q E)))
def zqd2 (Q:QT) (E:ET) (a0:OA) (a1:Int) (H:Heap):Prop :=
 zqd2_13 Q E a0 a1 H
theorem zqd2_fn (a0:OA) (a1:Int) (Q:QT) (E:ET) (H:Heap) (h:zqd2 Q E a0 a1 H)  :Does Pr 104 #[(.pointer a0),(.int .u8 a1)] H Q E :=
  Fn_of_vc (fn:=Try.f104) (c:=(bodyOf Try.f104)) (args:=[(.pointer a0),(.int .u8 a1)]) mixed (by kernel_rfl) (by kernel_rfl) (by kernel_rfl) (by kernel_rfl) (by kernel_rfl) ((conv (B:=vc Pr (bodyOf Try.f104) (argT [(.pointer a0),(.int .u8 a1)]) (zqd2_q1 Q E) E H) (by kernel_rfl) (vc_seq (K:=(zqd2_13_M Q E)) (conv (B:=vc Pr (sA (bodyOf Try.f104)) (argT [(.pointer a0),(.int .u8 a1)]) (xthen (zqd2_13_M Q E) (zqd2_q1 Q E)) E H) (by kernel_rfl) h) (zqd2_15ok Q E))))
noncomputable def zqe2_q1 (Q:QT) (E:ET) :XT:=(retQ Pr (Try.f106).results.toList Q)
noncomputable def zqe2_p1:Code:=sB (bodyOf Try.f106)
def zqe2_1 (Q:QT) (E:ET)  (H:Heap):Prop :=
 Q (.int .i64 0) H
def zqe2_1_M  (τ:Tau) (H:Heap):Prop:=zqe2_1 Q E  H
theorem zqe2_2ok :Ok Pr (zqe2_1_M Q E) (sB (sB zqe2_p1)) (zqe2_q1 Q E) E:=fun τ H h =>
  (conv (by kernel_rfl) h)
noncomputable def zqe2_q2 :XT:=(xthen (zqe2_1_M Q E) (zqe2_q1 Q E))
noncomputable def zqe2_q3 :XT:=(xblock 0 (zqe2_q2 Q E))
noncomputable def zqe2_p6:Code:=sI (sB (sA (sB zqe2_p1)))
def zqe2_3 (Q:QT) (E:ET) (x0:OA) (H:Heap):Prop :=
 Does Pr 112 #[(.string ⟨[10].toArray⟩)] H (fun v99 H100 =>
 ∃ n101 n102 n103 n104:Int,v99=(.agg #[(.int .u64 n101),(.int .u64 n102),(.int .u64 n103),(.int .u64 n104)])∧Does Pr 111 #[(.agg #[(.int .u64 n101),(.int .u64 n102),(.int .u64 n103),(.int .u64 n104)])] H100 (fun v105 H106 =>
 ∃ n107 n108 n109 n110:Int,v105=(.agg #[(.int .u64 n107),(.int .u64 n108),(.int .u64 n109),(.int .u64 n110)])∧Does Pr 95 #[(.pointer x0),(.agg #[(.int .i64 2),(.int .i64 0),(.int .i64 0),(.int .u64 n107),(.int .u64 n108),(.int .u64 n109),(.int .u64 n110)])] H106 (fun v111 H112 =>
 ∃ n113:Int,v111=(.int .i64 n113)∧Q (.int .i64 n113) H112) E) E) E
def zqe2_3_M:Prop:=mP (τ 0) fun x0=>zqe2_3 Q E x0 H
theorem zqe2_4ok :Ok Pr (zqe2_3_M Q E) (sT (sB zqe2_p6)) (zqe2_q3 Q E) E:=fun τ H h =>
  wP 0 h (fun x0 h=>(conv (by kernel_rfl) h))
noncomputable def zqe2_p10:Code:=sB (sE (sB zqe2_p6))
def zqe2_5 (Q:QT) (E:ET) (x0:OA) (H:Heap):Prop :=
 Does Pr 95 #[(.pointer x0),(.agg #[(.int .i64 8),(.int .i64 0),(.int .i64 0),(.int .u64 0),(.int .u64 0),(.int .u64 0),(.int .u64 0)])] H (fun v114 H115 =>
 ∃ n116:Int,v114=(.int .i64 n116)∧Q (.int .i64 n116) H115) E
def zqe2_5_M:Prop:=mP (τ 0) fun x0=>zqe2_5 Q E x0 H
theorem zqe2_6ok :Ok Pr (zqe2_5_M Q E) (sT zqe2_p10) (zqe2_q3 Q E) E:=fun τ H h =>
  wP 0 h (fun x0 h=>(conv (by kernel_rfl) h))
def zqe2_7 (Q:QT) (E:ET) (x0:OA) (H:Heap):Prop :=
 Does Pr 95 #[(.pointer x0),(.agg #[(.int .i64 9),(.int .i64 0),(.int .i64 0),(.int .u64 0),(.int .u64 0),(.int .u64 0),(.int .u64 0)])] H (fun v117 H118 =>
 ∃ n119:Int,v117=(.int .i64 n119)∧Q (.int .i64 n119) H118) E
def zqe2_7_M:Prop:=mP (τ 0) fun x0=>zqe2_7 Q E x0 H
theorem zqe2_8ok :Ok Pr (zqe2_7_M Q E) (sT (sB (sE zqe2_p10))) (zqe2_q3 Q E) E:=fun τ H h =>
  wP 0 h (fun x0 h=>(conv (by kernel_rfl) h))
noncomputable def zqe2_p15:Code:=sE (sB (sE zqe2_p10))
def zqe2_9 (Q:QT) (E:ET) (x0:OA) (H:Heap):Prop :=
 Does Pr 113 #[(.pointer x0)] H (fun v120 H121 =>
 ∃ n122 n123 n124 n125:Int,v120=(.agg #[(.int .u64 n122),(.int .u64 n123),(.int .u64 n124),(.int .u64 n125)])∧Does Pr 95 #[(.pointer x0),(.agg #[(.int .i64 2),(.int .i64 0),(.int .i64 0),(.int .u64 n122),(.int .u64 n123),(.int .u64 n124),(.int .u64 n125)])] H121 (fun v126 H127 =>
 ∃ n128:Int,v126=(.int .i64 n128)∧Q (.int .i64 n128) H127) E) E
def zqe2_9_M:Prop:=mP (τ 0) fun x0=>zqe2_9 Q E x0 H
theorem zqe2_10ok :Ok Pr (zqe2_9_M Q E) (sT (sB zqe2_p15)) (zqe2_q3 Q E) E:=fun τ H h =>
  wP 0 h (fun x0 h=>(conv (by kernel_rfl) h))
noncomputable def zqe2_p19:Code:=sB (sE (sB zqe2_p15))
def zqe2_11 (Q:QT) (E:ET) (x0:OA) (H:Heap):Prop :=
 Does Pr 103 #[(.pointer x0),(.int .i64 80)] H (fun v129 H130 =>
 ∃ n131:Int,v129=(.int .i64 n131)∧zqe2_1 Q E  H130) E
def zqe2_11_M:Prop:=mP (τ 0) fun x0=>zqe2_11 Q E x0 H
theorem zqe2_12ok :Ok Pr (zqe2_11_M Q E) (sT zqe2_p19) (zqe2_q3 Q E) E:=fun τ H h =>
  wP 0 h (fun x0 h=>(conv (by kernel_rfl) h))
def zqe2_13 (Q:QT) (E:ET) (x0:OA) (H:Heap):Prop :=
 Does Pr 103 #[(.pointer x0),(.int .i64 81)] H (fun v132 H133 =>
 ∃ n134:Int,v132=(.int .i64 n134)∧zqe2_1 Q E  H133) E
def zqe2_13_M:Prop:=mP (τ 0) fun x0=>zqe2_13 Q E x0 H
theorem zqe2_14ok :Ok Pr (zqe2_13_M Q E) (sT (sB (sE zqe2_p19))) (zqe2_q3 Q E) E:=fun τ H h =>
  wP 0 h (fun x0 h=>(conv (by kernel_rfl) h))
noncomputable def zqe2_p24:Code:=sE (sB (sE zqe2_p19))
def zqe2_15 (Q:QT) (E:ET) (x0:OA) (H:Heap):Prop :=
 ptr x0 fun q135 =>
 ldI .i64 (Addr.add q135 1) H fun n136 =>
 ptr x0 fun q137 =>
 wr (Addr.add q137 1) [(.int .i64 (IntKind.wrap .i64 (n136 - 1)))] H fun H138 =>
 Does Pr 114 #[(.pointer x0)] H138 (fun v139 H140 =>
 ∃ n141 n142 n143 n144 n145:Int,∃ b146:Bool,v139=(.tuple #[(.int .u8 n141),(.agg #[(.int .u64 n142),(.int .u64 n143),(.int .u64 n144),(.int .u64 n145)]),(.bool b146)])∧nw (.cells #[(.int .u64 0),(.int .u64 0),(.int .u64 0),(.int .u64 0)] 46 (0,0)) H140 fun i147 H148 =>
 wr ⟨i147,0,none⟩ [(.int .u64 n142),(.int .u64 n143),(.int .u64 n144),(.int .u64 n145)] H148 fun H149 =>
 ∃ n150 n151 n152 n153:Int,Heap.rd H149 ⟨i147,0,none⟩ 0 [(.int .u64 n150),(.int .u64 n151),(.int .u64 n152),(.int .u64 n153)]∧Does Pr 95 #[(.pointer x0),(.agg #[(.int .i64 2),(.int .i64 0),(.int .i64 0),(.int .u64 n150),(.int .u64 n151),(.int .u64 n152),(.int .u64 n153)])] H149 (fun v154 H155 =>
 ∃ n156:Int,v154=(.int .i64 n156)∧Q (.int .i64 n156) H155) E) E
def zqe2_15_M:Prop:=mP (τ 0) fun x0=>zqe2_15 Q E x0 H
theorem zqe2_16ok :Ok Pr (zqe2_15_M Q E) (sT (sB zqe2_p24)) (zqe2_q3 Q E) E:=fun τ H h =>
  wP 0 h (fun x0 h=>(conv (by kernel_rfl) h))
noncomputable def zqe2_p28:Code:=sB (sE (sB zqe2_p24))
def zqe2_17 (Q:QT) (E:ET) (x0:OA) (x8:Int) (H:Heap):Prop :=
 ptr x0 fun q180 =>
 ldI .i64 (Addr.add q180 2) H fun n181 =>
 ptr x0 fun q182 =>
 wr (Addr.add q182 2) [(.int .i64 (IntKind.wrap .i64 (n181 - 1)))] H fun H183 =>
 Q (.int .i64 x8) H183
def zqe2_17_M:Prop:=mP (τ 0) fun x0=>mI .i64 (τ 8) fun x8=>zqe2_17 Q E x0 x8 H
theorem zqe2_18ok :Ok Pr (zqe2_17_M Q E) (sB (sB (sB (sT zqe2_p28)))) (zqe2_q3 Q E) E:=fun τ H h =>
  wP 0 h (fun x0 h=>wI 8 h (fun x8 h=>(conv (by kernel_rfl) h)))
noncomputable def zqe2_q4 :XT:=(xthen (zqe2_17_M Q E) (zqe2_q3 Q E))
noncomputable def zqe2_p33:Code:=sA (sB (sB (sT zqe2_p28)))
def zqe2_19 (Q:QT) (E:ET) (x0:OA) (x8:Int) (x106:Bool) (H:Heap):Prop :=
 sel x106
 (ptr x0 fun q188 =>
 ldI .i64 (Addr.add q188 1) H fun n189 =>
 ptr x0 fun q190 =>
 wr (Addr.add q190 1) [(.int .i64 (IntKind.wrap .i64 (n189+1)))] H fun H191 =>
 zqe2_17 Q E x0 x8 H191)
 (Does Pr 103 #[(.pointer x0),(.int .i64 83)] H (fun v192 H193 =>
 ∃ n194:Int,v192=(.int .i64 n194)∧zqe2_17 Q E x0 x8 H193) E)
def zqe2_19_M:Prop:=mP (τ 0) fun x0=>mI .i64 (τ 8) fun x8=>mB (τ 106) fun x106=>zqe2_19 Q E x0 x8 x106 H
theorem zqe2_20ok :Ok Pr (zqe2_19_M Q E) (sB (sB zqe2_p33)) (zqe2_q4 Q E) E:=fun τ H h =>
  wP 0 h (fun x0 h=>wI 8 h (fun x8 h=>wB 106 h (fun x106 h=>(conv (by kernel_rfl) h))))
noncomputable def zqe2_q5 :XT:=(xthen (zqe2_19_M Q E) (zqe2_q4 Q E))
def zqe2_21 (Q:QT) (E:ET) (x0:OA) (x8 x9:Int) (x10:Bool) (H:Heap):Prop :=
 sel x10
 (zqe2_19 Q E x0 x8 (x9 == 41) H)
 (zqe2_19 Q E x0 x8 false H)
def zqe2_21_M:Prop:=mP (τ 0) fun x0=>mI .i64 (τ 8) fun x8=>mI .u8 (τ 9) fun x9=>mB (τ 10) fun x10=>zqe2_21 Q E x0 x8 x9 x10 H
theorem zqe2_22ok :Ok Pr (zqe2_21_M Q E) (sA (sB zqe2_p33)) (zqe2_q5 Q E) E:=fun τ H h =>
  wP 0 h (fun x0 h=>wI 8 h (fun x8 h=>wI 9 h (fun x9 h=>wB 10 h (fun x10 h=>(conv (by kernel_rfl) h)))))
theorem zqe2_23ok :Ok Pr (zqe2_21_M Q E) (sB zqe2_p33) (zqe2_q4 Q E) E:=fun τ H h =>
  (conv (by kernel_rfl) (vc_seq (K:=(zqe2_19_M Q E)) (zqe2_22ok Q E τ H h) (zqe2_20ok Q E)))
noncomputable def zqe2_q6 :XT:=(xthen (zqe2_21_M Q E) (zqe2_q4 Q E))
def zqe2_24 (Q:QT) (E:ET) (x0:OA) (x8:Int) (H:Heap):Prop :=
 Does Pr 94 #[(.pointer x0)] H (fun v195 H196 =>
 ∃ n197:Int,∃ b198:Bool,v195=(.tuple #[(.int .u8 n197),(.bool b198)])∧zqe2_21 Q E x0 x8 n197 b198 H196) E
def zqe2_24_M:Prop:=mP (τ 0) fun x0=>mI .i64 (τ 8) fun x8=>zqe2_24 Q E x0 x8 H
theorem zqe2_25ok :Ok Pr (zqe2_24_M Q E) (sA zqe2_p33) (zqe2_q6 Q E) E:=fun τ H h =>
  wP 0 h (fun x0 h=>wI 8 h (fun x8 h=>(conv (by kernel_rfl) h)))
theorem zqe2_26ok :Ok Pr (zqe2_24_M Q E) zqe2_p33 (zqe2_q4 Q E) E:=fun τ H h =>
  (conv (by kernel_rfl) (vc_seq (K:=(zqe2_21_M Q E)) (zqe2_25ok Q E τ H h) (zqe2_23ok Q E)))
theorem zqe2_27ok :Ok Pr (zqe2_24_M Q E) (sB (sB (sT zqe2_p28))) (zqe2_q3 Q E) E:=fun τ H h =>
  (conv (by kernel_rfl) (vc_seq (K:=(zqe2_17_M Q E)) (zqe2_26ok Q E τ H h) (zqe2_18ok Q E)))
def zqe2_28 (Q:QT) (E:ET) (x0:OA) (H:Heap):Prop :=
 Does Pr 60 #[(.pointer x0)] H (fun v199 H200 =>
 ∃ n201:Int,v199=(.int .i64 n201)∧zqe2_24 Q E x0 n201 H200) E
def zqe2_28_M:Prop:=mP (τ 0) fun x0=>zqe2_28 Q E x0 H
theorem zqe2_29ok :Ok Pr (zqe2_28_M Q E) (sA (sB (sT zqe2_p28))) (xthen (zqe2_24_M Q E) (zqe2_q3 Q E)) E:=fun τ H h =>
  wP 0 h (fun x0 h=>(conv (by kernel_rfl) h))
theorem zqe2_30ok :Ok Pr (zqe2_28_M Q E) (sB (sT zqe2_p28)) (zqe2_q3 Q E) E:=fun τ H h =>
  (conv (by kernel_rfl) (vc_seq (K:=(zqe2_24_M Q E)) (zqe2_29ok Q E τ H h) (zqe2_27ok Q E)))
def zqe2_31 (Q:QT) (E:ET) (x0:OA) (H:Heap):Prop :=
 ptr x0 fun q202 =>
 ldI .i64 (Addr.add q202 2) H fun n203 =>
 ptr x0 fun q204 =>
 wr (Addr.add q204 2) [(.int .i64 (IntKind.wrap .i64 (n203+1)))] H fun H205 =>
 ptr x0 fun q206 =>
 ldI .i64 (Addr.add q206 2) H205 fun n207 =>
 sel (decide (n207 > 24))
 (Does Pr 103 #[(.pointer x0),(.int .i64 84)] H205 (fun v208 H209 =>
 ∃ n210:Int,v208=(.int .i64 n210)∧Q (.int .i64 0) H209) E)
 (zqe2_28 Q E x0 H205)
def zqe2_31_M:Prop:=mP (τ 0) fun x0=>zqe2_31 Q E x0 H
theorem zqe2_32ok :Ok Pr (zqe2_31_M Q E) (sA (sT zqe2_p28)) (xthen (zqe2_28_M Q E) (zqe2_q3 Q E)) E:=fun τ H h =>
  wP 0 h (fun x0 h=>(conv (by kernel_rfl) h))
theorem zqe2_33ok :Ok Pr (zqe2_31_M Q E) (sT zqe2_p28) (zqe2_q3 Q E) E:=fun τ H h =>
  (conv (by kernel_rfl) (vc_seq (K:=(zqe2_28_M Q E)) (zqe2_32ok Q E τ H h) (zqe2_30ok Q E)))
def zqe2_34 (Q:QT) (E:ET) (x0:OA) (x1:Int) (H:Heap):Prop :=
 Does Pr 115 #[(.agg #[(.int .u64 0),(.int .u64 0),(.int .u64 0),(.int .u64 0)]),(.int .u8 x1),(.int .u8 x1)] H (fun v211 H212 =>
 ∃ n213 n214 n215 n216:Int,v211=(.agg #[(.int .u64 n213),(.int .u64 n214),(.int .u64 n215),(.int .u64 n216)])∧Does Pr 95 #[(.pointer x0),(.agg #[(.int .i64 2),(.int .i64 0),(.int .i64 0),(.int .u64 n213),(.int .u64 n214),(.int .u64 n215),(.int .u64 n216)])] H212 (fun v217 H218 =>
 ∃ n219:Int,v217=(.int .i64 n219)∧Q (.int .i64 n219) H218) E) E
def zqe2_34_M:Prop:=mP (τ 0) fun x0=>mI .u8 (τ 1) fun x1=>zqe2_34 Q E x0 x1 H
theorem zqe2_35ok :Ok Pr (zqe2_34_M Q E) (sE zqe2_p28) (zqe2_q3 Q E) E:=fun τ H h =>
  wP 0 h (fun x0 h=>wI 1 h (fun x1 h=>(conv (by kernel_rfl) h)))
def zqe2_36 (Q:QT) (E:ET) (x0:OA) (x1:Int) (x79:Bool) (H:Heap):Prop :=
 sel x79
 (zqe2_31 Q E x0 H)
 (zqe2_34 Q E x0 x1 H)
def zqe2_36_M:Prop:=mP (τ 0) fun x0=>mI .u8 (τ 1) fun x1=>mB (τ 79) fun x79=>zqe2_36 Q E x0 x1 x79 H
theorem zqe2_37ok :Ok Pr (zqe2_36_M Q E) zqe2_p28 (zqe2_q3 Q E) E:=fun τ H h =>
  wP 0 h (fun x0 h=>wI 1 h (fun x1 h=>wB 79 h (fun x79 h=>(conv (by kernel_rfl) (sel_mapT (b:=x79) (τ:=(Tau.upd (Tau.upd (Tau.upd τ 0 (.pointer x0)) 1 (.int .u8 x1)) 79 (.bool x79))) (H:=H) (zqe2_33ok Q E) (zqe2_35ok Q E) (conv (by kernel_rfl) h))))))
noncomputable def zqe2_q9 :XT:=(xthen (zqe2_36_M Q E) (zqe2_q3 Q E))
def zqe2_38 (Q:QT) (E:ET) (x0:OA) (x1 x18:Int) (H:Heap):Prop :=
 zqe2_36 Q E x0 x1 (x18 == 40) H
def zqe2_38_M:Prop:=mP (τ 0) fun x0=>mI .u8 (τ 1) fun x1=>mI .u8 (τ 18) fun x18=>zqe2_38 Q E x0 x1 x18 H
theorem zqe2_39ok :Ok Pr (zqe2_38_M Q E) (sA (sE (sB zqe2_p24))) (zqe2_q9 Q E) E:=fun τ H h =>
  wP 0 h (fun x0 h=>wI 1 h (fun x1 h=>wI 18 h (fun x18 h=>(conv (by kernel_rfl) h))))
theorem zqe2_40ok :Ok Pr (zqe2_38_M Q E) (sE (sB zqe2_p24)) (zqe2_q3 Q E) E:=fun τ H h =>
  (conv (by kernel_rfl) (vc_seq (K:=(zqe2_36_M Q E)) (zqe2_39ok Q E τ H h) (zqe2_37ok Q E)))
def zqe2_41 (Q:QT) (E:ET) (x0:OA) (x1 x18:Int) (x60:Bool) (H:Heap):Prop :=
 sel x60
 (zqe2_15 Q E x0 H)
 (zqe2_38 Q E x0 x1 x18 H)
def zqe2_41_M:Prop:=mP (τ 0) fun x0=>mI .u8 (τ 1) fun x1=>mI .u8 (τ 18) fun x18=>mB (τ 60) fun x60=>zqe2_41 Q E x0 x1 x18 x60 H
theorem zqe2_42ok :Ok Pr (zqe2_41_M Q E) (sB zqe2_p24) (zqe2_q3 Q E) E:=fun τ H h =>
  wP 0 h (fun x0 h=>wI 1 h (fun x1 h=>wI 18 h (fun x18 h=>wB 60 h (fun x60 h=>(conv (by kernel_rfl) (sel_mapT (b:=x60) (τ:=(Tau.upd (Tau.upd (Tau.upd (Tau.upd τ 0 (.pointer x0)) 1 (.int .u8 x1)) 18 (.int .u8 x18)) 60 (.bool x60))) (H:=H) (zqe2_16ok Q E) (zqe2_40ok Q E) (conv (by kernel_rfl) h)))))))
noncomputable def zqe2_q10 :XT:=(xthen (zqe2_41_M Q E) (zqe2_q3 Q E))
def zqe2_43 (Q:QT) (E:ET) (x0:OA) (x1 x18:Int) (H:Heap):Prop :=
 zqe2_41 Q E x0 x1 x18 (x18 == 92) H
def zqe2_43_M:Prop:=mP (τ 0) fun x0=>mI .u8 (τ 1) fun x1=>mI .u8 (τ 18) fun x18=>zqe2_43 Q E x0 x1 x18 H
theorem zqe2_44ok :Ok Pr (zqe2_43_M Q E) (sA zqe2_p24) (zqe2_q10 Q E) E:=fun τ H h =>
  wP 0 h (fun x0 h=>wI 1 h (fun x1 h=>wI 18 h (fun x18 h=>(conv (by kernel_rfl) h))))
theorem zqe2_45ok :Ok Pr (zqe2_43_M Q E) zqe2_p24 (zqe2_q3 Q E) E:=fun τ H h =>
  (conv (by kernel_rfl) (vc_seq (K:=(zqe2_41_M Q E)) (zqe2_44ok Q E τ H h) (zqe2_42ok Q E)))
def zqe2_46 (Q:QT) (E:ET) (x0:OA) (x1 x18:Int) (x54:Bool) (H:Heap):Prop :=
 sel x54
 (zqe2_13 Q E x0 H)
 (zqe2_43 Q E x0 x1 x18 H)
def zqe2_46_M:Prop:=mP (τ 0) fun x0=>mI .u8 (τ 1) fun x1=>mI .u8 (τ 18) fun x18=>mB (τ 54) fun x54=>zqe2_46 Q E x0 x1 x18 x54 H
theorem zqe2_47ok :Ok Pr (zqe2_46_M Q E) (sB (sE zqe2_p19)) (zqe2_q3 Q E) E:=fun τ H h =>
  wP 0 h (fun x0 h=>wI 1 h (fun x1 h=>wI 18 h (fun x18 h=>wB 54 h (fun x54 h=>(conv (by kernel_rfl) (sel_mapT (b:=x54) (τ:=(Tau.upd (Tau.upd (Tau.upd (Tau.upd τ 0 (.pointer x0)) 1 (.int .u8 x1)) 18 (.int .u8 x18)) 54 (.bool x54))) (H:=H) (zqe2_14ok Q E) (zqe2_45ok Q E) (conv (by kernel_rfl) h)))))))
noncomputable def zqe2_q11 :XT:=(xthen (zqe2_46_M Q E) (zqe2_q3 Q E))
def zqe2_48 (Q:QT) (E:ET) (x0:OA) (x1 x18:Int) (H:Heap):Prop :=
 sel (x18 == 42)
 (zqe2_46 Q E x0 x1 x18 (x18 == 42) H)
 (sel (x18 == 43)
 (zqe2_46 Q E x0 x1 x18 (x18 == 43) H)
 (zqe2_46 Q E x0 x1 x18 (x18 == 63) H))
def zqe2_48_M:Prop:=mP (τ 0) fun x0=>mI .u8 (τ 1) fun x1=>mI .u8 (τ 18) fun x18=>zqe2_48 Q E x0 x1 x18 H
theorem zqe2_49ok :Ok Pr (zqe2_48_M Q E) (sA (sE zqe2_p19)) (zqe2_q11 Q E) E:=fun τ H h =>
  wP 0 h (fun x0 h=>wI 1 h (fun x1 h=>wI 18 h (fun x18 h=>(conv (by kernel_rfl) h))))
theorem zqe2_50ok :Ok Pr (zqe2_48_M Q E) (sE zqe2_p19) (zqe2_q3 Q E) E:=fun τ H h =>
  (conv (by kernel_rfl) (vc_seq (K:=(zqe2_46_M Q E)) (zqe2_49ok Q E τ H h) (zqe2_47ok Q E)))
def zqe2_51 (Q:QT) (E:ET) (x0:OA) (x1 x18:Int) (x50:Bool) (H:Heap):Prop :=
 sel x50
 (zqe2_11 Q E x0 H)
 (zqe2_48 Q E x0 x1 x18 H)
def zqe2_51_M:Prop:=mP (τ 0) fun x0=>mI .u8 (τ 1) fun x1=>mI .u8 (τ 18) fun x18=>mB (τ 50) fun x50=>zqe2_51 Q E x0 x1 x18 x50 H
theorem zqe2_52ok :Ok Pr (zqe2_51_M Q E) zqe2_p19 (zqe2_q3 Q E) E:=fun τ H h =>
  wP 0 h (fun x0 h=>wI 1 h (fun x1 h=>wI 18 h (fun x18 h=>wB 50 h (fun x50 h=>(conv (by kernel_rfl) (sel_mapT (b:=x50) (τ:=(Tau.upd (Tau.upd (Tau.upd (Tau.upd τ 0 (.pointer x0)) 1 (.int .u8 x1)) 18 (.int .u8 x18)) 50 (.bool x50))) (H:=H) (zqe2_12ok Q E) (zqe2_50ok Q E) (conv (by kernel_rfl) h)))))))
noncomputable def zqe2_q12 :XT:=(xthen (zqe2_51_M Q E) (zqe2_q3 Q E))
def zqe2_53 (Q:QT) (E:ET) (x0:OA) (x1 x18:Int) (H:Heap):Prop :=
 zqe2_51 Q E x0 x1 x18 (x18 == 93) H
def zqe2_53_M:Prop:=mP (τ 0) fun x0=>mI .u8 (τ 1) fun x1=>mI .u8 (τ 18) fun x18=>zqe2_53 Q E x0 x1 x18 H
theorem zqe2_54ok :Ok Pr (zqe2_53_M Q E) (sA (sE (sB zqe2_p15))) (zqe2_q12 Q E) E:=fun τ H h =>
  wP 0 h (fun x0 h=>wI 1 h (fun x1 h=>wI 18 h (fun x18 h=>(conv (by kernel_rfl) h))))
theorem zqe2_55ok :Ok Pr (zqe2_53_M Q E) (sE (sB zqe2_p15)) (zqe2_q3 Q E) E:=fun τ H h =>
  (conv (by kernel_rfl) (vc_seq (K:=(zqe2_51_M Q E)) (zqe2_54ok Q E τ H h) (zqe2_52ok Q E)))
def zqe2_56 (Q:QT) (E:ET) (x0:OA) (x1 x18:Int) (x43:Bool) (H:Heap):Prop :=
 sel x43
 (zqe2_9 Q E x0 H)
 (zqe2_53 Q E x0 x1 x18 H)
def zqe2_56_M:Prop:=mP (τ 0) fun x0=>mI .u8 (τ 1) fun x1=>mI .u8 (τ 18) fun x18=>mB (τ 43) fun x43=>zqe2_56 Q E x0 x1 x18 x43 H
theorem zqe2_57ok :Ok Pr (zqe2_56_M Q E) (sB zqe2_p15) (zqe2_q3 Q E) E:=fun τ H h =>
  wP 0 h (fun x0 h=>wI 1 h (fun x1 h=>wI 18 h (fun x18 h=>wB 43 h (fun x43 h=>(conv (by kernel_rfl) (sel_mapT (b:=x43) (τ:=(Tau.upd (Tau.upd (Tau.upd (Tau.upd τ 0 (.pointer x0)) 1 (.int .u8 x1)) 18 (.int .u8 x18)) 43 (.bool x43))) (H:=H) (zqe2_10ok Q E) (zqe2_55ok Q E) (conv (by kernel_rfl) h)))))))
noncomputable def zqe2_q13 :XT:=(xthen (zqe2_56_M Q E) (zqe2_q3 Q E))
def zqe2_58 (Q:QT) (E:ET) (x0:OA) (x1 x18:Int) (H:Heap):Prop :=
 zqe2_56 Q E x0 x1 x18 (x18 == 91) H
def zqe2_58_M:Prop:=mP (τ 0) fun x0=>mI .u8 (τ 1) fun x1=>mI .u8 (τ 18) fun x18=>zqe2_58 Q E x0 x1 x18 H
theorem zqe2_59ok :Ok Pr (zqe2_58_M Q E) (sA zqe2_p15) (zqe2_q13 Q E) E:=fun τ H h =>
  wP 0 h (fun x0 h=>wI 1 h (fun x1 h=>wI 18 h (fun x18 h=>(conv (by kernel_rfl) h))))
theorem zqe2_60ok :Ok Pr (zqe2_58_M Q E) zqe2_p15 (zqe2_q3 Q E) E:=fun τ H h =>
  (conv (by kernel_rfl) (vc_seq (K:=(zqe2_56_M Q E)) (zqe2_59ok Q E τ H h) (zqe2_57ok Q E)))
def zqe2_61 (Q:QT) (E:ET) (x0:OA) (x1 x18:Int) (x38:Bool) (H:Heap):Prop :=
 sel x38
 (zqe2_7 Q E x0 H)
 (zqe2_58 Q E x0 x1 x18 H)
def zqe2_61_M:Prop:=mP (τ 0) fun x0=>mI .u8 (τ 1) fun x1=>mI .u8 (τ 18) fun x18=>mB (τ 38) fun x38=>zqe2_61 Q E x0 x1 x18 x38 H
theorem zqe2_62ok :Ok Pr (zqe2_61_M Q E) (sB (sE zqe2_p10)) (zqe2_q3 Q E) E:=fun τ H h =>
  wP 0 h (fun x0 h=>wI 1 h (fun x1 h=>wI 18 h (fun x18 h=>wB 38 h (fun x38 h=>(conv (by kernel_rfl) (sel_mapT (b:=x38) (τ:=(Tau.upd (Tau.upd (Tau.upd (Tau.upd τ 0 (.pointer x0)) 1 (.int .u8 x1)) 18 (.int .u8 x18)) 38 (.bool x38))) (H:=H) (zqe2_8ok Q E) (zqe2_60ok Q E) (conv (by kernel_rfl) h)))))))
noncomputable def zqe2_q14 :XT:=(xthen (zqe2_61_M Q E) (zqe2_q3 Q E))
def zqe2_63 (Q:QT) (E:ET) (x0:OA) (x1 x18:Int) (H:Heap):Prop :=
 zqe2_61 Q E x0 x1 x18 (x18 == 36) H
def zqe2_63_M:Prop:=mP (τ 0) fun x0=>mI .u8 (τ 1) fun x1=>mI .u8 (τ 18) fun x18=>zqe2_63 Q E x0 x1 x18 H
theorem zqe2_64ok :Ok Pr (zqe2_63_M Q E) (sA (sE zqe2_p10)) (zqe2_q14 Q E) E:=fun τ H h =>
  wP 0 h (fun x0 h=>wI 1 h (fun x1 h=>wI 18 h (fun x18 h=>(conv (by kernel_rfl) h))))
theorem zqe2_65ok :Ok Pr (zqe2_63_M Q E) (sE zqe2_p10) (zqe2_q3 Q E) E:=fun τ H h =>
  (conv (by kernel_rfl) (vc_seq (K:=(zqe2_61_M Q E)) (zqe2_64ok Q E τ H h) (zqe2_62ok Q E)))
def zqe2_66 (Q:QT) (E:ET) (x0:OA) (x1 x18:Int) (x33:Bool) (H:Heap):Prop :=
 sel x33
 (zqe2_5 Q E x0 H)
 (zqe2_63 Q E x0 x1 x18 H)
def zqe2_66_M:Prop:=mP (τ 0) fun x0=>mI .u8 (τ 1) fun x1=>mI .u8 (τ 18) fun x18=>mB (τ 33) fun x33=>zqe2_66 Q E x0 x1 x18 x33 H
theorem zqe2_67ok :Ok Pr (zqe2_66_M Q E) zqe2_p10 (zqe2_q3 Q E) E:=fun τ H h =>
  wP 0 h (fun x0 h=>wI 1 h (fun x1 h=>wI 18 h (fun x18 h=>wB 33 h (fun x33 h=>(conv (by kernel_rfl) (sel_mapT (b:=x33) (τ:=(Tau.upd (Tau.upd (Tau.upd (Tau.upd τ 0 (.pointer x0)) 1 (.int .u8 x1)) 18 (.int .u8 x18)) 33 (.bool x33))) (H:=H) (zqe2_6ok Q E) (zqe2_65ok Q E) (conv (by kernel_rfl) h)))))))
noncomputable def zqe2_q15 :XT:=(xthen (zqe2_66_M Q E) (zqe2_q3 Q E))
def zqe2_68 (Q:QT) (E:ET) (x0:OA) (x1 x18:Int) (H:Heap):Prop :=
 zqe2_66 Q E x0 x1 x18 (x18 == 94) H
def zqe2_68_M:Prop:=mP (τ 0) fun x0=>mI .u8 (τ 1) fun x1=>mI .u8 (τ 18) fun x18=>zqe2_68 Q E x0 x1 x18 H
theorem zqe2_69ok :Ok Pr (zqe2_68_M Q E) (sA (sE (sB zqe2_p6))) (zqe2_q15 Q E) E:=fun τ H h =>
  wP 0 h (fun x0 h=>wI 1 h (fun x1 h=>wI 18 h (fun x18 h=>(conv (by kernel_rfl) h))))
theorem zqe2_70ok :Ok Pr (zqe2_68_M Q E) (sE (sB zqe2_p6)) (zqe2_q3 Q E) E:=fun τ H h =>
  (conv (by kernel_rfl) (vc_seq (K:=(zqe2_66_M Q E)) (zqe2_69ok Q E τ H h) (zqe2_67ok Q E)))
def zqe2_71 (Q:QT) (E:ET) (x0:OA) (x1 x18:Int) (x26:Bool) (H:Heap):Prop :=
 sel x26
 (zqe2_3 Q E x0 H)
 (zqe2_68 Q E x0 x1 x18 H)
def zqe2_71_M:Prop:=mP (τ 0) fun x0=>mI .u8 (τ 1) fun x1=>mI .u8 (τ 18) fun x18=>mB (τ 26) fun x26=>zqe2_71 Q E x0 x1 x18 x26 H
theorem zqe2_72ok :Ok Pr (zqe2_71_M Q E) (sB zqe2_p6) (zqe2_q3 Q E) E:=fun τ H h =>
  wP 0 h (fun x0 h=>wI 1 h (fun x1 h=>wI 18 h (fun x18 h=>wB 26 h (fun x26 h=>(conv (by kernel_rfl) (sel_mapT (b:=x26) (τ:=(Tau.upd (Tau.upd (Tau.upd (Tau.upd τ 0 (.pointer x0)) 1 (.int .u8 x1)) 18 (.int .u8 x18)) 26 (.bool x26))) (H:=H) (zqe2_4ok Q E) (zqe2_70ok Q E) (conv (by kernel_rfl) h)))))))
noncomputable def zqe2_q16 :XT:=(xthen (zqe2_71_M Q E) (zqe2_q3 Q E))
def zqe2_73 (Q:QT) (E:ET) (x0:OA) (x1 x18:Int) (H:Heap):Prop :=
 zqe2_71 Q E x0 x1 x18 (x18 == 46) H
def zqe2_73_M:Prop:=mP (τ 0) fun x0=>mI .u8 (τ 1) fun x1=>mI .u8 (τ 18) fun x18=>zqe2_73 Q E x0 x1 x18 H
theorem zqe2_74ok :Ok Pr (zqe2_73_M Q E) (sA zqe2_p6) (zqe2_q16 Q E) E:=fun τ H h =>
  wP 0 h (fun x0 h=>wI 1 h (fun x1 h=>wI 18 h (fun x18 h=>(conv (by kernel_rfl) h))))
theorem zqe2_75ok :Ok Pr (zqe2_73_M Q E) zqe2_p6 (zqe2_q3 Q E) E:=fun τ H h =>
  (conv (by kernel_rfl) (vc_seq (K:=(zqe2_71_M Q E)) (zqe2_74ok Q E τ H h) (zqe2_72ok Q E)))
theorem zqe2_76ok :Ok Pr (zqe2_73_M Q E) (sB (sA (sB zqe2_p1))) (zqe2_q2 Q E) E:=fun τ H h =>
  (conv (by kernel_rfl) (zqe2_75ok Q E τ H h))
noncomputable def zqe2_q17 :XT:=(xthen (zqe2_73_M Q E) (zqe2_q2 Q E))
def zqe2_77 (Q:QT) (E:ET) (x0:OA) (x1:Int) (H:Heap):Prop :=
 zqe2_73 Q E x0 x1 x1 H
def zqe2_77_M:Prop:=mP (τ 0) fun x0=>mI .u8 (τ 1) fun x1=>zqe2_77 Q E x0 x1 H
theorem zqe2_78ok :Ok Pr (zqe2_77_M Q E) (sA (sA (sB zqe2_p1))) (zqe2_q17 Q E) E:=fun τ H h =>
  wP 0 h (fun x0 h=>wI 1 h (fun x1 h=>(conv (by kernel_rfl) h)))
theorem zqe2_79ok :Ok Pr (zqe2_77_M Q E) (sA (sB zqe2_p1)) (zqe2_q2 Q E) E:=fun τ H h =>
  (conv (by kernel_rfl) (vc_seq (K:=(zqe2_73_M Q E)) (zqe2_78ok Q E τ H h) (zqe2_76ok Q E)))
theorem zqe2_80ok :Ok Pr (zqe2_77_M Q E) (sB zqe2_p1) (zqe2_q1 Q E) E:=fun τ H h =>
  (conv (by kernel_rfl) (vc_seq (K:=(zqe2_1_M Q E)) (zqe2_79ok Q E τ H h) (zqe2_2ok Q E)))
noncomputable def zqe2_q18 :XT:=(xthen (zqe2_77_M Q E) (zqe2_q1 Q E))
def zqe2_81 (Q:QT) (E:ET) (x0:OA) (x1:Int) (H:Heap):Prop :=
 ptr x0 fun q220 =>
 ldI .i64 (Addr.add q220 1) H fun n221 =>
 ptr x0 fun q222 =>
 wr (Addr.add q222 1) [(.int .i64 (IntKind.wrap .i64 (n221+1)))] H fun H223 =>
 zqe2_77 Q E x0 x1 H223
def zqe2_81_M:Prop:=mP (τ 0) fun x0=>mI .u8 (τ 1) fun x1=>zqe2_81 Q E x0 x1 H
theorem zqe2_82ok :Ok Pr (zqe2_81_M Q E) (sA zqe2_p1) (zqe2_q18 Q E) E:=fun τ H h =>
  wP 0 h (fun x0 h=>wI 1 h (fun x1 h=>(conv (by kernel_rfl) h)))
theorem zqe2_83ok :Ok Pr (zqe2_81_M Q E) zqe2_p1 (zqe2_q1 Q E) E:=fun τ H h =>
  (conv (by kernel_rfl) (vc_seq (K:=(zqe2_77_M Q E)) (zqe2_82ok Q E τ H h) (zqe2_80ok Q E)))
def zqe2 (Q:QT) (E:ET) (a0:OA) (a1:Int) (H:Heap):Prop :=
 zqe2_81 Q E a0 a1 H
theorem zqe2_fn (a0:OA) (a1:Int) (Q:QT) (E:ET) (H:Heap) (h:zqe2 Q E a0 a1 H)  :Does Pr 106 #[(.pointer a0),(.int .u8 a1)] H Q E :=
  Fn_of_vc (fn:=Try.f106) (c:=(bodyOf Try.f106)) (args:=[(.pointer a0),(.int .u8 a1)]) mixed (by kernel_rfl) (by kernel_rfl) (by kernel_rfl) (by kernel_rfl) (by kernel_rfl) ((conv (B:=vc Pr (bodyOf Try.f106) (argT [(.pointer a0),(.int .u8 a1)]) (zqe2_q1 Q E) E H) (by kernel_rfl) (vc_seq (K:=(zqe2_81_M Q E)) (conv (B:=vc Pr (sA (bodyOf Try.f106)) (argT [(.pointer a0),(.int .u8 a1)]) (xthen (zqe2_81_M Q E) (zqe2_q1 Q E)) E H) (by kernel_rfl) h) (zqe2_83ok Q E))))
noncomputable def zqf2_q1 (Q:QT) (E:ET) :XT:=(retQ Pr (Try.f111).results.toList Q)
def zqf2_1 (Q:QT) (E:ET) (x1 x2:OA) (H:Heap):Prop :=
 ptr x1 fun q7 =>
 ∃ n8 n9 n10 n11:Int,Heap.rd H q7 0 [(.int .u64 n8),(.int .u64 n9),(.int .u64 n10),(.int .u64 n11)]∧ptr x2 fun q13 =>
 wr q13 [(.int .u64 n8),(.int .u64 n9),(.int .u64 n10),(.int .u64 n11)] H fun H12 =>
 ptr x2 fun q14 =>
 ∃ n15 n16 n17 n18:Int,Heap.rd H12 q14 0 [(.int .u64 n15),(.int .u64 n16),(.int .u64 n17),(.int .u64 n18)]∧Q (.agg #[(.int .u64 n15),(.int .u64 n16),(.int .u64 n17),(.int .u64 n18)]) H12
def zqf2_1_M:Prop:=mP (τ 1) fun x1=>mP (τ 2) fun x2=>zqf2_1 Q E x1 x2 H
theorem zqf2_2ok :Ok Pr (zqf2_1_M Q E) (sB (sB (bodyOf Try.f111))) (zqf2_q1 Q E) E:=fun τ H h =>
  wP 1 h (fun x1 h=>wP 2 h (fun x2 h=>(conv (by kernel_rfl) h)))
noncomputable def zqf2_q2 :XT:=(xthen (zqf2_1_M Q E) (zqf2_q1 Q E))
noncomputable def zqf2_p3:Code:=sA (sB (bodyOf Try.f111))
noncomputable def zqf2_q4 (nx19:Int→HP):XT:=(xthen (fun τ H=>mI .i64 (τ 4) fun x4'=>nx19 x4' H) (xblock 0 (zqf2_q2 Q E)))
noncomputable def zqf2_p6:Code:=sI (sI (sB zqf2_p3))
def zqf2_3 (nx19:Int→HP) (Q:QT) (E:ET) (x1 x2:OA) (x4:Int) (H:Heap):Prop :=
 ptr x1 fun q20 =>
 (0≤x4∧x4 < ((4:Nat):Int))∧ldI .u64 (Addr.add q20 (x4.toNat * 1)) H fun n21 =>
 ptr x1 fun q22 =>
 (0≤x4∧x4 < ((4:Nat):Int))∧wr (Addr.add q22 (x4.toNat * 1)) [(.int .u64 (IntKind.wrap .u64 (BitVec.ofInt (IntKind.bits .u64) (if IntKind.signed .u64 then -1 else IntKind.max .u64) ^^^ BitVec.ofInt (IntKind.bits .u64) n21).toNat))] H fun H23 =>
 nx19 (IntKind.wrap .i64 (x4+1)) H23
def zqf2_3_M (nx19:Int→HP) (τ:Tau) (H:Heap):Prop:=mP (τ 1) fun x1=>mP (τ 2) fun x2=>mI .i64 (τ 4) fun x4=>zqf2_3 nx19 Q E x1 x2 x4 H
theorem zqf2_4ok (nx19:Int→HP):Ok Pr (zqf2_3_M Q E nx19) (sB (sB zqf2_p6)) (zqf2_q4 Q E nx19) E:=fun τ H h =>
  wP 1 h (fun x1 h=>wP 2 h (fun x2 h=>wI 4 h (fun x4 h=>(conv (by kernel_rfl) h))))
noncomputable def zqf2_q5 (nx19:Int→HP):XT:=(xthen (zqf2_3_M Q E nx19) (zqf2_q4 Q E nx19))
def zqf2_5 (nx19:Int→HP) (Q:QT) (E:ET) (x1 x2:OA) (x4:Int) (x5:Bool) (H:Heap):Prop :=
 sel x5
 (zqf2_3 nx19 Q E x1 x2 x4 H)
 (zqf2_1 Q E x1 x2 H)
def zqf2_5_M (nx19:Int→HP) (τ:Tau) (H:Heap):Prop:=mP (τ 1) fun x1=>mP (τ 2) fun x2=>mI .i64 (τ 4) fun x4=>mB (τ 5) fun x5=>zqf2_5 nx19 Q E x1 x2 x4 x5 H
theorem zqf2_6ok (nx19:Int→HP):Ok Pr (zqf2_5_M Q E nx19) (sA (sB zqf2_p6)) (zqf2_q5 Q E nx19) E:=fun τ H h =>
  wP 1 h (fun x1 h=>wP 2 h (fun x2 h=>wI 4 h (fun x4 h=>wB 5 h (fun x5 h=>(conv (by kernel_rfl) h)))))
theorem zqf2_7ok (nx19:Int→HP):Ok Pr (zqf2_5_M Q E nx19) (sB zqf2_p6) (zqf2_q4 Q E nx19) E:=fun τ H h =>
  (conv (by kernel_rfl) (vc_seq (K:=(zqf2_3_M Q E nx19)) (zqf2_6ok Q E nx19 τ H h) (zqf2_4ok Q E nx19)))
noncomputable def zqf2_q6 (nx19:Int→HP):XT:=(xthen (zqf2_5_M Q E nx19) (zqf2_q4 Q E nx19))
def zqf2_8 (nx19:Int→HP) (Q:QT) (E:ET) (x1 x2:OA) (x4:Int) (H:Heap):Prop :=
 zqf2_5 nx19 Q E x1 x2 x4 (decide (x4 < 4)) H
def zqf2_8_M (nx19:Int→HP) (τ:Tau) (H:Heap):Prop:=mP (τ 1) fun x1=>mP (τ 2) fun x2=>mI .i64 (τ 4) fun x4=>zqf2_8 nx19 Q E x1 x2 x4 H
theorem zqf2_9ok (nx19:Int→HP):Ok Pr (zqf2_8_M Q E nx19) (sA zqf2_p6) (zqf2_q6 Q E nx19) E:=fun τ H h =>
  wP 1 h (fun x1 h=>wP 2 h (fun x2 h=>wI 4 h (fun x4 h=>(conv (by kernel_rfl) h))))
theorem zqf2_10ok (nx19:Int→HP):Ok Pr (zqf2_8_M Q E nx19) zqf2_p6 (zqf2_q4 Q E nx19) E:=fun τ H h =>
  (conv (by kernel_rfl) (vc_seq (K:=(zqf2_5_M Q E nx19)) (zqf2_9ok Q E nx19 τ H h) (zqf2_7ok Q E nx19)))
def zqf2_11 (Q:QT) (E:ET) (x1 x2:OA) (x4:Int) (H:Heap):Prop :=
 ∃ (I:Int→HP) (μ:Int→Heap→Nat),I x4 H∧∀ (x4:Int) (H:Heap),I x4 H →
 zqf2_8 (fun x4' H1=>I x4' H1∧μ x4' H1 < μ x4 H) Q E x1 x2 x4 H
def zqf2_11_M:Prop:=mP (τ 1) fun x1=>mP (τ 2) fun x2=>mI .i64 (τ 4) fun x4=>zqf2_11 Q E x1 x2 x4 H
theorem zqf2_12ok :Ok Pr (zqf2_11_M Q E) (sI (sB zqf2_p3)) (xblock 0 (zqf2_q2 Q E)) E:=fun τ H h =>
  wP 1 h (fun x1 h=>wP 2 h (fun x2 h=>wI 4 h (fun x4 h=>match h with | ⟨I,μ,h0,hr⟩=>(conv (by kernel_rfl) (vc_loopG (c:=sI (sI (sB zqf2_p3))) (τ:=(Tau.upd (Tau.upd (Tau.upd τ 1 (.pointer x1)) 2 (.pointer x2)) 4 (.int .i64 x4))) [1,2] (fun τ H=>mI .i64 (τ 4) fun x4'=>I x4' H) (fun τ H=>μ (gI (τ 4)) H) (by kernel_rfl) h0 (fun τ1 H1 hf hI=>uF 1 (.pointer x1) (hf 1 (by simp)) (uF 2 (.pointer x2) (hf 2 (by simp)) (uI 4 hI (fun x4r h=>lgx (zqf2_10ok Q E (fun x4' H2=>I x4' H2∧μ x4' H2 < μ x4r H1) (Tau.upd (Tau.upd (Tau.upd τ1 1 (.pointer x1)) 2 (.pointer x2)) 4 (.int .i64 x4r)) H1 (conv (by kernel_rfl) (hr x4r H1 h))) (fun τ2 H2 hk=>kI 4 hk (fun x4' h=>conv (by kernel_rfl) h)))))))))))
theorem zqf2_13ok :Ok Pr (zqf2_11_M Q E) (sB zqf2_p3) (zqf2_q2 Q E) E:=fun τ H h =>
  (conv (by kernel_rfl) (zqf2_12ok Q E τ H h))
noncomputable def zqf2_q7 :XT:=(xthen (zqf2_11_M Q E) (zqf2_q2 Q E))
def zqf2_14 (Q:QT) (E:ET) (x1 x2:OA) (H:Heap):Prop :=
 zqf2_11 Q E x1 x2 0 H
def zqf2_14_M:Prop:=mP (τ 1) fun x1=>mP (τ 2) fun x2=>zqf2_14 Q E x1 x2 H
theorem zqf2_15ok :Ok Pr (zqf2_14_M Q E) (sA zqf2_p3) (zqf2_q7 Q E) E:=fun τ H h =>
  wP 1 h (fun x1 h=>wP 2 h (fun x2 h=>(conv (by kernel_rfl) h)))
theorem zqf2_16ok :Ok Pr (zqf2_14_M Q E) zqf2_p3 (zqf2_q2 Q E) E:=fun τ H h =>
  (conv (by kernel_rfl) (vc_seq (K:=(zqf2_11_M Q E)) (zqf2_15ok Q E τ H h) (zqf2_13ok Q E)))
theorem zqf2_17ok :Ok Pr (zqf2_14_M Q E) (sB (bodyOf Try.f111)) (zqf2_q1 Q E) E:=fun τ H h =>
  (conv (by kernel_rfl) (vc_seq (K:=(zqf2_1_M Q E)) (zqf2_16ok Q E τ H h) (zqf2_2ok Q E)))
def zqf2 (Q:QT) (E:ET) (a0_0:Int) (a0_1:Int) (a0_2:Int) (a0_3:Int) (H:Heap):Prop :=
 nw (.cells #[(.int .u64 a0_0),(.int .u64 a0_1),(.int .u64 a0_2),(.int .u64 a0_3)] 46 (0,0)) H fun i24 H25 =>
 nw (.cells #[(.int .u64 0),(.int .u64 0),(.int .u64 0),(.int .u64 0)] 46 (0,0)) H25 fun i26 H27 =>
 zqf2_14 Q E (some ⟨i24,0,none⟩) (some ⟨i26,0,none⟩) H27
theorem zqf2_fn (a0_0:Int) (a0_1:Int) (a0_2:Int) (a0_3:Int) (Q:QT) (E:ET) (H:Heap) (h:zqf2 Q E a0_0 a0_1 a0_2 a0_3 H)  :Does Pr 111 #[(.agg #[(.int .u64 a0_0),(.int .u64 a0_1),(.int .u64 a0_2),(.int .u64 a0_3)])] H Q E :=
  Fn_of_vc (fn:=Try.f111) (c:=(bodyOf Try.f111)) (args:=[(.agg #[(.int .u64 a0_0),(.int .u64 a0_1),(.int .u64 a0_2),(.int .u64 a0_3)])]) mixed (by kernel_rfl) (by kernel_rfl) (by kernel_rfl) (by kernel_rfl) (by kernel_rfl) ((conv (B:=vc Pr (bodyOf Try.f111) (argT [(.agg #[(.int .u64 a0_0),(.int .u64 a0_1),(.int .u64 a0_2),(.int .u64 a0_3)])]) (zqf2_q1 Q E) E H) (by kernel_rfl) (vc_seq (K:=(zqf2_14_M Q E)) (conv (B:=vc Pr (sA (bodyOf Try.f111)) (argT [(.agg #[(.int .u64 a0_0),(.int .u64 a0_1),(.int .u64 a0_2),(.int .u64 a0_3)])]) (xthen (zqf2_14_M Q E) (zqf2_q1 Q E)) E H) (by kernel_rfl) h) (zqf2_17ok Q E))))
noncomputable def zqg2_q1 (Q:QT) (E:ET) :XT:=(retQ Pr (Try.f112).results.toList Q)
noncomputable def zqg2_p2:Code:=sB (sB (bodyOf Try.f112))
def zqg2_1 (Q:QT) (E:ET) (x2 x3:OA) (H:Heap):Prop :=
 ptr x3 fun q16 =>
 ∃ n17 n18 n19 n20:Int,Heap.rd H q16 0 [(.int .u64 n17),(.int .u64 n18),(.int .u64 n19),(.int .u64 n20)]∧ptr x2 fun q22 =>
 wr q22 [(.int .u64 n17),(.int .u64 n18),(.int .u64 n19),(.int .u64 n20)] H fun H21 =>
 ptr x2 fun q23 =>
 ∃ n24 n25 n26 n27:Int,Heap.rd H21 q23 0 [(.int .u64 n24),(.int .u64 n25),(.int .u64 n26),(.int .u64 n27)]∧Q (.agg #[(.int .u64 n24),(.int .u64 n25),(.int .u64 n26),(.int .u64 n27)]) H21
def zqg2_1_M:Prop:=mP (τ 2) fun x2=>mP (τ 3) fun x3=>zqg2_1 Q E x2 x3 H
theorem zqg2_2ok :Ok Pr (zqg2_1_M Q E) (sB zqg2_p2) (zqg2_q1 Q E) E:=fun τ H h =>
  wP 2 h (fun x2 h=>wP 3 h (fun x3 h=>(conv (by kernel_rfl) h)))
noncomputable def zqg2_q2 :XT:=(xthen (zqg2_1_M Q E) (zqg2_q1 Q E))
noncomputable def zqg2_p6:Code:=sI (sB (sA zqg2_p2))
noncomputable def zqg2_q4 (nx28:Int→HP):XT:=(xthen (fun τ H=>mI .i64 (τ 7) fun x7'=>nx28 x7' H) (xblock 0 (zqg2_q2 Q E)))
noncomputable def zqg2_p8:Code:=sB (sI zqg2_p6)
def zqg2_3 (nx28:Int→HP) (Q:QT) (E:ET) (x0:ByteArray) (x2 x3:OA) (x6 x7:Int) (H:Heap):Prop :=
 ptr x3 fun q29 =>
 ∃ n30 n31 n32 n33:Int,Heap.rd H q29 0 [(.int .u64 n30),(.int .u64 n31),(.int .u64 n32),(.int .u64 n33)]∧(0≤x7∧x7 < ((ByteArray.size x0:Nat):Int))∧(0≤x7∧x7 < ((ByteArray.size x0:Nat):Int))∧Does Pr 115 #[(.agg #[(.int .u64 n30),(.int .u64 n31),(.int .u64 n32),(.int .u64 n33)]),(.int .u8 (sAt x0 x7)),(.int .u8 (sAt x0 x7))] H (fun v34 H35 =>
 ∃ n36 n37 n38 n39:Int,v34=(.agg #[(.int .u64 n36),(.int .u64 n37),(.int .u64 n38),(.int .u64 n39)])∧ptr x3 fun q41 =>
 wr q41 [(.int .u64 n36),(.int .u64 n37),(.int .u64 n38),(.int .u64 n39)] H35 fun H40 =>
 nx28 (IntKind.wrap .i64 (x7+1)) H40) (fun _ _=>False)
def zqg2_3_M (nx28:Int→HP) (τ:Tau) (H:Heap):Prop:=mS (τ 0) fun x0=>mP (τ 2) fun x2=>mP (τ 3) fun x3=>mI .i64 (τ 6) fun x6=>mI .i64 (τ 7) fun x7=>zqg2_3 nx28 Q E x0 x2 x3 x6 x7 H
theorem zqg2_4ok (nx28:Int→HP):Ok Pr (zqg2_3_M Q E nx28) (sB zqg2_p8) (zqg2_q4 Q E nx28) E:=fun τ H h =>
  wS 0 h (fun x0 h=>wP 2 h (fun x2 h=>wP 3 h (fun x3 h=>wI 6 h (fun x6 h=>wI 7 h (fun x7 h=>(conv (by kernel_rfl) h))))))
noncomputable def zqg2_q5 (nx28:Int→HP):XT:=(xthen (zqg2_3_M Q E nx28) (zqg2_q4 Q E nx28))
def zqg2_5 (nx28:Int→HP) (Q:QT) (E:ET) (x0:ByteArray) (x2 x3:OA) (x6 x7:Int) (x8:Bool) (H:Heap):Prop :=
 sel x8
 (zqg2_3 nx28 Q E x0 x2 x3 x6 x7 H)
 (zqg2_1 Q E x2 x3 H)
def zqg2_5_M (nx28:Int→HP) (τ:Tau) (H:Heap):Prop:=mS (τ 0) fun x0=>mP (τ 2) fun x2=>mP (τ 3) fun x3=>mI .i64 (τ 6) fun x6=>mI .i64 (τ 7) fun x7=>mB (τ 8) fun x8=>zqg2_5 nx28 Q E x0 x2 x3 x6 x7 x8 H
theorem zqg2_6ok (nx28:Int→HP):Ok Pr (zqg2_5_M Q E nx28) (sA zqg2_p8) (zqg2_q5 Q E nx28) E:=fun τ H h =>
  wS 0 h (fun x0 h=>wP 2 h (fun x2 h=>wP 3 h (fun x3 h=>wI 6 h (fun x6 h=>wI 7 h (fun x7 h=>wB 8 h (fun x8 h=>(conv (by kernel_rfl) h)))))))
theorem zqg2_7ok (nx28:Int→HP):Ok Pr (zqg2_5_M Q E nx28) zqg2_p8 (zqg2_q4 Q E nx28) E:=fun τ H h =>
  (conv (by kernel_rfl) (vc_seq (K:=(zqg2_3_M Q E nx28)) (zqg2_6ok Q E nx28 τ H h) (zqg2_4ok Q E nx28)))
noncomputable def zqg2_q6 (nx28:Int→HP):XT:=(xthen (zqg2_5_M Q E nx28) (zqg2_q4 Q E nx28))
def zqg2_8 (nx28:Int→HP) (Q:QT) (E:ET) (x0:ByteArray) (x2 x3:OA) (x6 x7:Int) (H:Heap):Prop :=
 zqg2_5 nx28 Q E x0 x2 x3 x6 x7 (decide (x7 < x6)) H
def zqg2_8_M (nx28:Int→HP) (τ:Tau) (H:Heap):Prop:=mS (τ 0) fun x0=>mP (τ 2) fun x2=>mP (τ 3) fun x3=>mI .i64 (τ 6) fun x6=>mI .i64 (τ 7) fun x7=>zqg2_8 nx28 Q E x0 x2 x3 x6 x7 H
theorem zqg2_9ok (nx28:Int→HP):Ok Pr (zqg2_8_M Q E nx28) (sA (sI zqg2_p6)) (zqg2_q6 Q E nx28) E:=fun τ H h =>
  wS 0 h (fun x0 h=>wP 2 h (fun x2 h=>wP 3 h (fun x3 h=>wI 6 h (fun x6 h=>wI 7 h (fun x7 h=>(conv (by kernel_rfl) h))))))
theorem zqg2_10ok (nx28:Int→HP):Ok Pr (zqg2_8_M Q E nx28) (sI zqg2_p6) (zqg2_q4 Q E nx28) E:=fun τ H h =>
  (conv (by kernel_rfl) (vc_seq (K:=(zqg2_5_M Q E nx28)) (zqg2_9ok Q E nx28 τ H h) (zqg2_7ok Q E nx28)))
def zqg2_11 (Q:QT) (E:ET) (x0:ByteArray) (x2 x3:OA) (x6 x7:Int) (H:Heap):Prop :=
 ∃ (I:Int→HP) (μ:Int→Heap→Nat),I x7 H∧∀ (x7:Int) (H:Heap),I x7 H →
 zqg2_8 (fun x7' H1=>I x7' H1∧μ x7' H1 < μ x7 H) Q E x0 x2 x3 x6 x7 H
def zqg2_11_M:Prop:=mS (τ 0) fun x0=>mP (τ 2) fun x2=>mP (τ 3) fun x3=>mI .i64 (τ 6) fun x6=>mI .i64 (τ 7) fun x7=>zqg2_11 Q E x0 x2 x3 x6 x7 H
theorem zqg2_12ok :Ok Pr (zqg2_11_M Q E) zqg2_p6 (xblock 0 (zqg2_q2 Q E)) E:=fun τ H h =>
  wS 0 h (fun x0 h=>wP 2 h (fun x2 h=>wP 3 h (fun x3 h=>wI 6 h (fun x6 h=>wI 7 h (fun x7 h=>match h with | ⟨I,μ,h0,hr⟩=>(conv (by kernel_rfl) (vc_loopG (c:=sI zqg2_p6) (τ:=(Tau.upd (Tau.upd (Tau.upd (Tau.upd (Tau.upd τ 0 (.string x0)) 2 (.pointer x2)) 3 (.pointer x3)) 6 (.int .i64 x6)) 7 (.int .i64 x7))) [0,2,3,6] (fun τ H=>mI .i64 (τ 7) fun x7'=>I x7' H) (fun τ H=>μ (gI (τ 7)) H) (by kernel_rfl) h0 (fun τ1 H1 hf hI=>uF 0 (.string x0) (hf 0 (by simp)) (uF 2 (.pointer x2) (hf 2 (by simp)) (uF 3 (.pointer x3) (hf 3 (by simp)) (uF 6 (.int .i64 x6) (hf 6 (by simp)) (uI 7 hI (fun x7r h=>lgx (zqg2_10ok Q E (fun x7' H2=>I x7' H2∧μ x7' H2 < μ x7r H1) (Tau.upd (Tau.upd (Tau.upd (Tau.upd (Tau.upd τ1 0 (.string x0)) 2 (.pointer x2)) 3 (.pointer x3)) 6 (.int .i64 x6)) 7 (.int .i64 x7r)) H1 (conv (by kernel_rfl) (hr x7r H1 h))) (fun τ2 H2 hk=>kI 7 hk (fun x7' h=>conv (by kernel_rfl) h)))))))))))))))
theorem zqg2_13ok :Ok Pr (zqg2_11_M Q E) (sB (sA zqg2_p2)) (zqg2_q2 Q E) E:=fun τ H h =>
  (conv (by kernel_rfl) (zqg2_12ok Q E τ H h))
noncomputable def zqg2_q7 :XT:=(xthen (zqg2_11_M Q E) (zqg2_q2 Q E))
def zqg2_14 (Q:QT) (E:ET) (x0:ByteArray) (x2 x3:OA) (H:Heap):Prop :=
 zqg2_11 Q E x0 x2 x3 ((ByteArray.size x0:Nat):Int) 0 H
def zqg2_14_M:Prop:=mS (τ 0) fun x0=>mP (τ 2) fun x2=>mP (τ 3) fun x3=>zqg2_14 Q E x0 x2 x3 H
theorem zqg2_15ok :Ok Pr (zqg2_14_M Q E) (sA (sA zqg2_p2)) (zqg2_q7 Q E) E:=fun τ H h =>
  wS 0 h (fun x0 h=>wP 2 h (fun x2 h=>wP 3 h (fun x3 h=>(conv (by kernel_rfl) h))))
theorem zqg2_16ok :Ok Pr (zqg2_14_M Q E) (sA zqg2_p2) (zqg2_q2 Q E) E:=fun τ H h =>
  (conv (by kernel_rfl) (vc_seq (K:=(zqg2_11_M Q E)) (zqg2_15ok Q E τ H h) (zqg2_13ok Q E)))
theorem zqg2_17ok :Ok Pr (zqg2_14_M Q E) zqg2_p2 (zqg2_q1 Q E) E:=fun τ H h =>
  (conv (by kernel_rfl) (vc_seq (K:=(zqg2_1_M Q E)) (zqg2_16ok Q E τ H h) (zqg2_2ok Q E)))
noncomputable def zqg2_q8 :XT:=(xthen (zqg2_14_M Q E) (zqg2_q1 Q E))
def zqg2_18 (Q:QT) (E:ET) (x0:ByteArray) (x2:OA) (H:Heap):Prop :=
 nw (.cells #[(.int .u64 0),(.int .u64 0),(.int .u64 0),(.int .u64 0)] 46 (0,0)) H fun i42 H43 =>
 zqg2_14 Q E x0 x2 (some ⟨i42,0,none⟩) H43
def zqg2_18_M:Prop:=mS (τ 0) fun x0=>mP (τ 2) fun x2=>zqg2_18 Q E x0 x2 H
theorem zqg2_19ok :Ok Pr (zqg2_18_M Q E) (sA (sB (bodyOf Try.f112))) (zqg2_q8 Q E) E:=fun τ H h =>
  wS 0 h (fun x0 h=>wP 2 h (fun x2 h=>(conv (by kernel_rfl) h)))
theorem zqg2_20ok :Ok Pr (zqg2_18_M Q E) (sB (bodyOf Try.f112)) (zqg2_q1 Q E) E:=fun τ H h =>
  (conv (by kernel_rfl) (vc_seq (K:=(zqg2_14_M Q E)) (zqg2_19ok Q E τ H h) (zqg2_17ok Q E)))
def zqg2 (Q:QT) (E:ET) (a0:ByteArray) (H:Heap):Prop :=
 nw (.cells #[(.int .u64 0),(.int .u64 0),(.int .u64 0),(.int .u64 0)] 46 (0,0)) H fun i44 H45 =>
 zqg2_18 Q E a0 (some ⟨i44,0,none⟩) H45
theorem zqg2_fn (a0:ByteArray) (Q:QT) (E:ET) (H:Heap) (h:zqg2 Q E a0 H)  :Does Pr 112 #[(.string a0)] H Q E :=
  Fn_of_vc (fn:=Try.f112) (c:=(bodyOf Try.f112)) (args:=[(.string a0)]) mixed (by kernel_rfl) (by kernel_rfl) (by kernel_rfl) (by kernel_rfl) (by kernel_rfl) ((conv (B:=vc Pr (bodyOf Try.f112) (argT [(.string a0)]) (zqg2_q1 Q E) E H) (by kernel_rfl) (vc_seq (K:=(zqg2_18_M Q E)) (conv (B:=vc Pr (sA (bodyOf Try.f112)) (argT [(.string a0)]) (xthen (zqg2_18_M Q E) (zqg2_q1 Q E)) E H) (by kernel_rfl) h) (zqg2_20ok Q E))))
end Go.Proofs.Ytaffcoiomggpfaa
