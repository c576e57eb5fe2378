import Derived.Test.YtaffcoiomggpfaaVPr
/- Printed by gen.py: the Go functions of package l11 over a heap view,and that the model does so. -/
namespace Go.Proofs.Ytaffcoiomggpfaa
open Go.V
set_option linter.unusedVariables false
set_option maxRecDepth 100000
variable (Q:QT) (E:ET) (τ:Tau) (H:Heap)
noncomputable def zqt2_q1 (Q:QT) (E:ET) :XT:=(retQ Pr (Try.f14).results.toList Q)
noncomputable def zqt2_p2:Code:=sB (sB (bodyOf Try.f14))
noncomputable def zqt2_p4:Code:=sB (sB zqt2_p2)
noncomputable def zqt2_p6:Code:=sB (sB zqt2_p4)
def zqt2_1 (Q:QT) (E:ET)  (H:Heap):Prop :=
 Q (.bool true) H
def zqt2_1_M  (τ:Tau) (H:Heap):Prop:=zqt2_1 Q E  H
theorem zqt2_2ok :Ok Pr (zqt2_1_M Q E) (sB (sB zqt2_p6)) (zqt2_q1 Q E) E:=fun τ H h =>
  (conv (by kernel_rfl) h)
noncomputable def zqt2_q2 :XT:=(xthen (zqt2_1_M Q E) (zqt2_q1 Q E))
noncomputable def zqt2_p11:Code:=sI (sB (sA (sB zqt2_p6)))
noncomputable def zqt2_q4 (nx53:Int→HP):XT:=(xthen (fun τ H=>mI .i64 (τ 56) fun x56'=>nx53 x56' H) (xblock 2 (zqt2_q2 Q E)))
noncomputable def zqt2_p13:Code:=sB (sI zqt2_p11)
def zqt2_3 (nx53:Int→HP) (Q:QT) (E:ET) (x3:OA) (l3 c3:Nat) (x12:OA) (l12 c12:Nat) (x54:OA) (l54 c54:Nat) (x55 x56:Int) (H:Heap):Prop :=
 nx53 (IntKind.wrap .i64 (x56+1)) H
def zqt2_3_M (nx53:Int→HP) (τ:Tau) (H:Heap):Prop:=mSl (τ 3) fun x3 l3 c3=>mSl (τ 12) fun x12 l12 c12=>mSl (τ 54) fun x54 l54 c54=>mI .i64 (τ 55) fun x55=>mI .i64 (τ 56) fun x56=>zqt2_3 nx53 Q E x3 l3 c3 x12 l12 c12 x54 l54 c54 x55 x56 H
theorem zqt2_4ok (nx53:Int→HP):Ok Pr (zqt2_3_M Q E nx53) (sB (sB zqt2_p13)) (zqt2_q4 Q E nx53) E:=fun τ H h =>
  wSl 3 h (fun x3 l3 c3 h=>wSl 12 h (fun x12 l12 c12 h=>wSl 54 h (fun x54 l54 c54 h=>wI 55 h (fun x55 h=>wI 56 h (fun x56 h=>(conv (by kernel_rfl) h))))))
noncomputable def zqt2_q5 (nx53:Int→HP):XT:=(xthen (zqt2_3_M Q E nx53) (zqt2_q4 Q E nx53))
noncomputable def zqt2_p17:Code:=sI (sA (sB zqt2_p13))
noncomputable def zqt2_q7 (nx53:Int→HP):XT:=(xblock 4 (xblock 3 (zqt2_q5 Q E nx53)))
noncomputable def zqt2_p20:Code:=sI (sB (sB zqt2_p17))
noncomputable def zqt2_q8 (nx53:Int→HP) (nx75:Int→HP):XT:=(xthen (fun τ H=>mI .i64 (τ 64) fun x64'=>nx75 x64' H) (zqt2_q7 Q E nx53))
noncomputable def zqt2_p22:Code:=sB (sI zqt2_p20)
def zqt2_5 (nx53:Int→HP) (nx75:Int→HP) (Q:QT) (E:ET) (x3:OA) (l3 c3:Nat) (x12:OA) (l12 c12:Nat) (x14:ByteArray) (x54:OA) (l54 c54:Nat) (x55 x56:Int) (x62:OA) (l62 c62:Nat) (x63 x64:Int) (H:Heap):Prop :=
 nx75 (IntKind.wrap .i64 (x64+1)) H
def zqt2_5_M (nx53:Int→HP) (nx75:Int→HP) (τ:Tau) (H:Heap):Prop:=mSl (τ 3) fun x3 l3 c3=>mSl (τ 12) fun x12 l12 c12=>mS (τ 14) fun x14=>mSl (τ 54) fun x54 l54 c54=>mI .i64 (τ 55) fun x55=>mI .i64 (τ 56) fun x56=>mSl (τ 62) fun x62 l62 c62=>mI .i64 (τ 63) fun x63=>mI .i64 (τ 64) fun x64=>zqt2_5 nx53 nx75 Q E x3 l3 c3 x12 l12 c12 x14 x54 l54 c54 x55 x56 x62 l62 c62 x63 x64 H
theorem zqt2_6ok (nx53:Int→HP) (nx75:Int→HP):Ok Pr (zqt2_5_M Q E nx53 nx75) (sB (sB zqt2_p22)) (zqt2_q8 Q E nx53 nx75) E:=fun τ H h =>
  wSl 3 h (fun x3 l3 c3 h=>wSl 12 h (fun x12 l12 c12 h=>wS 14 h (fun x14 h=>wSl 54 h (fun x54 l54 c54 h=>wI 55 h (fun x55 h=>wI 56 h (fun x56 h=>wSl 62 h (fun x62 l62 c62 h=>wI 63 h (fun x63 h=>wI 64 h (fun x64 h=>(conv (by kernel_rfl) h))))))))))
noncomputable def zqt2_q10 (nx53:Int→HP) (nx75:Int→HP):XT:=(xblock 5 (xthen (zqt2_5_M Q E nx53 nx75) (zqt2_q8 Q E nx53 nx75)))
noncomputable def zqt2_p26:Code:=sI (sA (sB zqt2_p22))
noncomputable def zqt2_p28:Code:=sB (sB zqt2_p26)
noncomputable def zqt2_p29:Code:=sB zqt2_p28
def zqt2_7 (nx53:Int→HP) (nx75:Int→HP) (Q:QT) (E:ET) (x3:OA) (l3 c3:Nat) (x12:OA) (l12 c12:Nat) (x14:ByteArray) (x54:OA) (l54 c54:Nat) (x55 x56:Int) (x62:OA) (l62 c62:Nat) (x63 x64:Int) (x94:Bool) (H:Heap):Prop :=
 sel x94
 (Q (.bool false) H)
 (zqt2_5 nx53 nx75 Q E x3 l3 c3 x12 l12 c12 x14 x54 l54 c54 x55 x56 x62 l62 c62 x63 x64 H)
def zqt2_7_M (nx53:Int→HP) (nx75:Int→HP) (τ:Tau) (H:Heap):Prop:=mSl (τ 3) fun x3 l3 c3=>mSl (τ 12) fun x12 l12 c12=>mS (τ 14) fun x14=>mSl (τ 54) fun x54 l54 c54=>mI .i64 (τ 55) fun x55=>mI .i64 (τ 56) fun x56=>mSl (τ 62) fun x62 l62 c62=>mI .i64 (τ 63) fun x63=>mI .i64 (τ 64) fun x64=>mB (τ 94) fun x94=>zqt2_7 nx53 nx75 Q E x3 l3 c3 x12 l12 c12 x14 x54 l54 c54 x55 x56 x62 l62 c62 x63 x64 x94 H
theorem zqt2_8ok (nx53:Int→HP) (nx75:Int→HP):Ok Pr (zqt2_7_M Q E nx53 nx75) (sB zqt2_p29) (zqt2_q10 Q E nx53 nx75) E:=fun τ H h =>
  wSl 3 h (fun x3 l3 c3 h=>wSl 12 h (fun x12 l12 c12 h=>wS 14 h (fun x14 h=>wSl 54 h (fun x54 l54 c54 h=>wI 55 h (fun x55 h=>wI 56 h (fun x56 h=>wSl 62 h (fun x62 l62 c62 h=>wI 63 h (fun x63 h=>wI 64 h (fun x64 h=>wB 94 h (fun x94 h=>(conv (by kernel_rfl) h)))))))))))
noncomputable def zqt2_q11 (nx53:Int→HP) (nx75:Int→HP):XT:=(xthen (zqt2_7_M Q E nx53 nx75) (zqt2_q10 Q E nx53 nx75))
def zqt2_9 (nx53:Int→HP) (nx75:Int→HP) (Q:QT) (E:ET) (x3:OA) (l3 c3:Nat) (x12:OA) (l12 c12:Nat) (x14:ByteArray) (x17 x18 x19 x20 x21 x22:Int) (x54:OA) (l54 c54:Nat) (x55 x56:Int) (x62:OA) (l62 c62:Nat) (x63 x64:Int) (H:Heap):Prop :=
 sel (x17 != x20)
 (zqt2_7 nx53 nx75 Q E x3 l3 c3 x12 l12 c12 x14 x54 l54 c54 x55 x56 x62 l62 c62 x63 x64 true H)
 (sel (x18 != x21)
 (zqt2_7 nx53 nx75 Q E x3 l3 c3 x12 l12 c12 x14 x54 l54 c54 x55 x56 x62 l62 c62 x63 x64 true H)
 (zqt2_7 nx53 nx75 Q E x3 l3 c3 x12 l12 c12 x14 x54 l54 c54 x55 x56 x62 l62 c62 x63 x64 (x19 != x22) H))
def zqt2_9_M (nx53:Int→HP) (nx75:Int→HP) (τ:Tau) (H:Heap):Prop:=mSl (τ 3) fun x3 l3 c3=>mSl (τ 12) fun x12 l12 c12=>mS (τ 14) fun x14=>mI .i64 (τ 17) fun x17=>mI .i64 (τ 18) fun x18=>mI .i64 (τ 19) fun x19=>mI .i64 (τ 20) fun x20=>mI .i64 (τ 21) fun x21=>mI .i64 (τ 22) fun x22=>mSl (τ 54) fun x54 l54 c54=>mI .i64 (τ 55) fun x55=>mI .i64 (τ 56) fun x56=>mSl (τ 62) fun x62 l62 c62=>mI .i64 (τ 63) fun x63=>mI .i64 (τ 64) fun x64=>zqt2_9 nx53 nx75 Q E x3 l3 c3 x12 l12 c12 x14 x17 x18 x19 x20 x21 x22 x54 l54 c54 x55 x56 x62 l62 c62 x63 x64 H
theorem zqt2_10ok (nx53:Int→HP) (nx75:Int→HP):Ok Pr (zqt2_9_M Q E nx53 nx75) (sA zqt2_p29) (zqt2_q11 Q E nx53 nx75) E:=fun τ H h =>
  wSl 3 h (fun x3 l3 c3 h=>wSl 12 h (fun x12 l12 c12 h=>wS 14 h (fun x14 h=>wI 17 h (fun x17 h=>wI 18 h (fun x18 h=>wI 19 h (fun x19 h=>wI 20 h (fun x20 h=>wI 21 h (fun x21 h=>wI 22 h (fun x22 h=>wSl 54 h (fun x54 l54 c54 h=>wI 55 h (fun x55 h=>wI 56 h (fun x56 h=>wSl 62 h (fun x62 l62 c62 h=>wI 63 h (fun x63 h=>wI 64 h (fun x64 h=>(conv (by kernel_rfl) h))))))))))))))))
theorem zqt2_11ok (nx53:Int→HP) (nx75:Int→HP):Ok Pr (zqt2_9_M Q E nx53 nx75) zqt2_p29 (zqt2_q10 Q E nx53 nx75) E:=fun τ H h =>
  (conv (by kernel_rfl) (vc_seq (K:=(zqt2_7_M Q E nx53 nx75)) (zqt2_10ok Q E nx53 nx75 τ H h) (zqt2_8ok Q E nx53 nx75)))
noncomputable def zqt2_q12 (nx53:Int→HP) (nx75:Int→HP):XT:=(xthen (zqt2_9_M Q E nx53 nx75) (zqt2_q10 Q E nx53 nx75))
def zqt2_12 (nx53:Int→HP) (nx75:Int→HP) (Q:QT) (E:ET) (x3:OA) (l3 c3:Nat) (x12:OA) (l12 c12:Nat) (x14:ByteArray) (x16:OA) (l16 c16:Nat) (x17 x18 x19:Int) (x54:OA) (l54 c54:Nat) (x55 x56:Int) (x62:OA) (l62 c62:Nat) (x63 x64:Int) (H:Heap):Prop :=
 Does Pr 46 #[(.string x14),(.slice x16 l16 c16)] H (fun v104 H105 =>
 ∃ n106 n107 n108:Int,v104=(.tuple #[(.int .i64 n106),(.int .i64 n107),(.int .i64 n108)])∧zqt2_9 nx53 nx75 Q E x3 l3 c3 x12 l12 c12 x14 x17 x18 x19 n106 n107 n108 x54 l54 c54 x55 x56 x62 l62 c62 x63 x64 H105) E
def zqt2_12_M (nx53:Int→HP) (nx75:Int→HP) (τ:Tau) (H:Heap):Prop:=mSl (τ 3) fun x3 l3 c3=>mSl (τ 12) fun x12 l12 c12=>mS (τ 14) fun x14=>mSl (τ 16) fun x16 l16 c16=>mI .i64 (τ 17) fun x17=>mI .i64 (τ 18) fun x18=>mI .i64 (τ 19) fun x19=>mSl (τ 54) fun x54 l54 c54=>mI .i64 (τ 55) fun x55=>mI .i64 (τ 56) fun x56=>mSl (τ 62) fun x62 l62 c62=>mI .i64 (τ 63) fun x63=>mI .i64 (τ 64) fun x64=>zqt2_12 nx53 nx75 Q E x3 l3 c3 x12 l12 c12 x14 x16 l16 c16 x17 x18 x19 x54 l54 c54 x55 x56 x62 l62 c62 x63 x64 H
theorem zqt2_13ok (nx53:Int→HP) (nx75:Int→HP):Ok Pr (zqt2_12_M Q E nx53 nx75) (sA zqt2_p28) (zqt2_q12 Q E nx53 nx75) E:=fun τ H h =>
  wSl 3 h (fun x3 l3 c3 h=>wSl 12 h (fun x12 l12 c12 h=>wS 14 h (fun x14 h=>wSl 16 h (fun x16 l16 c16 h=>wI 17 h (fun x17 h=>wI 18 h (fun x18 h=>wI 19 h (fun x19 h=>wSl 54 h (fun x54 l54 c54 h=>wI 55 h (fun x55 h=>wI 56 h (fun x56 h=>wSl 62 h (fun x62 l62 c62 h=>wI 63 h (fun x63 h=>wI 64 h (fun x64 h=>(conv (by kernel_rfl) h))))))))))))))
theorem zqt2_14ok (nx53:Int→HP) (nx75:Int→HP):Ok Pr (zqt2_12_M Q E nx53 nx75) zqt2_p28 (zqt2_q10 Q E nx53 nx75) E:=fun τ H h =>
  (conv (by kernel_rfl) (vc_seq (K:=(zqt2_9_M Q E nx53 nx75)) (zqt2_13ok Q E nx53 nx75 τ H h) (zqt2_11ok Q E nx53 nx75)))
noncomputable def zqt2_q13 (nx53:Int→HP) (nx75:Int→HP):XT:=(xthen (zqt2_12_M Q E nx53 nx75) (zqt2_q10 Q E nx53 nx75))
def zqt2_15 (nx53:Int→HP) (nx75:Int→HP) (Q:QT) (E:ET) (x3:OA) (l3 c3:Nat) (x12:OA) (l12 c12:Nat) (x14:ByteArray) (x16:OA) (l16 c16:Nat) (x54:OA) (l54 c54:Nat) (x55 x56:Int) (x62:OA) (l62 c62:Nat) (x63 x64:Int) (H:Heap):Prop :=
 Does Pr 45 #[(.string x14),(.slice x16 l16 c16)] H (fun v109 H110 =>
 ∃ n111 n112 n113:Int,v109=(.tuple #[(.int .i64 n111),(.int .i64 n112),(.int .i64 n113)])∧zqt2_12 nx53 nx75 Q E x3 l3 c3 x12 l12 c12 x14 x16 l16 c16 n111 n112 n113 x54 l54 c54 x55 x56 x62 l62 c62 x63 x64 H110) E
def zqt2_15_M (nx53:Int→HP) (nx75:Int→HP) (τ:Tau) (H:Heap):Prop:=mSl (τ 3) fun x3 l3 c3=>mSl (τ 12) fun x12 l12 c12=>mS (τ 14) fun x14=>mSl (τ 16) fun x16 l16 c16=>mSl (τ 54) fun x54 l54 c54=>mI .i64 (τ 55) fun x55=>mI .i64 (τ 56) fun x56=>mSl (τ 62) fun x62 l62 c62=>mI .i64 (τ 63) fun x63=>mI .i64 (τ 64) fun x64=>zqt2_15 nx53 nx75 Q E x3 l3 c3 x12 l12 c12 x14 x16 l16 c16 x54 l54 c54 x55 x56 x62 l62 c62 x63 x64 H
theorem zqt2_16ok (nx53:Int→HP) (nx75:Int→HP):Ok Pr (zqt2_15_M Q E nx53 nx75) (sA (sB zqt2_p26)) (zqt2_q13 Q E nx53 nx75) E:=fun τ H h =>
  wSl 3 h (fun x3 l3 c3 h=>wSl 12 h (fun x12 l12 c12 h=>wS 14 h (fun x14 h=>wSl 16 h (fun x16 l16 c16 h=>wSl 54 h (fun x54 l54 c54 h=>wI 55 h (fun x55 h=>wI 56 h (fun x56 h=>wSl 62 h (fun x62 l62 c62 h=>wI 63 h (fun x63 h=>wI 64 h (fun x64 h=>(conv (by kernel_rfl) h)))))))))))
theorem zqt2_17ok (nx53:Int→HP) (nx75:Int→HP):Ok Pr (zqt2_15_M Q E nx53 nx75) (sB zqt2_p26) (zqt2_q10 Q E nx53 nx75) E:=fun τ H h =>
  (conv (by kernel_rfl) (vc_seq (K:=(zqt2_12_M Q E nx53 nx75)) (zqt2_16ok Q E nx53 nx75 τ H h) (zqt2_14ok Q E nx53 nx75)))
noncomputable def zqt2_q14 (nx53:Int→HP) (nx75:Int→HP):XT:=(xthen (zqt2_15_M Q E nx53 nx75) (zqt2_q10 Q E nx53 nx75))
def zqt2_18 (nx53:Int→HP) (nx75:Int→HP) (Q:QT) (E:ET) (x3:OA) (l3 c3:Nat) (x12:OA) (l12 c12:Nat) (x14:ByteArray) (x54:OA) (l54 c54:Nat) (x55 x56:Int) (x62:OA) (l62 c62:Nat) (x63 x64:Int) (H:Heap):Prop :=
 (0≤x64∧x64 < (l62:Int))∧ptr x62 fun q114 =>
 ldSl (Addr.add q114 (x64.toNat * 1)) H fun p115 l116 c117 =>
 zqt2_15 nx53 nx75 Q E x3 l3 c3 x12 l12 c12 x14 p115 l116 c117 x54 l54 c54 x55 x56 x62 l62 c62 x63 x64 H
def zqt2_18_M (nx53:Int→HP) (nx75:Int→HP) (τ:Tau) (H:Heap):Prop:=mSl (τ 3) fun x3 l3 c3=>mSl (τ 12) fun x12 l12 c12=>mS (τ 14) fun x14=>mSl (τ 54) fun x54 l54 c54=>mI .i64 (τ 55) fun x55=>mI .i64 (τ 56) fun x56=>mSl (τ 62) fun x62 l62 c62=>mI .i64 (τ 63) fun x63=>mI .i64 (τ 64) fun x64=>zqt2_18 nx53 nx75 Q E x3 l3 c3 x12 l12 c12 x14 x54 l54 c54 x55 x56 x62 l62 c62 x63 x64 H
theorem zqt2_19ok (nx53:Int→HP) (nx75:Int→HP):Ok Pr (zqt2_18_M Q E nx53 nx75) (sA zqt2_p26) (zqt2_q14 Q E nx53 nx75) E:=fun τ H h =>
  wSl 3 h (fun x3 l3 c3 h=>wSl 12 h (fun x12 l12 c12 h=>wS 14 h (fun x14 h=>wSl 54 h (fun x54 l54 c54 h=>wI 55 h (fun x55 h=>wI 56 h (fun x56 h=>wSl 62 h (fun x62 l62 c62 h=>wI 63 h (fun x63 h=>wI 64 h (fun x64 h=>(conv (by kernel_rfl) h))))))))))
theorem zqt2_20ok (nx53:Int→HP) (nx75:Int→HP):Ok Pr (zqt2_18_M Q E nx53 nx75) zqt2_p26 (zqt2_q10 Q E nx53 nx75) E:=fun τ H h =>
  (conv (by kernel_rfl) (vc_seq (K:=(zqt2_15_M Q E nx53 nx75)) (zqt2_19ok Q E nx53 nx75 τ H h) (zqt2_17ok Q E nx53 nx75)))
theorem zqt2_21ok (nx53:Int→HP) (nx75:Int→HP):Ok Pr (zqt2_18_M Q E nx53 nx75) (sA (sB zqt2_p22)) (xthen (zqt2_5_M Q E nx53 nx75) (zqt2_q8 Q E nx53 nx75)) E:=fun τ H h =>
  (conv (by kernel_rfl) (zqt2_20ok Q E nx53 nx75 τ H h))
theorem zqt2_22ok (nx53:Int→HP) (nx75:Int→HP):Ok Pr (zqt2_18_M Q E nx53 nx75) (sB zqt2_p22) (zqt2_q8 Q E nx53 nx75) E:=fun τ H h =>
  (conv (by kernel_rfl) (vc_seq (K:=(zqt2_5_M Q E nx53 nx75)) (zqt2_21ok Q E nx53 nx75 τ H h) (zqt2_6ok Q E nx53 nx75)))
noncomputable def zqt2_q15 (nx53:Int→HP) (nx75:Int→HP):XT:=(xthen (zqt2_18_M Q E nx53 nx75) (zqt2_q8 Q E nx53 nx75))
def zqt2_23 (nx53:Int→HP) (nx75:Int→HP) (Q:QT) (E:ET) (x3:OA) (l3 c3:Nat) (x12:OA) (l12 c12:Nat) (x14:ByteArray) (x54:OA) (l54 c54:Nat) (x55 x56:Int) (x62:OA) (l62 c62:Nat) (x63 x64:Int) (x65:Bool) (H:Heap):Prop :=
 sel x65
 (zqt2_18 nx53 nx75 Q E x3 l3 c3 x12 l12 c12 x14 x54 l54 c54 x55 x56 x62 l62 c62 x63 x64 H)
 (zqt2_3 nx53 Q E x3 l3 c3 x12 l12 c12 x54 l54 c54 x55 x56 H)
def zqt2_23_M (nx53:Int→HP) (nx75:Int→HP) (τ:Tau) (H:Heap):Prop:=mSl (τ 3) fun x3 l3 c3=>mSl (τ 12) fun x12 l12 c12=>mS (τ 14) fun x14=>mSl (τ 54) fun x54 l54 c54=>mI .i64 (τ 55) fun x55=>mI .i64 (τ 56) fun x56=>mSl (τ 62) fun x62 l62 c62=>mI .i64 (τ 63) fun x63=>mI .i64 (τ 64) fun x64=>mB (τ 65) fun x65=>zqt2_23 nx53 nx75 Q E x3 l3 c3 x12 l12 c12 x14 x54 l54 c54 x55 x56 x62 l62 c62 x63 x64 x65 H
theorem zqt2_24ok (nx53:Int→HP) (nx75:Int→HP):Ok Pr (zqt2_23_M Q E nx53 nx75) (sA zqt2_p22) (zqt2_q15 Q E nx53 nx75) E:=fun τ H h =>
  wSl 3 h (fun x3 l3 c3 h=>wSl 12 h (fun x12 l12 c12 h=>wS 14 h (fun x14 h=>wSl 54 h (fun x54 l54 c54 h=>wI 55 h (fun x55 h=>wI 56 h (fun x56 h=>wSl 62 h (fun x62 l62 c62 h=>wI 63 h (fun x63 h=>wI 64 h (fun x64 h=>wB 65 h (fun x65 h=>(conv (by kernel_rfl) h)))))))))))
theorem zqt2_25ok (nx53:Int→HP) (nx75:Int→HP):Ok Pr (zqt2_23_M Q E nx53 nx75) zqt2_p22 (zqt2_q8 Q E nx53 nx75) E:=fun τ H h =>
  (conv (by kernel_rfl) (vc_seq (K:=(zqt2_18_M Q E nx53 nx75)) (zqt2_24ok Q E nx53 nx75 τ H h) (zqt2_22ok Q E nx53 nx75)))
noncomputable def zqt2_q16 (nx53:Int→HP) (nx75:Int→HP):XT:=(xthen (zqt2_23_M Q E nx53 nx75) (zqt2_q8 Q E nx53 nx75))
def zqt2_26 (nx53:Int→HP) (nx75:Int→HP) (Q:QT) (E:ET) (x3:OA) (l3 c3:Nat) (x12:OA) (l12 c12:Nat) (x14:ByteArray) (x54:OA) (l54 c54:Nat) (x55 x56:Int) (x62:OA) (l62 c62:Nat) (x63 x64:Int) (H:Heap):Prop :=
 zqt2_23 nx53 nx75 Q E x3 l3 c3 x12 l12 c12 x14 x54 l54 c54 x55 x56 x62 l62 c62 x63 x64 (decide (x64 < x63)) H
def zqt2_26_M (nx53:Int→HP) (nx75:Int→HP) (τ:Tau) (H:Heap):Prop:=mSl (τ 3) fun x3 l3 c3=>mSl (τ 12) fun x12 l12 c12=>mS (τ 14) fun x14=>mSl (τ 54) fun x54 l54 c54=>mI .i64 (τ 55) fun x55=>mI .i64 (τ 56) fun x56=>mSl (τ 62) fun x62 l62 c62=>mI .i64 (τ 63) fun x63=>mI .i64 (τ 64) fun x64=>zqt2_26 nx53 nx75 Q E x3 l3 c3 x12 l12 c12 x14 x54 l54 c54 x55 x56 x62 l62 c62 x63 x64 H
theorem zqt2_27ok (nx53:Int→HP) (nx75:Int→HP):Ok Pr (zqt2_26_M Q E nx53 nx75) (sA (sI zqt2_p20)) (zqt2_q16 Q E nx53 nx75) E:=fun τ H h =>
  wSl 3 h (fun x3 l3 c3 h=>wSl 12 h (fun x12 l12 c12 h=>wS 14 h (fun x14 h=>wSl 54 h (fun x54 l54 c54 h=>wI 55 h (fun x55 h=>wI 56 h (fun x56 h=>wSl 62 h (fun x62 l62 c62 h=>wI 63 h (fun x63 h=>wI 64 h (fun x64 h=>(conv (by kernel_rfl) h))))))))))
theorem zqt2_28ok (nx53:Int→HP) (nx75:Int→HP):Ok Pr (zqt2_26_M Q E nx53 nx75) (sI zqt2_p20) (zqt2_q8 Q E nx53 nx75) E:=fun τ H h =>
  (conv (by kernel_rfl) (vc_seq (K:=(zqt2_23_M Q E nx53 nx75)) (zqt2_27ok Q E nx53 nx75 τ H h) (zqt2_25ok Q E nx53 nx75)))
def zqt2_29 (nx53:Int→HP) (Q:QT) (E:ET) (x3:OA) (l3 c3:Nat) (x12:OA) (l12 c12:Nat) (x14:ByteArray) (x54:OA) (l54 c54:Nat) (x55 x56:Int) (x62:OA) (l62 c62:Nat) (x63 x64:Int) (H:Heap):Prop :=
 ∃ (I:Int→HP) (μ:Int→Heap→Nat),I x64 H∧∀ (x64:Int) (H:Heap),I x64 H →
 zqt2_26 nx53 (fun x64' H1=>I x64' H1∧μ x64' H1 < μ x64 H) Q E x3 l3 c3 x12 l12 c12 x14 x54 l54 c54 x55 x56 x62 l62 c62 x63 x64 H
def zqt2_29_M (nx53:Int→HP) (τ:Tau) (H:Heap):Prop:=mSl (τ 3) fun x3 l3 c3=>mSl (τ 12) fun x12 l12 c12=>mS (τ 14) fun x14=>mSl (τ 54) fun x54 l54 c54=>mI .i64 (τ 55) fun x55=>mI .i64 (τ 56) fun x56=>mSl (τ 62) fun x62 l62 c62=>mI .i64 (τ 63) fun x63=>mI .i64 (τ 64) fun x64=>zqt2_29 nx53 Q E x3 l3 c3 x12 l12 c12 x14 x54 l54 c54 x55 x56 x62 l62 c62 x63 x64 H
theorem zqt2_30ok (nx53:Int→HP):Ok Pr (zqt2_29_M Q E nx53) zqt2_p20 (zqt2_q7 Q E nx53) E:=fun τ H h =>
  wSl 3 h (fun x3 l3 c3 h=>wSl 12 h (fun x12 l12 c12 h=>wS 14 h (fun x14 h=>wSl 54 h (fun x54 l54 c54 h=>wI 55 h (fun x55 h=>wI 56 h (fun x56 h=>wSl 62 h (fun x62 l62 c62 h=>wI 63 h (fun x63 h=>wI 64 h (fun x64 h=>match h with | ⟨I,μ,h0,hr⟩=>(conv (by kernel_rfl) (vc_loopG (c:=sI zqt2_p20) (τ:=(Tau.upd (Tau.upd (Tau.upd (Tau.upd (Tau.upd (Tau.upd (Tau.upd (Tau.upd (Tau.upd τ 3 (.slice x3 l3 c3)) 12 (.slice x12 l12 c12)) 14 (.string x14)) 54 (.slice x54 l54 c54)) 55 (.int .i64 x55)) 56 (.int .i64 x56)) 62 (.slice x62 l62 c62)) 63 (.int .i64 x63)) 64 (.int .i64 x64))) [3,12,14,54,55,56,62,63] (fun τ H=>mI .i64 (τ 64) fun x64'=>I x64' H) (fun τ H=>μ (gI (τ 64)) H) (by kernel_rfl) h0 (fun τ1 H1 hf hI=>uF 3 (.slice x3 l3 c3) (hf 3 (by simp)) (uF 12 (.slice x12 l12 c12) (hf 12 (by simp)) (uF 14 (.string x14) (hf 14 (by simp)) (uF 54 (.slice x54 l54 c54) (hf 54 (by simp)) (uF 55 (.int .i64 x55) (hf 55 (by simp)) (uF 56 (.int .i64 x56) (hf 56 (by simp)) (uF 62 (.slice x62 l62 c62) (hf 62 (by simp)) (uF 63 (.int .i64 x63) (hf 63 (by simp)) (uI 64 hI (fun x64r h=>lgx (zqt2_28ok Q E nx53 (fun x64' H2=>I x64' H2∧μ x64' H2 < μ x64r H1) (Tau.upd (Tau.upd (Tau.upd (Tau.upd (Tau.upd (Tau.upd (Tau.upd (Tau.upd (Tau.upd τ1 3 (.slice x3 l3 c3)) 12 (.slice x12 l12 c12)) 14 (.string x14)) 54 (.slice x54 l54 c54)) 55 (.int .i64 x55)) 56 (.int .i64 x56)) 62 (.slice x62 l62 c62)) 63 (.int .i64 x63)) 64 (.int .i64 x64r)) H1 (conv (by kernel_rfl) (hr x64r H1 h))) (fun τ2 H2 hk=>kI 64 hk (fun x64' h=>conv (by kernel_rfl) h)))))))))))))))))))))))
theorem zqt2_31ok (nx53:Int→HP):Ok Pr (zqt2_29_M Q E nx53) (sB (sB zqt2_p17)) (xblock 3 (zqt2_q5 Q E nx53)) E:=fun τ H h =>
  (conv (by kernel_rfl) (zqt2_30ok Q E nx53 τ H h))
noncomputable def zqt2_q17 (nx53:Int→HP):XT:=(xthen (zqt2_29_M Q E nx53) (xblock 3 (zqt2_q5 Q E nx53)))
def zqt2_32 (nx53:Int→HP) (Q:QT) (E:ET) (x3:OA) (l3 c3:Nat) (x12:OA) (l12 c12:Nat) (x14:ByteArray) (x54:OA) (l54 c54:Nat) (x55 x56:Int) (H:Heap):Prop :=
 nw (.cells #[(.slice x12 l12 c12),(.slice x3 l3 c3)] 64 (0,0)) H fun i118 H119 =>
 zqt2_29 nx53 Q E x3 l3 c3 x12 l12 c12 x14 x54 l54 c54 x55 x56 (some ⟨i118,0,none⟩) 2 2 2 0 H119
def zqt2_32_M (nx53:Int→HP) (τ:Tau) (H:Heap):Prop:=mSl (τ 3) fun x3 l3 c3=>mSl (τ 12) fun x12 l12 c12=>mS (τ 14) fun x14=>mSl (τ 54) fun x54 l54 c54=>mI .i64 (τ 55) fun x55=>mI .i64 (τ 56) fun x56=>zqt2_32 nx53 Q E x3 l3 c3 x12 l12 c12 x14 x54 l54 c54 x55 x56 H
theorem zqt2_33ok (nx53:Int→HP):Ok Pr (zqt2_32_M Q E nx53) (sA (sB zqt2_p17)) (zqt2_q17 Q E nx53) E:=fun τ H h =>
  wSl 3 h (fun x3 l3 c3 h=>wSl 12 h (fun x12 l12 c12 h=>wS 14 h (fun x14 h=>wSl 54 h (fun x54 l54 c54 h=>wI 55 h (fun x55 h=>wI 56 h (fun x56 h=>(conv (by kernel_rfl) h)))))))
theorem zqt2_34ok (nx53:Int→HP):Ok Pr (zqt2_32_M Q E nx53) (sB zqt2_p17) (xblock 3 (zqt2_q5 Q E nx53)) E:=fun τ H h =>
  (conv (by kernel_rfl) (vc_seq (K:=(zqt2_29_M Q E nx53)) (zqt2_33ok Q E nx53 τ H h) (zqt2_31ok Q E nx53)))
noncomputable def zqt2_q18 (nx53:Int→HP):XT:=(xthen (zqt2_32_M Q E nx53) (xblock 3 (zqt2_q5 Q E nx53)))
def zqt2_35 (nx53:Int→HP) (Q:QT) (E:ET) (x3:OA) (l3 c3:Nat) (x12:OA) (l12 c12:Nat) (x54:OA) (l54 c54:Nat) (x55 x56:Int) (H:Heap):Prop :=
 (0≤x56∧x56 < (l54:Int))∧ptr x54 fun q120 =>
 ldS (Addr.add q120 (x56.toNat * 1)) H fun s121 =>
 zqt2_32 nx53 Q E x3 l3 c3 x12 l12 c12 s121 x54 l54 c54 x55 x56 H
def zqt2_35_M (nx53:Int→HP) (τ:Tau) (H:Heap):Prop:=mSl (τ 3) fun x3 l3 c3=>mSl (τ 12) fun x12 l12 c12=>mSl (τ 54) fun x54 l54 c54=>mI .i64 (τ 55) fun x55=>mI .i64 (τ 56) fun x56=>zqt2_35 nx53 Q E x3 l3 c3 x12 l12 c12 x54 l54 c54 x55 x56 H
theorem zqt2_36ok (nx53:Int→HP):Ok Pr (zqt2_35_M Q E nx53) (sA zqt2_p17) (zqt2_q18 Q E nx53) E:=fun τ H h =>
  wSl 3 h (fun x3 l3 c3 h=>wSl 12 h (fun x12 l12 c12 h=>wSl 54 h (fun x54 l54 c54 h=>wI 55 h (fun x55 h=>wI 56 h (fun x56 h=>(conv (by kernel_rfl) h))))))
theorem zqt2_37ok (nx53:Int→HP):Ok Pr (zqt2_35_M Q E nx53) zqt2_p17 (xblock 3 (zqt2_q5 Q E nx53)) E:=fun τ H h =>
  (conv (by kernel_rfl) (vc_seq (K:=(zqt2_32_M Q E nx53)) (zqt2_36ok Q E nx53 τ H h) (zqt2_34ok Q E nx53)))
theorem zqt2_38ok (nx53:Int→HP):Ok Pr (zqt2_35_M Q E nx53) (sA (sB zqt2_p13)) (zqt2_q5 Q E nx53) E:=fun τ H h =>
  (conv (by kernel_rfl) (zqt2_37ok Q E nx53 τ H h))
theorem zqt2_39ok (nx53:Int→HP):Ok Pr (zqt2_35_M Q E nx53) (sB zqt2_p13) (zqt2_q4 Q E nx53) E:=fun τ H h =>
  (conv (by kernel_rfl) (vc_seq (K:=(zqt2_3_M Q E nx53)) (zqt2_38ok Q E nx53 τ H h) (zqt2_4ok Q E nx53)))
noncomputable def zqt2_q19 (nx53:Int→HP):XT:=(xthen (zqt2_35_M Q E nx53) (zqt2_q4 Q E nx53))
def zqt2_40 (nx53:Int→HP) (Q:QT) (E:ET) (x3:OA) (l3 c3:Nat) (x12:OA) (l12 c12:Nat) (x54:OA) (l54 c54:Nat) (x55 x56:Int) (x57:Bool) (H:Heap):Prop :=
 sel x57
 (zqt2_35 nx53 Q E x3 l3 c3 x12 l12 c12 x54 l54 c54 x55 x56 H)
 (zqt2_1 Q E  H)
def zqt2_40_M (nx53:Int→HP) (τ:Tau) (H:Heap):Prop:=mSl (τ 3) fun x3 l3 c3=>mSl (τ 12) fun x12 l12 c12=>mSl (τ 54) fun x54 l54 c54=>mI .i64 (τ 55) fun x55=>mI .i64 (τ 56) fun x56=>mB (τ 57) fun x57=>zqt2_40 nx53 Q E x3 l3 c3 x12 l12 c12 x54 l54 c54 x55 x56 x57 H
theorem zqt2_41ok (nx53:Int→HP):Ok Pr (zqt2_40_M Q E nx53) (sA zqt2_p13) (zqt2_q19 Q E nx53) E:=fun τ H h =>
  wSl 3 h (fun x3 l3 c3 h=>wSl 12 h (fun x12 l12 c12 h=>wSl 54 h (fun x54 l54 c54 h=>wI 55 h (fun x55 h=>wI 56 h (fun x56 h=>wB 57 h (fun x57 h=>(conv (by kernel_rfl) h)))))))
theorem zqt2_42ok (nx53:Int→HP):Ok Pr (zqt2_40_M Q E nx53) zqt2_p13 (zqt2_q4 Q E nx53) E:=fun τ H h =>
  (conv (by kernel_rfl) (vc_seq (K:=(zqt2_35_M Q E nx53)) (zqt2_41ok Q E nx53 τ H h) (zqt2_39ok Q E nx53)))
noncomputable def zqt2_q20 (nx53:Int→HP):XT:=(xthen (zqt2_40_M Q E nx53) (zqt2_q4 Q E nx53))
def zqt2_43 (nx53:Int→HP) (Q:QT) (E:ET) (x3:OA) (l3 c3:Nat) (x12:OA) (l12 c12:Nat) (x54:OA) (l54 c54:Nat) (x55 x56:Int) (H:Heap):Prop :=
 zqt2_40 nx53 Q E x3 l3 c3 x12 l12 c12 x54 l54 c54 x55 x56 (decide (x56 < x55)) H
def zqt2_43_M (nx53:Int→HP) (τ:Tau) (H:Heap):Prop:=mSl (τ 3) fun x3 l3 c3=>mSl (τ 12) fun x12 l12 c12=>mSl (τ 54) fun x54 l54 c54=>mI .i64 (τ 55) fun x55=>mI .i64 (τ 56) fun x56=>zqt2_43 nx53 Q E x3 l3 c3 x12 l12 c12 x54 l54 c54 x55 x56 H
theorem zqt2_44ok (nx53:Int→HP):Ok Pr (zqt2_43_M Q E nx53) (sA (sI zqt2_p11)) (zqt2_q20 Q E nx53) E:=fun τ H h =>
  wSl 3 h (fun x3 l3 c3 h=>wSl 12 h (fun x12 l12 c12 h=>wSl 54 h (fun x54 l54 c54 h=>wI 55 h (fun x55 h=>wI 56 h (fun x56 h=>(conv (by kernel_rfl) h))))))
theorem zqt2_45ok (nx53:Int→HP):Ok Pr (zqt2_43_M Q E nx53) (sI zqt2_p11) (zqt2_q4 Q E nx53) E:=fun τ H h =>
  (conv (by kernel_rfl) (vc_seq (K:=(zqt2_40_M Q E nx53)) (zqt2_44ok Q E nx53 τ H h) (zqt2_42ok Q E nx53)))
def zqt2_46 (Q:QT) (E:ET) (x3:OA) (l3 c3:Nat) (x12:OA) (l12 c12:Nat) (x54:OA) (l54 c54:Nat) (x55 x56:Int) (H:Heap):Prop :=
 ∃ (I:Int→HP) (μ:Int→Heap→Nat),I x56 H∧∀ (x56:Int) (H:Heap),I x56 H →
 zqt2_43 (fun x56' H1=>I x56' H1∧μ x56' H1 < μ x56 H) Q E x3 l3 c3 x12 l12 c12 x54 l54 c54 x55 x56 H
def zqt2_46_M:Prop:=mSl (τ 3) fun x3 l3 c3=>mSl (τ 12) fun x12 l12 c12=>mSl (τ 54) fun x54 l54 c54=>mI .i64 (τ 55) fun x55=>mI .i64 (τ 56) fun x56=>zqt2_46 Q E x3 l3 c3 x12 l12 c12 x54 l54 c54 x55 x56 H
theorem zqt2_47ok :Ok Pr (zqt2_46_M Q E) zqt2_p11 (xblock 2 (zqt2_q2 Q E)) E:=fun τ H h =>
  wSl 3 h (fun x3 l3 c3 h=>wSl 12 h (fun x12 l12 c12 h=>wSl 54 h (fun x54 l54 c54 h=>wI 55 h (fun x55 h=>wI 56 h (fun x56 h=>match h with | ⟨I,μ,h0,hr⟩=>(conv (by kernel_rfl) (vc_loopG (c:=sI zqt2_p11) (τ:=(Tau.upd (Tau.upd (Tau.upd (Tau.upd (Tau.upd τ 3 (.slice x3 l3 c3)) 12 (.slice x12 l12 c12)) 54 (.slice x54 l54 c54)) 55 (.int .i64 x55)) 56 (.int .i64 x56))) [3,12,54,55] (fun τ H=>mI .i64 (τ 56) fun x56'=>I x56' H) (fun τ H=>μ (gI (τ 56)) H) (by kernel_rfl) h0 (fun τ1 H1 hf hI=>uF 3 (.slice x3 l3 c3) (hf 3 (by simp)) (uF 12 (.slice x12 l12 c12) (hf 12 (by simp)) (uF 54 (.slice x54 l54 c54) (hf 54 (by simp)) (uF 55 (.int .i64 x55) (hf 55 (by simp)) (uI 56 hI (fun x56r h=>lgx (zqt2_45ok Q E (fun x56' H2=>I x56' H2∧μ x56' H2 < μ x56r H1) (Tau.upd (Tau.upd (Tau.upd (Tau.upd (Tau.upd τ1 3 (.slice x3 l3 c3)) 12 (.slice x12 l12 c12)) 54 (.slice x54 l54 c54)) 55 (.int .i64 x55)) 56 (.int .i64 x56r)) H1 (conv (by kernel_rfl) (hr x56r H1 h))) (fun τ2 H2 hk=>kI 56 hk (fun x56' h=>conv (by kernel_rfl) h)))))))))))))))
theorem zqt2_48ok :Ok Pr (zqt2_46_M Q E) (sB (sA (sB zqt2_p6))) (zqt2_q2 Q E) E:=fun τ H h =>
  (conv (by kernel_rfl) (zqt2_47ok Q E τ H h))
noncomputable def zqt2_q21 :XT:=(xthen (zqt2_46_M Q E) (zqt2_q2 Q E))
def zqt2_49 (Q:QT) (E:ET) (x1:Int) (x2:ByteArray) (x3:OA) (l3 c3:Nat) (x12:OA) (l12 c12:Nat) (H:Heap):Prop :=
 Does Pr 21 #[] H (fun v122 H123 =>
 ∃ (p124:OA) (l125 c126:Nat),v122=(.slice p124 l125 c126)∧Does Pr 22 #[(.int .i64 x1),(.int .i64 7)] H123 (fun v127 H128 =>
 ∃ n129:Int,v127=(.int .i64 n129)∧(0≤n129∧n129 < (l125:Int))∧ptr p124 fun q130 =>
 ldS (Addr.add q130 (n129.toNat * 1)) H128 fun s131 =>
 nw (.cells #[(.string s131),(.string x2)] 9 (0,0)) H128 fun i132 H133 =>
 zqt2_46 Q E x3 l3 c3 x12 l12 c12 (some ⟨i132,0,none⟩) 2 2 2 0 H133) E) E
def zqt2_49_M:Prop:=mI .i64 (τ 1) fun x1=>mS (τ 2) fun x2=>mSl (τ 3) fun x3 l3 c3=>mSl (τ 12) fun x12 l12 c12=>zqt2_49 Q E x1 x2 x3 l3 c3 x12 l12 c12 H
theorem zqt2_50ok :Ok Pr (zqt2_49_M Q E) (sA (sA (sB zqt2_p6))) (zqt2_q21 Q E) E:=fun τ H h =>
  wI 1 h (fun x1 h=>wS 2 h (fun x2 h=>wSl 3 h (fun x3 l3 c3 h=>wSl 12 h (fun x12 l12 c12 h=>(conv (by kernel_rfl) h)))))
theorem zqt2_51ok :Ok Pr (zqt2_49_M Q E) (sA (sB zqt2_p6)) (zqt2_q2 Q E) E:=fun τ H h =>
  (conv (by kernel_rfl) (vc_seq (K:=(zqt2_46_M Q E)) (zqt2_50ok Q E τ H h) (zqt2_48ok Q E)))
theorem zqt2_52ok :Ok Pr (zqt2_49_M Q E) (sB zqt2_p6) (zqt2_q1 Q E) E:=fun τ H h =>
  (conv (by kernel_rfl) (vc_seq (K:=(zqt2_1_M Q E)) (zqt2_51ok Q E τ H h) (zqt2_2ok Q E)))
noncomputable def zqt2_q22 :XT:=(xthen (zqt2_49_M Q E) (zqt2_q1 Q E))
def zqt2_53 (Q:QT) (E:ET) (x0:OA) (l0 c0:Nat) (x1:Int) (x2:ByteArray) (x3:OA) (l3 c3:Nat) (H:Heap):Prop :=
 Does Pr 44 #[(.slice x0 l0 c0)] H (fun v134 H135 =>
 ∃ (p136:OA) (l137 c138:Nat),v134=(.slice p136 l137 c138)∧zqt2_49 Q E x1 x2 x3 l3 c3 p136 l137 c138 H135) E
def zqt2_53_M:Prop:=mSl (τ 0) fun x0 l0 c0=>mI .i64 (τ 1) fun x1=>mS (τ 2) fun x2=>mSl (τ 3) fun x3 l3 c3=>zqt2_53 Q E x0 l0 c0 x1 x2 x3 l3 c3 H
theorem zqt2_54ok :Ok Pr (zqt2_53_M Q E) (sA zqt2_p6) (zqt2_q22 Q E) E:=fun τ H h =>
  wSl 0 h (fun x0 l0 c0 h=>wI 1 h (fun x1 h=>wS 2 h (fun x2 h=>wSl 3 h (fun x3 l3 c3 h=>(conv (by kernel_rfl) h)))))
theorem zqt2_55ok :Ok Pr (zqt2_53_M Q E) zqt2_p6 (zqt2_q1 Q E) E:=fun τ H h =>
  (conv (by kernel_rfl) (vc_seq (K:=(zqt2_49_M Q E)) (zqt2_54ok Q E τ H h) (zqt2_52ok Q E)))
noncomputable def zqt2_q23 :XT:=(xthen (zqt2_53_M Q E) (zqt2_q1 Q E))
def zqt2_56 (Q:QT) (E:ET) (x0:OA) (l0 c0:Nat) (x1:Int) (x2:ByteArray) (x3:OA) (l3 c3:Nat) (x9:Int) (H:Heap):Prop :=
 sel (decide (x9 > 16))
 (Q (.bool true) H)
 (zqt2_53 Q E x0 l0 c0 x1 x2 x3 l3 c3 H)
def zqt2_56_M:Prop:=mSl (τ 0) fun x0 l0 c0=>mI .i64 (τ 1) fun x1=>mS (τ 2) fun x2=>mSl (τ 3) fun x3 l3 c3=>mI .i64 (τ 9) fun x9=>zqt2_56 Q E x0 l0 c0 x1 x2 x3 l3 c3 x9 H
theorem zqt2_57ok :Ok Pr (zqt2_56_M Q E) (sA (sB zqt2_p4)) (zqt2_q23 Q E) E:=fun τ H h =>
  wSl 0 h (fun x0 l0 c0 h=>wI 1 h (fun x1 h=>wS 2 h (fun x2 h=>wSl 3 h (fun x3 l3 c3 h=>wI 9 h (fun x9 h=>(conv (by kernel_rfl) h))))))
theorem zqt2_58ok :Ok Pr (zqt2_56_M Q E) (sB zqt2_p4) (zqt2_q1 Q E) E:=fun τ H h =>
  (conv (by kernel_rfl) (vc_seq (K:=(zqt2_53_M Q E)) (zqt2_57ok Q E τ H h) (zqt2_55ok Q E)))
noncomputable def zqt2_q24 :XT:=(xthen (zqt2_56_M Q E) (zqt2_q1 Q E))
noncomputable def zqt2_q25 :XT:=(xblock 0 (zqt2_q24 Q E))
noncomputable def zqt2_p46:Code:=sI (sB (sA zqt2_p4))
noncomputable def zqt2_q26 (nx139:Int→Int→HP):XT:=(xthen (fun τ H=>mI .i64 (τ 9) fun x9'=>mI .i64 (τ 35) fun x35'=>nx139 x9' x35' H) (zqt2_q25 Q E))
noncomputable def zqt2_p48:Code:=sB (sI zqt2_p46)
def zqt2_59 (nx139:Int→Int→HP) (Q:QT) (E:ET) (x0:OA) (l0 c0:Nat) (x1:Int) (x2:ByteArray) (x3:OA) (l3 c3:Nat) (x9:Int) (x33:OA) (l33 c33:Nat) (x34 x35:Int) (H:Heap):Prop :=
 (0≤x35∧x35 < (l33:Int))∧ptr x33 fun q140 =>
 ldSl (Addr.add q140 (x35.toNat * 1)) H fun p141 l142 c143 =>
 nx139 (IntKind.wrap .i64 (x9+(l142:Int))) (IntKind.wrap .i64 (x35+1)) H
def zqt2_59_M (nx139:Int→Int→HP) (τ:Tau) (H:Heap):Prop:=mSl (τ 0) fun x0 l0 c0=>mI .i64 (τ 1) fun x1=>mS (τ 2) fun x2=>mSl (τ 3) fun x3 l3 c3=>mI .i64 (τ 9) fun x9=>mSl (τ 33) fun x33 l33 c33=>mI .i64 (τ 34) fun x34=>mI .i64 (τ 35) fun x35=>zqt2_59 nx139 Q E x0 l0 c0 x1 x2 x3 l3 c3 x9 x33 l33 c33 x34 x35 H
theorem zqt2_60ok (nx139:Int→Int→HP):Ok Pr (zqt2_59_M Q E nx139) (sB zqt2_p48) (zqt2_q26 Q E nx139) E:=fun τ H h =>
  wSl 0 h (fun x0 l0 c0 h=>wI 1 h (fun x1 h=>wS 2 h (fun x2 h=>wSl 3 h (fun x3 l3 c3 h=>wI 9 h (fun x9 h=>wSl 33 h (fun x33 l33 c33 h=>wI 34 h (fun x34 h=>wI 35 h (fun x35 h=>(conv (by kernel_rfl) h)))))))))
noncomputable def zqt2_q27 (nx139:Int→Int→HP):XT:=(xthen (zqt2_59_M Q E nx139) (zqt2_q26 Q E nx139))
def zqt2_61 (nx139:Int→Int→HP) (Q:QT) (E:ET) (x0:OA) (l0 c0:Nat) (x1:Int) (x2:ByteArray) (x3:OA) (l3 c3:Nat) (x9:Int) (x33:OA) (l33 c33:Nat) (x34 x35:Int) (x36:Bool) (H:Heap):Prop :=
 sel x36
 (zqt2_59 nx139 Q E x0 l0 c0 x1 x2 x3 l3 c3 x9 x33 l33 c33 x34 x35 H)
 (zqt2_56 Q E x0 l0 c0 x1 x2 x3 l3 c3 x9 H)
def zqt2_61_M (nx139:Int→Int→HP) (τ:Tau) (H:Heap):Prop:=mSl (τ 0) fun x0 l0 c0=>mI .i64 (τ 1) fun x1=>mS (τ 2) fun x2=>mSl (τ 3) fun x3 l3 c3=>mI .i64 (τ 9) fun x9=>mSl (τ 33) fun x33 l33 c33=>mI .i64 (τ 34) fun x34=>mI .i64 (τ 35) fun x35=>mB (τ 36) fun x36=>zqt2_61 nx139 Q E x0 l0 c0 x1 x2 x3 l3 c3 x9 x33 l33 c33 x34 x35 x36 H
theorem zqt2_62ok (nx139:Int→Int→HP):Ok Pr (zqt2_61_M Q E nx139) (sA zqt2_p48) (zqt2_q27 Q E nx139) E:=fun τ H h =>
  wSl 0 h (fun x0 l0 c0 h=>wI 1 h (fun x1 h=>wS 2 h (fun x2 h=>wSl 3 h (fun x3 l3 c3 h=>wI 9 h (fun x9 h=>wSl 33 h (fun x33 l33 c33 h=>wI 34 h (fun x34 h=>wI 35 h (fun x35 h=>wB 36 h (fun x36 h=>(conv (by kernel_rfl) h))))))))))
theorem zqt2_63ok (nx139:Int→Int→HP):Ok Pr (zqt2_61_M Q E nx139) zqt2_p48 (zqt2_q26 Q E nx139) E:=fun τ H h =>
  (conv (by kernel_rfl) (vc_seq (K:=(zqt2_59_M Q E nx139)) (zqt2_62ok Q E nx139 τ H h) (zqt2_60ok Q E nx139)))
noncomputable def zqt2_q28 (nx139:Int→Int→HP):XT:=(xthen (zqt2_61_M Q E nx139) (zqt2_q26 Q E nx139))
def zqt2_64 (nx139:Int→Int→HP) (Q:QT) (E:ET) (x0:OA) (l0 c0:Nat) (x1:Int) (x2:ByteArray) (x3:OA) (l3 c3:Nat) (x9:Int) (x33:OA) (l33 c33:Nat) (x34 x35:Int) (H:Heap):Prop :=
 zqt2_61 nx139 Q E x0 l0 c0 x1 x2 x3 l3 c3 x9 x33 l33 c33 x34 x35 (decide (x35 < x34)) H
def zqt2_64_M (nx139:Int→Int→HP) (τ:Tau) (H:Heap):Prop:=mSl (τ 0) fun x0 l0 c0=>mI .i64 (τ 1) fun x1=>mS (τ 2) fun x2=>mSl (τ 3) fun x3 l3 c3=>mI .i64 (τ 9) fun x9=>mSl (τ 33) fun x33 l33 c33=>mI .i64 (τ 34) fun x34=>mI .i64 (τ 35) fun x35=>zqt2_64 nx139 Q E x0 l0 c0 x1 x2 x3 l3 c3 x9 x33 l33 c33 x34 x35 H
theorem zqt2_65ok (nx139:Int→Int→HP):Ok Pr (zqt2_64_M Q E nx139) (sA (sI zqt2_p46)) (zqt2_q28 Q E nx139) E:=fun τ H h =>
  wSl 0 h (fun x0 l0 c0 h=>wI 1 h (fun x1 h=>wS 2 h (fun x2 h=>wSl 3 h (fun x3 l3 c3 h=>wI 9 h (fun x9 h=>wSl 33 h (fun x33 l33 c33 h=>wI 34 h (fun x34 h=>wI 35 h (fun x35 h=>(conv (by kernel_rfl) h)))))))))
theorem zqt2_66ok (nx139:Int→Int→HP):Ok Pr (zqt2_64_M Q E nx139) (sI zqt2_p46) (zqt2_q26 Q E nx139) E:=fun τ H h =>
  (conv (by kernel_rfl) (vc_seq (K:=(zqt2_61_M Q E nx139)) (zqt2_65ok Q E nx139 τ H h) (zqt2_63ok Q E nx139)))
def zqt2_67 (Q:QT) (E:ET) (x0:OA) (l0 c0:Nat) (x1:Int) (x2:ByteArray) (x3:OA) (l3 c3:Nat) (x33:OA) (l33 c33:Nat) (x34 x9 x35:Int) (H:Heap):Prop :=
 ∃ (I:Int→Int→HP) (μ:Int→Int→Heap→Nat),I x9 x35 H∧∀ (x9 x35:Int) (H:Heap),I x9 x35 H →
 zqt2_64 (fun x9' x35' H1=>I x9' x35' H1∧μ x9' x35' H1 < μ x9 x35 H) Q E x0 l0 c0 x1 x2 x3 l3 c3 x9 x33 l33 c33 x34 x35 H
def zqt2_67_M:Prop:=mSl (τ 0) fun x0 l0 c0=>mI .i64 (τ 1) fun x1=>mS (τ 2) fun x2=>mSl (τ 3) fun x3 l3 c3=>mSl (τ 33) fun x33 l33 c33=>mI .i64 (τ 34) fun x34=>mI .i64 (τ 9) fun x9=>mI .i64 (τ 35) fun x35=>zqt2_67 Q E x0 l0 c0 x1 x2 x3 l3 c3 x33 l33 c33 x34 x9 x35 H
theorem zqt2_68ok :Ok Pr (zqt2_67_M Q E) zqt2_p46 (zqt2_q25 Q E) E:=fun τ H h =>
  wSl 0 h (fun x0 l0 c0 h=>wI 1 h (fun x1 h=>wS 2 h (fun x2 h=>wSl 3 h (fun x3 l3 c3 h=>wSl 33 h (fun x33 l33 c33 h=>wI 34 h (fun x34 h=>wI 9 h (fun x9 h=>wI 35 h (fun x35 h=>match h with | ⟨I,μ,h0,hr⟩=>(conv (by kernel_rfl) (vc_loopG (c:=sI zqt2_p46) (τ:=(Tau.upd (Tau.upd (Tau.upd (Tau.upd (Tau.upd (Tau.upd (Tau.upd (Tau.upd τ 0 (.slice x0 l0 c0)) 1 (.int .i64 x1)) 2 (.string x2)) 3 (.slice x3 l3 c3)) 33 (.slice x33 l33 c33)) 34 (.int .i64 x34)) 9 (.int .i64 x9)) 35 (.int .i64 x35))) [0,1,2,3,33,34] (fun τ H=>mI .i64 (τ 9) fun x9'=>mI .i64 (τ 35) fun x35'=>I x9' x35' H) (fun τ H=>μ (gI (τ 9)) (gI (τ 35)) H) (by kernel_rfl) h0 (fun τ1 H1 hf hI=>uF 0 (.slice x0 l0 c0) (hf 0 (by simp)) (uF 1 (.int .i64 x1) (hf 1 (by simp)) (uF 2 (.string x2) (hf 2 (by simp)) (uF 3 (.slice x3 l3 c3) (hf 3 (by simp)) (uF 33 (.slice x33 l33 c33) (hf 33 (by simp)) (uF 34 (.int .i64 x34) (hf 34 (by simp)) (uI 9 hI (fun x9r h=>uI 35 h (fun x35r h=>lgx (zqt2_66ok Q E (fun x9' x35' H2=>I x9' x35' H2∧μ x9' x35' H2 < μ x9r x35r H1) (Tau.upd (Tau.upd (Tau.upd (Tau.upd (Tau.upd (Tau.upd (Tau.upd (Tau.upd τ1 0 (.slice x0 l0 c0)) 1 (.int .i64 x1)) 2 (.string x2)) 3 (.slice x3 l3 c3)) 33 (.slice x33 l33 c33)) 34 (.int .i64 x34)) 9 (.int .i64 x9r)) 35 (.int .i64 x35r)) H1 (conv (by kernel_rfl) (hr x9r x35r H1 h))) (fun τ2 H2 hk=>kI 9 hk (fun x9' h=>kI 35 h (fun x35' h=>conv (by kernel_rfl) h))))))))))))))))))))))
theorem zqt2_69ok :Ok Pr (zqt2_67_M Q E) (sB (sA zqt2_p4)) (zqt2_q24 Q E) E:=fun τ H h =>
  (conv (by kernel_rfl) (zqt2_68ok Q E τ H h))
noncomputable def zqt2_q29 :XT:=(xthen (zqt2_67_M Q E) (zqt2_q24 Q E))
def zqt2_70 (Q:QT) (E:ET) (x0:OA) (l0 c0:Nat) (x1:Int) (x2:ByteArray) (x3:OA) (l3 c3:Nat) (x9:Int) (H:Heap):Prop :=
 zqt2_67 Q E x0 l0 c0 x1 x2 x3 l3 c3 x3 l3 c3 (l3:Int) x9 0 H
def zqt2_70_M:Prop:=mSl (τ 0) fun x0 l0 c0=>mI .i64 (τ 1) fun x1=>mS (τ 2) fun x2=>mSl (τ 3) fun x3 l3 c3=>mI .i64 (τ 9) fun x9=>zqt2_70 Q E x0 l0 c0 x1 x2 x3 l3 c3 x9 H
theorem zqt2_71ok :Ok Pr (zqt2_70_M Q E) (sA (sA zqt2_p4)) (zqt2_q29 Q E) E:=fun τ H h =>
  wSl 0 h (fun x0 l0 c0 h=>wI 1 h (fun x1 h=>wS 2 h (fun x2 h=>wSl 3 h (fun x3 l3 c3 h=>wI 9 h (fun x9 h=>(conv (by kernel_rfl) h))))))
theorem zqt2_72ok :Ok Pr (zqt2_70_M Q E) (sA zqt2_p4) (zqt2_q24 Q E) E:=fun τ H h =>
  (conv (by kernel_rfl) (vc_seq (K:=(zqt2_67_M Q E)) (zqt2_71ok Q E τ H h) (zqt2_69ok Q E)))
theorem zqt2_73ok :Ok Pr (zqt2_70_M Q E) zqt2_p4 (zqt2_q1 Q E) E:=fun τ H h =>
  (conv (by kernel_rfl) (vc_seq (K:=(zqt2_56_M Q E)) (zqt2_72ok Q E τ H h) (zqt2_58ok Q E)))
noncomputable def zqt2_q30 :XT:=(xthen (zqt2_70_M Q E) (zqt2_q1 Q E))
def zqt2_74 (Q:QT) (E:ET) (x0:OA) (l0 c0:Nat) (x1:Int) (x2:ByteArray) (x3:OA) (l3 c3:Nat) (H:Heap):Prop :=
 zqt2_70 Q E x0 l0 c0 x1 x2 x3 l3 c3 0 H
def zqt2_74_M:Prop:=mSl (τ 0) fun x0 l0 c0=>mI .i64 (τ 1) fun x1=>mS (τ 2) fun x2=>mSl (τ 3) fun x3 l3 c3=>zqt2_74 Q E x0 l0 c0 x1 x2 x3 l3 c3 H
theorem zqt2_75ok :Ok Pr (zqt2_74_M Q E) (sA (sB zqt2_p2)) (zqt2_q30 Q E) E:=fun τ H h =>
  wSl 0 h (fun x0 l0 c0 h=>wI 1 h (fun x1 h=>wS 2 h (fun x2 h=>wSl 3 h (fun x3 l3 c3 h=>(conv (by kernel_rfl) h)))))
theorem zqt2_76ok :Ok Pr (zqt2_74_M Q E) (sB zqt2_p2) (zqt2_q1 Q E) E:=fun τ H h =>
  (conv (by kernel_rfl) (vc_seq (K:=(zqt2_70_M Q E)) (zqt2_75ok Q E τ H h) (zqt2_73ok Q E)))
noncomputable def zqt2_q31 :XT:=(xthen (zqt2_74_M Q E) (zqt2_q1 Q E))
def zqt2_77 (Q:QT) (E:ET) (x0:OA) (l0 c0:Nat) (x1:Int) (x2:ByteArray) (x3:OA) (l3 c3:Nat) (x32:Bool) (H:Heap):Prop :=
 sel x32
 (Q (.bool true) H)
 (zqt2_74 Q E x0 l0 c0 x1 x2 x3 l3 c3 H)
def zqt2_77_M:Prop:=mSl (τ 0) fun x0 l0 c0=>mI .i64 (τ 1) fun x1=>mS (τ 2) fun x2=>mSl (τ 3) fun x3 l3 c3=>mB (τ 32) fun x32=>zqt2_77 Q E x0 l0 c0 x1 x2 x3 l3 c3 x32 H
theorem zqt2_78ok :Ok Pr (zqt2_77_M Q E) (sB (sA zqt2_p2)) (zqt2_q31 Q E) E:=fun τ H h =>
  wSl 0 h (fun x0 l0 c0 h=>wI 1 h (fun x1 h=>wS 2 h (fun x2 h=>wSl 3 h (fun x3 l3 c3 h=>wB 32 h (fun x32 h=>(conv (by kernel_rfl) h))))))
noncomputable def zqt2_q32 :XT:=(xthen (zqt2_77_M Q E) (zqt2_q31 Q E))
def zqt2_79 (Q:QT) (E:ET) (x0:OA) (l0 c0:Nat) (x1:Int) (x2:ByteArray) (x3:OA) (l3 c3:Nat) (H:Heap):Prop :=
 sel (decide ((((ByteArray.size x2:Nat):Int):Int) > 20))
 (zqt2_77 Q E x0 l0 c0 x1 x2 x3 l3 c3 true H)
 (zqt2_77 Q E x0 l0 c0 x1 x2 x3 l3 c3 (decide (((l3:Int):Int) > 5)) H)
def zqt2_79_M:Prop:=mSl (τ 0) fun x0 l0 c0=>mI .i64 (τ 1) fun x1=>mS (τ 2) fun x2=>mSl (τ 3) fun x3 l3 c3=>zqt2_79 Q E x0 l0 c0 x1 x2 x3 l3 c3 H
theorem zqt2_80ok :Ok Pr (zqt2_79_M Q E) (sA (sA zqt2_p2)) (zqt2_q32 Q E) E:=fun τ H h =>
  wSl 0 h (fun x0 l0 c0 h=>wI 1 h (fun x1 h=>wS 2 h (fun x2 h=>wSl 3 h (fun x3 l3 c3 h=>(conv (by kernel_rfl) h)))))
theorem zqt2_81ok :Ok Pr (zqt2_79_M Q E) (sA zqt2_p2) (zqt2_q31 Q E) E:=fun τ H h =>
  (conv (by kernel_rfl) (vc_seq (K:=(zqt2_77_M Q E)) (zqt2_80ok Q E τ H h) (zqt2_78ok Q E)))
theorem zqt2_82ok :Ok Pr (zqt2_79_M Q E) zqt2_p2 (zqt2_q1 Q E) E:=fun τ H h =>
  (conv (by kernel_rfl) (vc_seq (K:=(zqt2_74_M Q E)) (zqt2_81ok Q E τ H h) (zqt2_76ok Q E)))
noncomputable def zqt2_q33 :XT:=(xthen (zqt2_79_M Q E) (zqt2_q1 Q E))
def zqt2_83 (Q:QT) (E:ET) (x0:OA) (l0 c0:Nat) (x1:Int) (x2:ByteArray) (x3:OA) (l3 c3:Nat) (H:Heap):Prop :=
 Does Pr 43 #[] H (fun v144 H145 =>
 ∃ b146:Bool,v144=(.bool b146)∧sel (!b146)
 (Q (.bool false) H145)
 (zqt2_79 Q E x0 l0 c0 x1 x2 x3 l3 c3 H145)) E
def zqt2_83_M:Prop:=mSl (τ 0) fun x0 l0 c0=>mI .i64 (τ 1) fun x1=>mS (τ 2) fun x2=>mSl (τ 3) fun x3 l3 c3=>zqt2_83 Q E x0 l0 c0 x1 x2 x3 l3 c3 H
theorem zqt2_84ok :Ok Pr (zqt2_83_M Q E) (sA (sB (bodyOf Try.f14))) (zqt2_q33 Q E) E:=fun τ H h =>
  wSl 0 h (fun x0 l0 c0 h=>wI 1 h (fun x1 h=>wS 2 h (fun x2 h=>wSl 3 h (fun x3 l3 c3 h=>(conv (by kernel_rfl) h)))))
theorem zqt2_85ok :Ok Pr (zqt2_83_M Q E) (sB (bodyOf Try.f14)) (zqt2_q1 Q E) E:=fun τ H h =>
  (conv (by kernel_rfl) (vc_seq (K:=(zqt2_79_M Q E)) (zqt2_84ok Q E τ H h) (zqt2_82ok Q E)))
def zqt2 (Q:QT) (E:ET) (a0:OA) (a0l:Nat) (a0c:Nat) (a1:Int) (a2:ByteArray) (a3:OA) (a3l:Nat) (a3c:Nat) (H:Heap):Prop :=
 zqt2_83 Q E a0 a0l a0c a1 a2 a3 a3l a3c H
theorem zqt2_fn (a0:OA) (a0l:Nat) (a0c:Nat) (a1:Int) (a2:ByteArray) (a3:OA) (a3l:Nat) (a3c:Nat) (Q:QT) (E:ET) (H:Heap) (h:zqt2 Q E a0 a0l a0c a1 a2 a3 a3l a3c H)  :Does Pr 14 #[(.slice a0 a0l a0c),(.int .i64 a1),(.string a2),(.slice a3 a3l a3c)] H Q E :=
  Fn_of_vc (fn:=Try.f14) (c:=(bodyOf Try.f14)) (args:=[(.slice a0 a0l a0c),(.int .i64 a1),(.string a2),(.slice a3 a3l a3c)]) mixed (by kernel_rfl) (by kernel_rfl) (by kernel_rfl) (by kernel_rfl) (by kernel_rfl) ((conv (B:=vc Pr (bodyOf Try.f14) (argT [(.slice a0 a0l a0c),(.int .i64 a1),(.string a2),(.slice a3 a3l a3c)]) (zqt2_q1 Q E) E H) (by kernel_rfl) (vc_seq (K:=(zqt2_83_M Q E)) (conv (B:=vc Pr (sA (bodyOf Try.f14)) (argT [(.slice a0 a0l a0c),(.int .i64 a1),(.string a2),(.slice a3 a3l a3c)]) (xthen (zqt2_83_M Q E) (zqt2_q1 Q E)) E H) (by kernel_rfl) h) (zqt2_85ok Q E))))
noncomputable def zqu2_q1 (Q:QT) (E:ET) :XT:=(retQ Pr (Try.f43).results.toList Q)
def zqu2 (Q:QT) (E:ET)  (H:Heap):Prop :=
 nw (.cells #[(.int .u8 97),(.int .u8 98)] 5 (0,0)) H fun i1 H2 =>
 ∃ (cs3:Array Value) (t4:TypeId),H2 i1=some (.cells cs3 t4 (0,0))∧(fun H5 =>
 nw (.cells #[(.int .u8 98)] 5 (0,0)) H5 fun i6 H7 =>
 ∃ (cs8:Array Value) (t9:TypeId),H7 i6=some (.cells cs8 t9 (0,0))∧(fun H10 =>
 nw (.cells #[(.int .u8 10),(.int .u8 120)] 5 (0,0)) H10 fun i11 H12 =>
 ∃ (cs13:Array Value) (t14:TypeId),H12 i11=some (.cells cs13 t14 (0,0))∧(fun H15 =>
 nw (.cells #[(.slice (some ⟨i1,0,none⟩) 2 2),(.slice (some ⟨i6,0,none⟩) 1 1),(.slice (some ⟨i11,0,none⟩) 2 2)] 24 (0,0)) H15 fun i16 H17 =>
 Does Pr 45 #[(.string ⟨[98,36].toArray⟩),(.slice (some ⟨i16,0,none⟩) 3 3)] H17 (fun v18 H19 =>
 ∃ n20 n21 n22:Int,v18=(.tuple #[(.int .i64 n20),(.int .i64 n21),(.int .i64 n22)])∧Does Pr 45 #[(.string ⟨#[]⟩),(.slice none 0 0)] H19 (fun v23 H24 =>
 ∃ n25 n26 n27:Int,v23=(.tuple #[(.int .i64 n25),(.int .i64 n26),(.int .i64 n27)])∧sel (n22 == 0)
 (sel (n20 == 2)
 (sel (n21 == 4)
 (sel (n25 == (-1))
 (Q (.bool (n26 == 0)) H24)
 (Q (.bool false) H24))
 (Q (.bool false) H24))
 (Q (.bool false) H24))
 (Q (.bool false) H24)) E) E) (Heap.set H12 i11 (.cells cs13 t14 (cs13.size,cs13.size+1)))) (Heap.set H7 i6 (.cells cs8 t9 (cs8.size,cs8.size+1)))) (Heap.set H2 i1 (.cells cs3 t4 (cs3.size,cs3.size+1)))
theorem zqu2_fn  (Q:QT) (E:ET) (H:Heap) (h:zqu2 Q E  H)  :Does Pr 43 #[] H Q E :=
  Fn_of_vc (fn:=Try.f43) (c:=(bodyOf Try.f43)) (args:=[]) mixed (by kernel_rfl) (by kernel_rfl) (by kernel_rfl) (by kernel_rfl) (by kernel_rfl) ((conv (B:=vc Pr (bodyOf Try.f43) (argT []) (zqu2_q1 Q E) E H) (by kernel_rfl) h))
noncomputable def zqv2_q1 (Q:QT) (E:ET) :XT:=(retQ Pr (Try.f44).results.toList Q)
noncomputable def zqv2_p2:Code:=sB (sB (bodyOf Try.f44))
def zqv2_1 (Q:QT) (E:ET) (x4:OA) (l4 c4:Nat) (H:Heap):Prop :=
 Q (.slice x4 l4 c4) H
def zqv2_1_M:Prop:=mSl (τ 4) fun x4 l4 c4=>zqv2_1 Q E x4 l4 c4 H
theorem zqv2_2ok :Ok Pr (zqv2_1_M Q E) (sB (sB zqv2_p2)) (zqv2_q1 Q E) E:=fun τ H h =>
  wSl 4 h (fun x4 l4 c4 h=>(conv (by kernel_rfl) h))
noncomputable def zqv2_q2 :XT:=(xthen (zqv2_1_M Q E) (zqv2_q1 Q E))
noncomputable def zqv2_p7:Code:=sI (sB (sA (sB zqv2_p2)))
noncomputable def zqv2_q4 (nx21:OA→Nat→Nat→Int→HP):XT:=(xthen (fun τ H=>mSl (τ 4) fun x4' l4' c4'=>mI .i64 (τ 5) fun x5'=>nx21 x4' l4' c4' x5' H) (xblock 0 (zqv2_q2 Q E)))
def zqv2_3 (nx21:OA→Nat→Nat→Int→HP) (Q:QT) (E:ET) (x3 x4:OA) (l4 c4:Nat) (x5:Int) (H:Heap):Prop :=
 Does Pr 76 #[(.pointer x3)] H (fun v22 H23 =>
 ∃ (p24:OA) (l25 c26:Nat),v22=(.slice p24 l25 c26)∧nw (.cells #[(.slice p24 l25 c26)] 24 (0,0)) H23 fun i27 H28 =>
 app Pr 64 x4 l4 c4 (.slice (some ⟨i27,0,none⟩) 1 1) H28 fun p29 l30 c31 H32 =>
 nx21 p29 l30 c31 (IntKind.wrap .i64 (x5 - 1)) H32) E
def zqv2_3_M (nx21:OA→Nat→Nat→Int→HP) (τ:Tau) (H:Heap):Prop:=mP (τ 3) fun x3=>mSl (τ 4) fun x4 l4 c4=>mI .i64 (τ 5) fun x5=>zqv2_3 nx21 Q E x3 x4 l4 c4 x5 H
theorem zqv2_4ok (nx21:OA→Nat→Nat→Int→HP):Ok Pr (zqv2_3_M Q E nx21) (sB (sI zqv2_p7)) (zqv2_q4 Q E nx21) E:=fun τ H h =>
  wP 3 h (fun x3 h=>wSl 4 h (fun x4 l4 c4 h=>wI 5 h (fun x5 h=>(conv (by kernel_rfl) h))))
noncomputable def zqv2_q5 (nx21:OA→Nat→Nat→Int→HP):XT:=(xthen (zqv2_3_M Q E nx21) (zqv2_q4 Q E nx21))
def zqv2_5 (nx21:OA→Nat→Nat→Int→HP) (Q:QT) (E:ET) (x3 x4:OA) (l4 c4:Nat) (x5:Int) (H:Heap):Prop :=
 sel (decide (x5 > 0))
 (zqv2_3 nx21 Q E x3 x4 l4 c4 x5 H)
 (zqv2_1 Q E x4 l4 c4 H)
def zqv2_5_M (nx21:OA→Nat→Nat→Int→HP) (τ:Tau) (H:Heap):Prop:=mP (τ 3) fun x3=>mSl (τ 4) fun x4 l4 c4=>mI .i64 (τ 5) fun x5=>zqv2_5 nx21 Q E x3 x4 l4 c4 x5 H
theorem zqv2_6ok (nx21:OA→Nat→Nat→Int→HP):Ok Pr (zqv2_5_M Q E nx21) (sA (sI zqv2_p7)) (zqv2_q5 Q E nx21) E:=fun τ H h =>
  wP 3 h (fun x3 h=>wSl 4 h (fun x4 l4 c4 h=>wI 5 h (fun x5 h=>(conv (by kernel_rfl) h))))
theorem zqv2_7ok (nx21:OA→Nat→Nat→Int→HP):Ok Pr (zqv2_5_M Q E nx21) (sI zqv2_p7) (zqv2_q4 Q E nx21) E:=fun τ H h =>
  (conv (by kernel_rfl) (vc_seq (K:=(zqv2_3_M Q E nx21)) (zqv2_6ok Q E nx21 τ H h) (zqv2_4ok Q E nx21)))
def zqv2_8 (Q:QT) (E:ET) (x3 x4:OA) (l4 c4:Nat) (x5:Int) (H:Heap):Prop :=
 ∃ (I:OA→Nat→Nat→Int→HP) (μ:OA→Nat→Nat→Int→Heap→Nat),I x4 l4 c4 x5 H∧∀ (x4:OA) (l4 c4:Nat) (x5:Int) (H:Heap),I x4 l4 c4 x5 H →
 zqv2_5 (fun x4' l4' c4' x5' H1=>I x4' l4' c4' x5' H1∧μ x4' l4' c4' x5' H1 < μ x4 l4 c4 x5 H) Q E x3 x4 l4 c4 x5 H
def zqv2_8_M:Prop:=mP (τ 3) fun x3=>mSl (τ 4) fun x4 l4 c4=>mI .i64 (τ 5) fun x5=>zqv2_8 Q E x3 x4 l4 c4 x5 H
theorem zqv2_9ok :Ok Pr (zqv2_8_M Q E) zqv2_p7 (xblock 0 (zqv2_q2 Q E)) E:=fun τ H h =>
  wP 3 h (fun x3 h=>wSl 4 h (fun x4 l4 c4 h=>wI 5 h (fun x5 h=>match h with | ⟨I,μ,h0,hr⟩=>(conv (by kernel_rfl) (vc_loopG (c:=sI zqv2_p7) (τ:=(Tau.upd (Tau.upd (Tau.upd τ 3 (.pointer x3)) 4 (.slice x4 l4 c4)) 5 (.int .i64 x5))) [3] (fun τ H=>mSl (τ 4) fun x4' l4' c4'=>mI .i64 (τ 5) fun x5'=>I x4' l4' c4' x5' H) (fun τ H=>μ (gL1 (τ 4)) (gL2 (τ 4)) (gL3 (τ 4)) (gI (τ 5)) H) (by kernel_rfl) h0 (fun τ1 H1 hf hI=>uF 3 (.pointer x3) (hf 3 (by simp)) (uSl 4 hI (fun x4r l4r c4r h=>uI 5 h (fun x5r h=>lgx (zqv2_7ok Q E (fun x4' l4' c4' x5' H2=>I x4' l4' c4' x5' H2∧μ x4' l4' c4' x5' H2 < μ x4r l4r c4r x5r H1) (Tau.upd (Tau.upd (Tau.upd τ1 3 (.pointer x3)) 4 (.slice x4r l4r c4r)) 5 (.int .i64 x5r)) H1 (conv (by kernel_rfl) (hr x4r l4r c4r x5r H1 h))) (fun τ2 H2 hk=>kSl 4 hk (fun x4' l4' c4' h=>kI 5 h (fun x5' h=>conv (by kernel_rfl) h))))))))))))
theorem zqv2_10ok :Ok Pr (zqv2_8_M Q E) (sB (sA (sB zqv2_p2))) (zqv2_q2 Q E) E:=fun τ H h =>
  (conv (by kernel_rfl) (zqv2_9ok Q E τ H h))
noncomputable def zqv2_q6 :XT:=(xthen (zqv2_8_M Q E) (zqv2_q2 Q E))
def zqv2_11 (Q:QT) (E:ET) (x3 x4:OA) (l4 c4:Nat) (H:Heap):Prop :=
 Does Pr 49 #[(.pointer x3),(.int .i64 6)] H (fun v33 H34 =>
 ∃ n35:Int,v33=(.int .i64 n35)∧zqv2_8 Q E x3 x4 l4 c4 n35 H34) E
def zqv2_11_M:Prop:=mP (τ 3) fun x3=>mSl (τ 4) fun x4 l4 c4=>zqv2_11 Q E x3 x4 l4 c4 H
theorem zqv2_12ok :Ok Pr (zqv2_11_M Q E) (sA (sA (sB zqv2_p2))) (zqv2_q6 Q E) E:=fun τ H h =>
  wP 3 h (fun x3 h=>wSl 4 h (fun x4 l4 c4 h=>(conv (by kernel_rfl) h)))
theorem zqv2_13ok :Ok Pr (zqv2_11_M Q E) (sA (sB zqv2_p2)) (zqv2_q2 Q E) E:=fun τ H h =>
  (conv (by kernel_rfl) (vc_seq (K:=(zqv2_8_M Q E)) (zqv2_12ok Q E τ H h) (zqv2_10ok Q E)))
theorem zqv2_14ok :Ok Pr (zqv2_11_M Q E) (sB zqv2_p2) (zqv2_q1 Q E) E:=fun τ H h =>
  (conv (by kernel_rfl) (vc_seq (K:=(zqv2_1_M Q E)) (zqv2_13ok Q E τ H h) (zqv2_2ok Q E)))
def zqv2_15 (Q:QT) (E:ET) (x3:OA) (H:Heap):Prop :=
 zqv2_11 Q E x3 none 0 0 H
def zqv2_15_M:Prop:=mP (τ 3) fun x3=>zqv2_15 Q E x3 H
theorem zqv2_16ok :Ok Pr (zqv2_15_M Q E) (sA zqv2_p2) (xthen (zqv2_11_M Q E) (zqv2_q1 Q E)) E:=fun τ H h =>
  wP 3 h (fun x3 h=>(conv (by kernel_rfl) h))
theorem zqv2_17ok :Ok Pr (zqv2_15_M Q E) zqv2_p2 (zqv2_q1 Q E) E:=fun τ H h =>
  (conv (by kernel_rfl) (vc_seq (K:=(zqv2_11_M Q E)) (zqv2_16ok Q E τ H h) (zqv2_14ok Q E)))
def zqv2_18 (Q:QT) (E:ET) (x0:OA) (l0 c0:Nat) (H:Heap):Prop :=
 Does Pr 47 #[(.slice x0 l0 c0)] H (fun v36 H37 =>
 ∃ p38:OA,v36=(.pointer p38)∧zqv2_15 Q E p38 H37) E
def zqv2_18_M:Prop:=mSl (τ 0) fun x0 l0 c0=>zqv2_18 Q E x0 l0 c0 H
theorem zqv2_19ok :Ok Pr (zqv2_18_M Q E) (sA (sB (bodyOf Try.f44))) (xthen (zqv2_15_M Q E) (zqv2_q1 Q E)) E:=fun τ H h =>
  wSl 0 h (fun x0 l0 c0 h=>(conv (by kernel_rfl) h))
theorem zqv2_20ok :Ok Pr (zqv2_18_M Q E) (sB (bodyOf Try.f44)) (zqv2_q1 Q E) E:=fun τ H h =>
  (conv (by kernel_rfl) (vc_seq (K:=(zqv2_15_M Q E)) (zqv2_19ok Q E τ H h) (zqv2_17ok Q E)))
def zqv2 (Q:QT) (E:ET) (a0:OA) (a0l:Nat) (a0c:Nat) (H:Heap):Prop :=
 zqv2_18 Q E a0 a0l a0c H
theorem zqv2_fn (a0:OA) (a0l:Nat) (a0c:Nat) (Q:QT) (E:ET) (H:Heap) (h:zqv2 Q E a0 a0l a0c H)  :Does Pr 44 #[(.slice a0 a0l a0c)] H Q E :=
  Fn_of_vc (fn:=Try.f44) (c:=(bodyOf Try.f44)) (args:=[(.slice a0 a0l a0c)]) mixed (by kernel_rfl) (by kernel_rfl) (by kernel_rfl) (by kernel_rfl) (by kernel_rfl) ((conv (B:=vc Pr (bodyOf Try.f44) (argT [(.slice a0 a0l a0c)]) (zqv2_q1 Q E) E H) (by kernel_rfl) (vc_seq (K:=(zqv2_18_M Q E)) (conv (B:=vc Pr (sA (bodyOf Try.f44)) (argT [(.slice a0 a0l a0c)]) (xthen (zqv2_18_M Q E) (zqv2_q1 Q E)) E H) (by kernel_rfl) h) (zqv2_20ok Q E))))
end Go.Proofs.Ytaffcoiomggpfaa
