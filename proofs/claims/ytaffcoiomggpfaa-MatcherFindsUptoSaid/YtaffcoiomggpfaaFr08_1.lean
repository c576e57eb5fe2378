import Derived.Test.YtaffcoiomggpfaaVPr
/- Printed by gen.py: the Go functions of package r08 over a heap view,and that the model does so. -/
namespace Go.Proofs.Ytaffcoiomggpfaa
open Go.V
set_option linter.unusedVariables false
set_option maxRecDepth 100000
variable (Q:QT) (E:ET) (τ:Tau) (H:Heap)
noncomputable def zqa_q1 (Q:QT) (E:ET) :XT:=(retQ Pr (Try.f23).results.toList Q)
noncomputable def zqa_p1:Code:=sB (bodyOf Try.f23)
noncomputable def zqa_p4:Code:=sB (sB (sB zqa_p1))
noncomputable def zqa_p5:Code:=sB zqa_p4
def zqa_1 (Q:QT) (E:ET) (x5:OA) (l5 c5:Nat) (H:Heap):Prop :=
 Q (.tuple #[(.slice x5 l5 c5),(.int .i64 0)]) H
def zqa_1_M:Prop:=mSl (τ 5) fun x5 l5 c5=>zqa_1 Q E x5 l5 c5 H
theorem zqa_2ok :Ok Pr (zqa_1_M Q E) (sB (sB zqa_p5)) (zqa_q1 Q E) E:=fun τ H h =>
  wSl 5 h (fun x5 l5 c5 h=>(conv (by kernel_rfl) h))
noncomputable def zqa_q2 :XT:=(xthen (zqa_1_M Q E) (zqa_q1 Q E))
def zqa_3 (Q:QT) (E:ET) (x4 x5:OA) (l5 c5:Nat) (H:Heap):Prop :=
 ptr x4 fun q17 =>
 ldI .i64 (Addr.add q17 3) H fun n18 =>
 sel (n18 != 0)
 (ptr x4 fun q19 =>
 ldI .i64 (Addr.add q19 3) H fun n20 =>
 Q (.tuple #[(.slice none 0 0),(.int .i64 n20)]) H)
 (zqa_1 Q E x5 l5 c5 H)
def zqa_3_M:Prop:=mP (τ 4) fun x4=>mSl (τ 5) fun x5 l5 c5=>zqa_3 Q E x4 x5 l5 c5 H
theorem zqa_4ok :Ok Pr (zqa_3_M Q E) (sA (sB zqa_p5)) (zqa_q2 Q E) E:=fun τ H h =>
  wP 4 h (fun x4 h=>wSl 5 h (fun x5 l5 c5 h=>(conv (by kernel_rfl) h)))
theorem zqa_5ok :Ok Pr (zqa_3_M Q E) (sB zqa_p5) (zqa_q1 Q E) E:=fun τ H h =>
  (conv (by kernel_rfl) (vc_seq (K:=(zqa_1_M Q E)) (zqa_4ok Q E τ H h) (zqa_2ok Q E)))
noncomputable def zqa_q3 :XT:=(xthen (zqa_3_M Q E) (zqa_q1 Q E))
def zqa_6 (Q:QT) (E:ET) (x4 x5:OA) (l5 c5:Nat) (x39:Bool) (H:Heap):Prop :=
 sel x39
 (Does Pr 57 #[(.pointer x4),(.int .i64 1)] H (fun v22 H23 =>
 zqa_3 Q E x4 x5 l5 c5 H23) E)
 (zqa_3 Q E x4 x5 l5 c5 H)
def zqa_6_M:Prop:=mP (τ 4) fun x4=>mSl (τ 5) fun x5 l5 c5=>mB (τ 39) fun x39=>zqa_6 Q E x4 x5 l5 c5 x39 H
theorem zqa_7ok :Ok Pr (zqa_6_M Q E) (sB (sA zqa_p5)) (zqa_q3 Q E) E:=fun τ H h =>
  wP 4 h (fun x4 h=>wSl 5 h (fun x5 l5 c5 h=>wB 39 h (fun x39 h=>(conv (by kernel_rfl) h))))
noncomputable def zqa_q4 :XT:=(xthen (zqa_6_M Q E) (zqa_q3 Q E))
def zqa_8 (Q:QT) (E:ET) (x4 x5:OA) (l5 c5:Nat) (H:Heap):Prop :=
 ptr x4 fun q24 =>
 ldI .i64 (Addr.add q24 3) H fun n25 =>
 sel (n25 == 0)
 (zqa_6 Q E x4 x5 l5 c5 (decide (((l5:Int):Int) > 256)) H)
 (zqa_6 Q E x4 x5 l5 c5 false H)
def zqa_8_M:Prop:=mP (τ 4) fun x4=>mSl (τ 5) fun x5 l5 c5=>zqa_8 Q E x4 x5 l5 c5 H
theorem zqa_9ok :Ok Pr (zqa_8_M Q E) (sA (sA zqa_p5)) (zqa_q4 Q E) E:=fun τ H h =>
  wP 4 h (fun x4 h=>wSl 5 h (fun x5 l5 c5 h=>(conv (by kernel_rfl) h)))
theorem zqa_10ok :Ok Pr (zqa_8_M Q E) (sA zqa_p5) (zqa_q3 Q E) E:=fun τ H h =>
  (conv (by kernel_rfl) (vc_seq (K:=(zqa_6_M Q E)) (zqa_9ok Q E τ H h) (zqa_7ok Q E)))
theorem zqa_11ok :Ok Pr (zqa_8_M Q E) zqa_p5 (zqa_q1 Q E) E:=fun τ H h =>
  (conv (by kernel_rfl) (vc_seq (K:=(zqa_3_M Q E)) (zqa_10ok Q E τ H h) (zqa_5ok Q E)))
noncomputable def zqa_q5 :XT:=(xthen (zqa_8_M Q E) (zqa_q1 Q E))
def zqa_12 (Q:QT) (E:ET) (x4 x5:OA) (l5 c5:Nat) (x27:Bool) (H:Heap):Prop :=
 sel x27
 (Does Pr 57 #[(.pointer x4),(.int .i64 83)] H (fun v28 H29 =>
 zqa_8 Q E x4 x5 l5 c5 H29) E)
 (zqa_8 Q E x4 x5 l5 c5 H)
def zqa_12_M:Prop:=mP (τ 4) fun x4=>mSl (τ 5) fun x5 l5 c5=>mB (τ 27) fun x27=>zqa_12 Q E x4 x5 l5 c5 x27 H
theorem zqa_13ok :Ok Pr (zqa_12_M Q E) (sB (sA zqa_p4)) (zqa_q5 Q E) E:=fun τ H h =>
  wP 4 h (fun x4 h=>wSl 5 h (fun x5 l5 c5 h=>wB 27 h (fun x27 h=>(conv (by kernel_rfl) h))))
noncomputable def zqa_q6 :XT:=(xthen (zqa_12_M Q E) (zqa_q5 Q E))
def zqa_14 (Q:QT) (E:ET) (x0:ByteArray) (x4 x5:OA) (l5 c5:Nat) (H:Heap):Prop :=
 ptr x4 fun q30 =>
 ldI .i64 (Addr.add q30 3) H fun n31 =>
 sel (n31 == 0)
 (ptr x4 fun q32 =>
 ldI .i64 (Addr.add q32 1) H fun n33 =>
 zqa_12 Q E x4 x5 l5 c5 (decide (n33 < ((ByteArray.size x0:Nat):Int))) H)
 (zqa_12 Q E x4 x5 l5 c5 false H)
def zqa_14_M:Prop:=mS (τ 0) fun x0=>mP (τ 4) fun x4=>mSl (τ 5) fun x5 l5 c5=>zqa_14 Q E x0 x4 x5 l5 c5 H
theorem zqa_15ok :Ok Pr (zqa_14_M Q E) (sA (sA zqa_p4)) (zqa_q6 Q E) E:=fun τ H h =>
  wS 0 h (fun x0 h=>wP 4 h (fun x4 h=>wSl 5 h (fun x5 l5 c5 h=>(conv (by kernel_rfl) h))))
theorem zqa_16ok :Ok Pr (zqa_14_M Q E) (sA zqa_p4) (zqa_q5 Q E) E:=fun τ H h =>
  (conv (by kernel_rfl) (vc_seq (K:=(zqa_12_M Q E)) (zqa_15ok Q E τ H h) (zqa_13ok Q E)))
theorem zqa_17ok :Ok Pr (zqa_14_M Q E) zqa_p4 (zqa_q1 Q E) E:=fun τ H h =>
  (conv (by kernel_rfl) (vc_seq (K:=(zqa_8_M Q E)) (zqa_16ok Q E τ H h) (zqa_11ok Q E)))
noncomputable def zqa_q7 :XT:=(xthen (zqa_14_M Q E) (zqa_q1 Q E))
def zqa_18 (Q:QT) (E:ET) (x0:ByteArray) (x4:OA) (H:Heap):Prop :=
 Does Pr 56 #[(.pointer x4)] H (fun v34 H35 =>
 ∃ (p36:OA) (l37 c38:Nat),v34=(.slice p36 l37 c38)∧zqa_14 Q E x0 x4 p36 l37 c38 H35) E
def zqa_18_M:Prop:=mS (τ 0) fun x0=>mP (τ 4) fun x4=>zqa_18 Q E x0 x4 H
theorem zqa_19ok :Ok Pr (zqa_18_M Q E) (sA (sB (sB zqa_p1))) (zqa_q7 Q E) E:=fun τ H h =>
  wS 0 h (fun x0 h=>wP 4 h (fun x4 h=>(conv (by kernel_rfl) h)))
theorem zqa_20ok :Ok Pr (zqa_18_M Q E) (sB (sB zqa_p1)) (zqa_q1 Q E) E:=fun τ H h =>
  (conv (by kernel_rfl) (vc_seq (K:=(zqa_14_M Q E)) (zqa_19ok Q E τ H h) (zqa_17ok Q E)))
def zqa_21 (Q:QT) (E:ET) (x0:ByteArray) (H:Heap):Prop :=
 nw (.cells #[(.string x0),(.int .i64 0),(.int .i64 0),(.int .i64 0)] 83 (0,0)) H fun i39 H40 =>
 zqa_18 Q E x0 (some ⟨i39,0,none⟩) H40
def zqa_21_M:Prop:=mS (τ 0) fun x0=>zqa_21 Q E x0 H
theorem zqa_22ok :Ok Pr (zqa_21_M Q E) (sA (sB zqa_p1)) (xthen (zqa_18_M Q E) (zqa_q1 Q E)) E:=fun τ H h =>
  wS 0 h (fun x0 h=>(conv (by kernel_rfl) h))
theorem zqa_23ok :Ok Pr (zqa_21_M Q E) (sB zqa_p1) (zqa_q1 Q E) E:=fun τ H h =>
  (conv (by kernel_rfl) (vc_seq (K:=(zqa_18_M Q E)) (zqa_22ok Q E τ H h) (zqa_20ok Q E)))
def zqa_24 (Q:QT) (E:ET) (x0:ByteArray) (H:Heap):Prop :=
 sel (decide ((((ByteArray.size x0:Nat):Int):Int) > 128))
 (Q (.tuple #[(.slice none 0 0),(.int .i64 1)]) H)
 (zqa_21 Q E x0 H)
def zqa_24_M:Prop:=mS (τ 0) fun x0=>zqa_24 Q E x0 H
theorem zqa_25ok :Ok Pr (zqa_24_M Q E) (sA zqa_p1) (xthen (zqa_21_M Q E) (zqa_q1 Q E)) E:=fun τ H h =>
  wS 0 h (fun x0 h=>(conv (by kernel_rfl) h))
theorem zqa_26ok :Ok Pr (zqa_24_M Q E) zqa_p1 (zqa_q1 Q E) E:=fun τ H h =>
  (conv (by kernel_rfl) (vc_seq (K:=(zqa_21_M Q E)) (zqa_25ok Q E τ H h) (zqa_23ok Q E)))
def zqa (Q:QT) (E:ET) (a0:ByteArray) (H:Heap):Prop :=
 zqa_24 Q E a0 H
theorem zqa_fn (a0:ByteArray) (Q:QT) (E:ET) (H:Heap) (h:zqa Q E a0 H)  :Does Pr 23 #[(.string a0)] H Q E :=
  Fn_of_vc (fn:=Try.f23) (c:=(bodyOf Try.f23)) (args:=[(.string a0)]) mixed (by kernel_rfl) (by kernel_rfl) (by kernel_rfl) (by kernel_rfl) (by kernel_rfl) ((conv (B:=vc Pr (bodyOf Try.f23) (argT [(.string a0)]) (zqa_q1 Q E) E H) (by kernel_rfl) (vc_seq (K:=(zqa_24_M Q E)) (conv (B:=vc Pr (sA (bodyOf Try.f23)) (argT [(.string a0)]) (xthen (zqa_24_M Q E) (zqa_q1 Q E)) E H) (by kernel_rfl) h) (zqa_26ok Q E))))
noncomputable def zqb_q1 (Q:QT) (E:ET) :XT:=(retQ Pr (Try.f41).results.toList Q)
def zqb (Q:QT) (E:ET) (a0:OA) (a0l:Nat) (a0c:Nat) (H:Heap):Prop :=
 sel (decide (((a0l:Int):Int) ≥ 1))
 (sel (decide (((a0l:Int):Int)≤256))
 (Does Pr 75 #[(.slice a0 a0l a0c),(.int .i64 (IntKind.wrap .i64 ((a0l:Int) - 1)))] H (fun v1 H2 =>
 ∃ n3:Int,v1=(.int .i64 n3)∧Q (.bool (n3 == 0)) H2) E)
 (Q (.bool false) H))
 (Q (.bool false) H)
theorem zqb_fn (a0:OA) (a0l:Nat) (a0c:Nat) (Q:QT) (E:ET) (H:Heap) (h:zqb Q E a0 a0l a0c H)  :Does Pr 41 #[(.slice a0 a0l a0c)] H Q E :=
  Fn_of_vc (fn:=Try.f41) (c:=(bodyOf Try.f41)) (args:=[(.slice a0 a0l a0c)]) mixed (by kernel_rfl) (by kernel_rfl) (by kernel_rfl) (by kernel_rfl) (by kernel_rfl) ((conv (B:=vc Pr (bodyOf Try.f41) (argT [(.slice a0 a0l a0c)]) (zqb_q1 Q E) E H) (by kernel_rfl) h))
noncomputable def zqc_q1 (Q:QT) (E:ET) :XT:=(retQ Pr (Try.f42).results.toList Q)
noncomputable def zqc_p1:Code:=sB (bodyOf Try.f42)
def zqc_1 (Q:QT) (E:ET)  (H:Heap):Prop :=
 Q (.int .i64 0) H
def zqc_1_M  (τ:Tau) (H:Heap):Prop:=zqc_1 Q E  H
theorem zqc_2ok :Ok Pr (zqc_1_M Q E) (sB zqc_p1) (zqc_q1 Q E) E:=fun τ H h =>
  (conv (by kernel_rfl) h)
noncomputable def zqc_q2 :XT:=(xthen (zqc_1_M Q E) (zqc_q1 Q E))
noncomputable def zqc_q3 :XT:=(xblock 0 (zqc_q2 Q E))
noncomputable def zqc_p6:Code:=sB (sI (sB (sA zqc_p1)))
def zqc_3 (Q:QT) (E:ET)  (H:Heap):Prop :=
 Q (.int .i64 2) H
def zqc_3_M  (τ:Tau) (H:Heap):Prop:=zqc_3 Q E  H
theorem zqc_4ok :Ok Pr (zqc_3_M Q E) (sT zqc_p6) (zqc_q3 Q E) E:=fun τ H h =>
  (conv (by kernel_rfl) h)
def zqc_5 (Q:QT) (E:ET) (x7:Bool) (H:Heap):Prop :=
 sel x7
 (Q (.int .i64 1) H)
 (zqc_1 Q E  H)
def zqc_5_M:Prop:=mB (τ 7) fun x7=>zqc_5 Q E x7 H
theorem zqc_6ok :Ok Pr (zqc_5_M Q E) (sB (sE zqc_p6)) (zqc_q3 Q E) E:=fun τ H h =>
  wB 7 h (fun x7 h=>(conv (by kernel_rfl) h))
def zqc_7 (Q:QT) (E:ET) (x3:Int) (H:Heap):Prop :=
 sel (x3 == 5)
 (zqc_5 Q E (x3 == 5) H)
 (sel (x3 == 6)
 (zqc_5 Q E (x3 == 6) H)
 (zqc_5 Q E (x3 == 7) H))
def zqc_7_M:Prop:=mI .i64 (τ 3) fun x3=>zqc_7 Q E x3 H
theorem zqc_8ok :Ok Pr (zqc_7_M Q E) (sA (sE zqc_p6)) (xthen (zqc_5_M Q E) (zqc_q3 Q E)) E:=fun τ H h =>
  wI 3 h (fun x3 h=>(conv (by kernel_rfl) h))
theorem zqc_9ok :Ok Pr (zqc_7_M Q E) (sE zqc_p6) (zqc_q3 Q E) E:=fun τ H h =>
  (conv (by kernel_rfl) (vc_seq (K:=(zqc_5_M Q E)) (zqc_8ok Q E τ H h) (zqc_6ok Q E)))
def zqc_10 (Q:QT) (E:ET) (x3:Int) (x4:Bool) (H:Heap):Prop :=
 sel x4
 (zqc_3 Q E  H)
 (zqc_7 Q E x3 H)
def zqc_10_M:Prop:=mI .i64 (τ 3) fun x3=>mB (τ 4) fun x4=>zqc_10 Q E x3 x4 H
theorem zqc_11ok :Ok Pr (zqc_10_M Q E) zqc_p6 (zqc_q3 Q E) E:=fun τ H h =>
  wI 3 h (fun x3 h=>wB 4 h (fun x4 h=>(conv (by kernel_rfl) (sel_mapT (b:=x4) (τ:=(Tau.upd (Tau.upd τ 3 (.int .i64 x3)) 4 (.bool x4))) (H:=H) (zqc_4ok Q E) (zqc_9ok Q E) (conv (by kernel_rfl) h)))))
def zqc_12 (Q:QT) (E:ET) (x3:Int) (H:Heap):Prop :=
 sel (x3 == 3)
 (zqc_10 Q E x3 (x3 == 3) H)
 (zqc_10 Q E x3 (x3 == 4) H)
def zqc_12_M:Prop:=mI .i64 (τ 3) fun x3=>zqc_12 Q E x3 H
theorem zqc_13ok :Ok Pr (zqc_12_M Q E) (sA (sI (sB (sA zqc_p1)))) (xthen (zqc_10_M Q E) (zqc_q3 Q E)) E:=fun τ H h =>
  wI 3 h (fun x3 h=>(conv (by kernel_rfl) h))
theorem zqc_14ok :Ok Pr (zqc_12_M Q E) (sI (sB (sA zqc_p1))) (zqc_q3 Q E) E:=fun τ H h =>
  (conv (by kernel_rfl) (vc_seq (K:=(zqc_10_M Q E)) (zqc_13ok Q E τ H h) (zqc_11ok Q E)))
theorem zqc_15ok :Ok Pr (zqc_12_M Q E) (sB (sA zqc_p1)) (zqc_q2 Q E) E:=fun τ H h =>
  (conv (by kernel_rfl) (zqc_14ok Q E τ H h))
def zqc_16 (Q:QT) (E:ET) (x0:Int) (H:Heap):Prop :=
 zqc_12 Q E x0 H
def zqc_16_M:Prop:=mI .i64 (τ 0) fun x0=>zqc_16 Q E x0 H
theorem zqc_17ok :Ok Pr (zqc_16_M Q E) (sA (sA zqc_p1)) (xthen (zqc_12_M Q E) (zqc_q2 Q E)) E:=fun τ H h =>
  wI 0 h (fun x0 h=>(conv (by kernel_rfl) h))
theorem zqc_18ok :Ok Pr (zqc_16_M Q E) (sA zqc_p1) (zqc_q2 Q E) E:=fun τ H h =>
  (conv (by kernel_rfl) (vc_seq (K:=(zqc_12_M Q E)) (zqc_17ok Q E τ H h) (zqc_15ok Q E)))
theorem zqc_19ok :Ok Pr (zqc_16_M Q E) zqc_p1 (zqc_q1 Q E) E:=fun τ H h =>
  (conv (by kernel_rfl) (vc_seq (K:=(zqc_1_M Q E)) (zqc_18ok Q E τ H h) (zqc_2ok Q E)))
def zqc (Q:QT) (E:ET) (a0:Int) (H:Heap):Prop :=
 zqc_16 Q E a0 H
theorem zqc_fn (a0:Int) (Q:QT) (E:ET) (H:Heap) (h:zqc Q E a0 H)  :Does Pr 42 #[(.int .i64 a0)] H Q E :=
  Fn_of_vc (fn:=Try.f42) (c:=(bodyOf Try.f42)) (args:=[(.int .i64 a0)]) mixed (by kernel_rfl) (by kernel_rfl) (by kernel_rfl) (by kernel_rfl) (by kernel_rfl) ((conv (B:=vc Pr (bodyOf Try.f42) (argT [(.int .i64 a0)]) (zqc_q1 Q E) E H) (by kernel_rfl) (vc_seq (K:=(zqc_16_M Q E)) (conv (B:=vc Pr (sA (bodyOf Try.f42)) (argT [(.int .i64 a0)]) (xthen (zqc_16_M Q E) (zqc_q1 Q E)) E H) (by kernel_rfl) h) (zqc_19ok Q E))))
noncomputable def zqd_q1 (Q:QT) (E:ET) :XT:=(retQ Pr (Try.f56).results.toList Q)
noncomputable def zqd_p1:Code:=sB (bodyOf Try.f56)
def zqd_1 (Q:QT) (E:ET) (x3:OA) (l3 c3:Nat) (H:Heap):Prop :=
 Q (.slice x3 l3 c3) H
def zqd_1_M:Prop:=mSl (τ 3) fun x3 l3 c3=>zqd_1 Q E x3 l3 c3 H
theorem zqd_2ok :Ok Pr (zqd_1_M Q E) (sB (sB zqd_p1)) (zqd_q1 Q E) E:=fun τ H h =>
  wSl 3 h (fun x3 l3 c3 h=>(conv (by kernel_rfl) h))
noncomputable def zqd_q2 :XT:=(xthen (zqd_1_M Q E) (zqd_q1 Q E))
noncomputable def zqd_q4 (nx29:OA→Nat→Nat→HP):XT:=(xthen (fun τ H=>mSl (τ 3) fun x3' l3' c3'=>nx29 x3' l3' c3' H) (xblock 0 (zqd_q2 Q E)))
noncomputable def zqd_p6:Code:=sI (sI (sA (sB zqd_p1)))
noncomputable def zqd_q5 (nx29:OA→Nat→Nat→HP):XT:=(xblock 1 (zqd_q4 Q E nx29))
noncomputable def zqd_p9:Code:=sB (sI (sB zqd_p6))
def zqd_3 (nx29:OA→Nat→Nat→HP) (Q:QT) (E:ET) (x0 x3:OA) (l3 c3:Nat) (x4:OA) (l4 c4:Nat) (H:Heap):Prop :=
 Does Pr 91 #[(.int .i64 4),(.slice x3 l3 c3),(.slice x4 l4 c4)] H (fun v48 H49 =>
 ∃ (p50:OA) (l51 c52:Nat),v48=(.slice p50 l51 c52)∧nx29 p50 l51 c52 H49) E
def zqd_3_M (nx29:OA→Nat→Nat→HP) (τ:Tau) (H:Heap):Prop:=mP (τ 0) fun x0=>mSl (τ 3) fun x3 l3 c3=>mSl (τ 4) fun x4 l4 c4=>zqd_3 nx29 Q E x0 x3 l3 c3 x4 l4 c4 H
theorem zqd_4ok (nx29:OA→Nat→Nat→HP):Ok Pr (zqd_3_M Q E nx29) (sB (sB zqd_p9)) (zqd_q5 Q E nx29) E:=fun τ H h =>
  wP 0 h (fun x0 h=>wSl 3 h (fun x3 l3 c3 h=>wSl 4 h (fun x4 l4 c4 h=>(conv (by kernel_rfl) h))))
noncomputable def zqd_q6 (nx29:OA→Nat→Nat→HP):XT:=(xthen (zqd_3_M Q E nx29) (zqd_q5 Q E nx29))
def zqd_5 (nx29:OA→Nat→Nat→HP) (Q:QT) (E:ET) (x0 x3:OA) (l3 c3:Nat) (x4:OA) (l4 c4:Nat) (H:Heap):Prop :=
 ptr x0 fun q53 =>
 ldI .i64 (Addr.add q53 3) H fun n54 =>
 sel (n54 != 0)
 (Q (.slice none 0 0) H)
 (zqd_3 nx29 Q E x0 x3 l3 c3 x4 l4 c4 H)
def zqd_5_M (nx29:OA→Nat→Nat→HP) (τ:Tau) (H:Heap):Prop:=mP (τ 0) fun x0=>mSl (τ 3) fun x3 l3 c3=>mSl (τ 4) fun x4 l4 c4=>zqd_5 nx29 Q E x0 x3 l3 c3 x4 l4 c4 H
theorem zqd_6ok (nx29:OA→Nat→Nat→HP):Ok Pr (zqd_5_M Q E nx29) (sA (sB zqd_p9)) (zqd_q6 Q E nx29) E:=fun τ H h =>
  wP 0 h (fun x0 h=>wSl 3 h (fun x3 l3 c3 h=>wSl 4 h (fun x4 l4 c4 h=>(conv (by kernel_rfl) h))))
theorem zqd_7ok (nx29:OA→Nat→Nat→HP):Ok Pr (zqd_5_M Q E nx29) (sB zqd_p9) (zqd_q5 Q E nx29) E:=fun τ H h =>
  (conv (by kernel_rfl) (vc_seq (K:=(zqd_3_M Q E nx29)) (zqd_6ok Q E nx29 τ H h) (zqd_4ok Q E nx29)))
def zqd_8 (nx29:OA→Nat→Nat→HP) (Q:QT) (E:ET) (x0 x3:OA) (l3 c3:Nat) (H:Heap):Prop :=
 Does Pr 89 #[(.pointer x0)] H (fun v55 H56 =>
 ∃ (p57:OA) (l58 c59:Nat),v55=(.slice p57 l58 c59)∧zqd_5 nx29 Q E x0 x3 l3 c3 p57 l58 c59 H56) E
def zqd_8_M (nx29:OA→Nat→Nat→HP) (τ:Tau) (H:Heap):Prop:=mP (τ 0) fun x0=>mSl (τ 3) fun x3 l3 c3=>zqd_8 nx29 Q E x0 x3 l3 c3 H
theorem zqd_9ok (nx29:OA→Nat→Nat→HP):Ok Pr (zqd_8_M Q E nx29) (sA zqd_p9) (xthen (zqd_5_M Q E nx29) (zqd_q5 Q E nx29)) E:=fun τ H h =>
  wP 0 h (fun x0 h=>wSl 3 h (fun x3 l3 c3 h=>(conv (by kernel_rfl) h)))
theorem zqd_10ok (nx29:OA→Nat→Nat→HP):Ok Pr (zqd_8_M Q E nx29) zqd_p9 (zqd_q5 Q E nx29) E:=fun τ H h =>
  (conv (by kernel_rfl) (vc_seq (K:=(zqd_5_M Q E nx29)) (zqd_9ok Q E nx29 τ H h) (zqd_7ok Q E nx29)))
def zqd_11 (nx29:OA→Nat→Nat→HP) (Q:QT) (E:ET) (x0 x3:OA) (l3 c3:Nat) (H:Heap):Prop :=
 ptr x0 fun q60 =>
 ldI .i64 (Addr.add q60 1) H fun n61 =>
 ptr x0 fun q62 =>
 wr (Addr.add q62 1) [(.int .i64 (IntKind.wrap .i64 (n61+1)))] H fun H63 =>
 zqd_8 nx29 Q E x0 x3 l3 c3 H63
def zqd_11_M (nx29:OA→Nat→Nat→HP) (τ:Tau) (H:Heap):Prop:=mP (τ 0) fun x0=>mSl (τ 3) fun x3 l3 c3=>zqd_11 nx29 Q E x0 x3 l3 c3 H
theorem zqd_12ok (nx29:OA→Nat→Nat→HP):Ok Pr (zqd_11_M Q E nx29) (sA (sI (sB zqd_p6))) (xthen (zqd_8_M Q E nx29) (zqd_q5 Q E nx29)) E:=fun τ H h =>
  wP 0 h (fun x0 h=>wSl 3 h (fun x3 l3 c3 h=>(conv (by kernel_rfl) h)))
theorem zqd_13ok (nx29:OA→Nat→Nat→HP):Ok Pr (zqd_11_M Q E nx29) (sI (sB zqd_p6)) (zqd_q5 Q E nx29) E:=fun τ H h =>
  (conv (by kernel_rfl) (vc_seq (K:=(zqd_8_M Q E nx29)) (zqd_12ok Q E nx29 τ H h) (zqd_10ok Q E nx29)))
theorem zqd_14ok (nx29:OA→Nat→Nat→HP):Ok Pr (zqd_11_M Q E nx29) (sB zqd_p6) (zqd_q4 Q E nx29) E:=fun τ H h =>
  (conv (by kernel_rfl) (zqd_13ok Q E nx29 τ H h))
noncomputable def zqd_q9 (nx29:OA→Nat→Nat→HP):XT:=(xthen (zqd_11_M Q E nx29) (zqd_q4 Q E nx29))
def zqd_15 (nx29:OA→Nat→Nat→HP) (Q:QT) (E:ET) (x0 x3:OA) (l3 c3:Nat) (x20:Bool) (H:Heap):Prop :=
 sel x20
 (zqd_11 nx29 Q E x0 x3 l3 c3 H)
 (zqd_1 Q E x3 l3 c3 H)
def zqd_15_M (nx29:OA→Nat→Nat→HP) (τ:Tau) (H:Heap):Prop:=mP (τ 0) fun x0=>mSl (τ 3) fun x3 l3 c3=>mB (τ 20) fun x20=>zqd_15 nx29 Q E x0 x3 l3 c3 x20 H
theorem zqd_16ok (nx29:OA→Nat→Nat→HP):Ok Pr (zqd_15_M Q E nx29) (sB (sA zqd_p6)) (zqd_q9 Q E nx29) E:=fun τ H h =>
  wP 0 h (fun x0 h=>wSl 3 h (fun x3 l3 c3 h=>wB 20 h (fun x20 h=>(conv (by kernel_rfl) h))))
def zqd_17 (nx29:OA→Nat→Nat→HP) (Q:QT) (E:ET) (x0 x3:OA) (l3 c3:Nat) (H:Heap):Prop :=
 Does Pr 90 #[(.pointer x0)] H (fun v71 H72 =>
 ∃ b73:Bool,v71=(.bool b73)∧sel b73
 (ptr x0 fun q74 =>
 ldS q74 H72 fun s75 =>
 ptr x0 fun q76 =>
 ldI .i64 (Addr.add q76 1) H72 fun n77 =>
 (0≤n77∧n77 < ((ByteArray.size s75:Nat):Int))∧zqd_15 nx29 Q E x0 x3 l3 c3 (((sAt s75 n77):Int) == 124) H72)
 (zqd_15 nx29 Q E x0 x3 l3 c3 false H72)) (fun _ _=>False)
def zqd_17_M (nx29:OA→Nat→Nat→HP) (τ:Tau) (H:Heap):Prop:=mP (τ 0) fun x0=>mSl (τ 3) fun x3 l3 c3=>zqd_17 nx29 Q E x0 x3 l3 c3 H
theorem zqd_18ok (nx29:OA→Nat→Nat→HP):Ok Pr (zqd_17_M Q E nx29) (sA (sA zqd_p6)) (xthen (zqd_15_M Q E nx29) (zqd_q9 Q E nx29)) E:=fun τ H h =>
  wP 0 h (fun x0 h=>wSl 3 h (fun x3 l3 c3 h=>(conv (by kernel_rfl) h)))
theorem zqd_19ok (nx29:OA→Nat→Nat→HP):Ok Pr (zqd_17_M Q E nx29) (sA zqd_p6) (zqd_q9 Q E nx29) E:=fun τ H h =>
  (conv (by kernel_rfl) (vc_seq (K:=(zqd_15_M Q E nx29)) (zqd_18ok Q E nx29 τ H h) (zqd_16ok Q E nx29)))
theorem zqd_20ok (nx29:OA→Nat→Nat→HP):Ok Pr (zqd_17_M Q E nx29) zqd_p6 (zqd_q4 Q E nx29) E:=fun τ H h =>
  (conv (by kernel_rfl) (vc_seq (K:=(zqd_11_M Q E nx29)) (zqd_19ok Q E nx29 τ H h) (zqd_14ok Q E nx29)))
def zqd_21 (Q:QT) (E:ET) (x0 x3:OA) (l3 c3:Nat) (H:Heap):Prop :=
 ∃ (I:OA→Nat→Nat→HP) (μ:OA→Nat→Nat→Heap→Nat),I x3 l3 c3 H∧∀ (x3:OA) (l3 c3:Nat) (H:Heap),I x3 l3 c3 H →
 zqd_17 (fun x3' l3' c3' H1=>I x3' l3' c3' H1∧μ x3' l3' c3' H1 < μ x3 l3 c3 H) Q E x0 x3 l3 c3 H
def zqd_21_M:Prop:=mP (τ 0) fun x0=>mSl (τ 3) fun x3 l3 c3=>zqd_21 Q E x0 x3 l3 c3 H
theorem zqd_22ok :Ok Pr (zqd_21_M Q E) (sI (sA (sB zqd_p1))) (xblock 0 (zqd_q2 Q E)) E:=fun τ H h =>
  wP 0 h (fun x0 h=>wSl 3 h (fun x3 l3 c3 h=>match h with | ⟨I,μ,h0,hr⟩=>(conv (by kernel_rfl) (vc_loopG (c:=sI (sI (sA (sB zqd_p1)))) (τ:=(Tau.upd (Tau.upd τ 0 (.pointer x0)) 3 (.slice x3 l3 c3))) [0] (fun τ H=>mSl (τ 3) fun x3' l3' c3'=>I x3' l3' c3' H) (fun τ H=>μ (gL1 (τ 3)) (gL2 (τ 3)) (gL3 (τ 3)) H) (by kernel_rfl) h0 (fun τ1 H1 hf hI=>uF 0 (.pointer x0) (hf 0 (by simp)) (uSl 3 hI (fun x3r l3r c3r h=>lgx (zqd_20ok Q E (fun x3' l3' c3' H2=>I x3' l3' c3' H2∧μ x3' l3' c3' H2 < μ x3r l3r c3r H1) (Tau.upd (Tau.upd τ1 0 (.pointer x0)) 3 (.slice x3r l3r c3r)) H1 (conv (by kernel_rfl) (hr x3r l3r c3r H1 h))) (fun τ2 H2 hk=>kSl 3 hk (fun x3' l3' c3' h=>conv (by kernel_rfl) h)))))))))
theorem zqd_23ok :Ok Pr (zqd_21_M Q E) (sA (sB zqd_p1)) (zqd_q2 Q E) E:=fun τ H h =>
  (conv (by kernel_rfl) (zqd_22ok Q E τ H h))
theorem zqd_24ok :Ok Pr (zqd_21_M Q E) (sB zqd_p1) (zqd_q1 Q E) E:=fun τ H h =>
  (conv (by kernel_rfl) (vc_seq (K:=(zqd_1_M Q E)) (zqd_23ok Q E τ H h) (zqd_2ok Q E)))
def zqd_25 (Q:QT) (E:ET) (x0:OA) (H:Heap):Prop :=
 Does Pr 89 #[(.pointer x0)] H (fun v78 H79 =>
 ∃ (p80:OA) (l81 c82:Nat),v78=(.slice p80 l81 c82)∧zqd_21 Q E x0 p80 l81 c82 H79) E
def zqd_25_M:Prop:=mP (τ 0) fun x0=>zqd_25 Q E x0 H
theorem zqd_26ok :Ok Pr (zqd_25_M Q E) (sA zqd_p1) (xthen (zqd_21_M Q E) (zqd_q1 Q E)) E:=fun τ H h =>
  wP 0 h (fun x0 h=>(conv (by kernel_rfl) h))
theorem zqd_27ok :Ok Pr (zqd_25_M Q E) zqd_p1 (zqd_q1 Q E) E:=fun τ H h =>
  (conv (by kernel_rfl) (vc_seq (K:=(zqd_21_M Q E)) (zqd_26ok Q E τ H h) (zqd_24ok Q E)))
def zqd (Q:QT) (E:ET) (a0:OA) (H:Heap):Prop :=
 zqd_25 Q E a0 H
theorem zqd_fn (a0:OA) (Q:QT) (E:ET) (H:Heap) (h:zqd Q E a0 H)  :Does Pr 56 #[(.pointer a0)] H Q E :=
  Fn_of_vc (fn:=Try.f56) (c:=(bodyOf Try.f56)) (args:=[(.pointer a0)]) mixed (by kernel_rfl) (by kernel_rfl) (by kernel_rfl) (by kernel_rfl) (by kernel_rfl) ((conv (B:=vc Pr (bodyOf Try.f56) (argT [(.pointer a0)]) (zqd_q1 Q E) E H) (by kernel_rfl) (vc_seq (K:=(zqd_25_M Q E)) (conv (B:=vc Pr (sA (bodyOf Try.f56)) (argT [(.pointer a0)]) (xthen (zqd_25_M Q E) (zqd_q1 Q E)) E H) (by kernel_rfl) h) (zqd_27ok Q E))))
noncomputable def zqe_q1 (Q:QT) (E:ET) :XT:=(retQ Pr (Try.f57).results.toList Q)
def zqe (Q:QT) (E:ET) (a0:OA) (a1:Int) (H:Heap):Prop :=
 ptr a0 fun q1 =>
 ldI .i64 (Addr.add q1 3) H fun n2 =>
 sel (n2 == 0)
 (ptr a0 fun q3 =>
 wr (Addr.add q3 3) [(.int .i64 a1)] H fun H4 =>
 Q (.tuple #[]) H4)
 (Q (.tuple #[]) H)
theorem zqe_fn (a0:OA) (a1:Int) (Q:QT) (E:ET) (H:Heap) (h:zqe Q E a0 a1 H)  :Does Pr 57 #[(.pointer a0),(.int .i64 a1)] H Q E :=
  Fn_of_vc (fn:=Try.f57) (c:=(bodyOf Try.f57)) (args:=[(.pointer a0),(.int .i64 a1)]) mixed (by kernel_rfl) (by kernel_rfl) (by kernel_rfl) (by kernel_rfl) (by kernel_rfl) ((conv (B:=vc Pr (bodyOf Try.f57) (argT [(.pointer a0),(.int .i64 a1)]) (zqe_q1 Q E) E H) (by kernel_rfl) h))
noncomputable def zqf_q1 (Q:QT) (E:ET) :XT:=(retQ Pr (Try.f73).results.toList Q)
def zqf (Q:QT) (E:ET) (a0_0:Int) (a0_1:Int) (a0_2:Int) (a0_3:Int) (a1:Int) (H:Heap):Prop :=
 nw (.cells #[(.int .u64 a0_0),(.int .u64 a0_1),(.int .u64 a0_2),(.int .u64 a0_3)] 46 (0,0)) H fun i1 H2 =>
 (64:Int) ≠ 0∧(0≤((IntKind.wrap .u8 (Int.tdiv a1 64)):Int)∧((IntKind.wrap .u8 (Int.tdiv a1 64)):Int) < ((4:Nat):Int))∧ldI .u64 (Addr.add ⟨i1,0,none⟩ (((IntKind.wrap .u8 (Int.tdiv a1 64)):Int).toNat * 1)) H2 fun n3 =>
 (64:Int) ≠ 0∧0≤((Int.tmod a1 64):Int)∧Q (.bool (((IntKind.wrap .u64 (BitVec.ofInt (IntKind.bits .u64) (Int.fdiv n3 (2 ^ min ((Int.tmod a1 64):Int).toNat (IntKind.bits .u64))) &&& BitVec.ofInt (IntKind.bits .u64) 1).toNat):Int) == 1)) H2
theorem zqf_fn (a0_0:Int) (a0_1:Int) (a0_2:Int) (a0_3:Int) (a1:Int) (Q:QT) (E:ET) (H:Heap) (h:zqf Q E a0_0 a0_1 a0_2 a0_3 a1 H)  :Does Pr 73 #[(.agg #[(.int .u64 a0_0),(.int .u64 a0_1),(.int .u64 a0_2),(.int .u64 a0_3)]),(.int .u8 a1)] H Q E :=
  Fn_of_vc (fn:=Try.f73) (c:=(bodyOf Try.f73)) (args:=[(.agg #[(.int .u64 a0_0),(.int .u64 a0_1),(.int .u64 a0_2),(.int .u64 a0_3)]),(.int .u8 a1)]) mixed (by kernel_rfl) (by kernel_rfl) (by kernel_rfl) (by kernel_rfl) (by kernel_rfl) ((conv (B:=vc Pr (bodyOf Try.f73) (argT [(.agg #[(.int .u64 a0_0),(.int .u64 a0_1),(.int .u64 a0_2),(.int .u64 a0_3)]),(.int .u8 a1)]) (zqf_q1 Q E) E H) (by kernel_rfl) h))
noncomputable def zqg_q1 (Q:QT) (E:ET) :XT:=(retQ Pr (Try.f75).results.toList Q)
noncomputable def zqg_p0:Code:=bodyOf Try.f75
noncomputable def zqg_p3:Code:=sB (sB (sB zqg_p0))
noncomputable def zqg_p5:Code:=sB (sB zqg_p3)
noncomputable def zqg_p7:Code:=sB (sB zqg_p5)
noncomputable def zqg_p9:Code:=sB (sB zqg_p7)
def zqg_1 (Q:QT) (E:ET) (x0:OA) (l0 c0:Nat) (x7:Int) (H:Heap):Prop :=
 Does Pr 75 #[(.slice x0 l0 c0),(.int .i64 x7)] H (fun v31 H32 =>
 ∃ n33:Int,v31=(.int .i64 n33)∧Q (.int .i64 n33) H32) E
def zqg_1_M:Prop:=mSl (τ 0) fun x0 l0 c0=>mI .i64 (τ 7) fun x7=>zqg_1 Q E x0 l0 c0 x7 H
theorem zqg_2ok :Ok Pr (zqg_1_M Q E) (sB zqg_p9) (zqg_q1 Q E) E:=fun τ H h =>
  wSl 0 h (fun x0 l0 c0 h=>wI 7 h (fun x7 h=>(conv (by kernel_rfl) h)))
noncomputable def zqg_q2 :XT:=(xthen (zqg_1_M Q E) (zqg_q1 Q E))
def zqg_3 (Q:QT) (E:ET) (x0:OA) (l0 c0:Nat) (x7:Int) (x74:Bool) (H:Heap):Prop :=
 sel x74
 (Q (.int .i64 (-1)) H)
 (zqg_1 Q E x0 l0 c0 x7 H)
def zqg_3_M:Prop:=mSl (τ 0) fun x0 l0 c0=>mI .i64 (τ 7) fun x7=>mB (τ 74) fun x74=>zqg_3 Q E x0 l0 c0 x7 x74 H
theorem zqg_4ok :Ok Pr (zqg_3_M Q E) (sB (sA zqg_p9)) (zqg_q2 Q E) E:=fun τ H h =>
  wSl 0 h (fun x0 l0 c0 h=>wI 7 h (fun x7 h=>wB 74 h (fun x74 h=>(conv (by kernel_rfl) h))))
noncomputable def zqg_q3 :XT:=(xthen (zqg_3_M Q E) (zqg_q2 Q E))
def zqg_5 (Q:QT) (E:ET) (x0:OA) (l0 c0:Nat) (x5:OA) (x7:Int) (H:Heap):Prop :=
 sel (decide (x7 < 0))
 (zqg_3 Q E x0 l0 c0 x7 true H)
 (ptr x5 fun q35 =>
 ldI .i64 (Addr.add q35 1) H fun n36 =>
 zqg_3 Q E x0 l0 c0 x7 (n36 != x7) H)
def zqg_5_M:Prop:=mSl (τ 0) fun x0 l0 c0=>mP (τ 5) fun x5=>mI .i64 (τ 7) fun x7=>zqg_5 Q E x0 l0 c0 x5 x7 H
theorem zqg_6ok :Ok Pr (zqg_5_M Q E) (sA (sA zqg_p9)) (zqg_q3 Q E) E:=fun τ H h =>
  wSl 0 h (fun x0 l0 c0 h=>wP 5 h (fun x5 h=>wI 7 h (fun x7 h=>(conv (by kernel_rfl) h))))
theorem zqg_7ok :Ok Pr (zqg_5_M Q E) (sA zqg_p9) (zqg_q2 Q E) E:=fun τ H h =>
  (conv (by kernel_rfl) (vc_seq (K:=(zqg_3_M Q E)) (zqg_6ok Q E τ H h) (zqg_4ok Q E)))
theorem zqg_8ok :Ok Pr (zqg_5_M Q E) zqg_p9 (zqg_q1 Q E) E:=fun τ H h =>
  (conv (by kernel_rfl) (vc_seq (K:=(zqg_1_M Q E)) (zqg_7ok Q E τ H h) (zqg_2ok Q E)))
noncomputable def zqg_q4 :XT:=(xthen (zqg_5_M Q E) (zqg_q1 Q E))
noncomputable def zqg_p15:Code:=sB (sA (sB zqg_p7))
def zqg_9 (Q:QT) (E:ET) (x0:OA) (l0 c0:Nat) (x5:OA) (x7:Int) (H:Heap):Prop :=
 Does Pr 75 #[(.slice x0 l0 c0),(.int .i64 x7)] H (fun v38 H39 =>
 ∃ n40:Int,v38=(.int .i64 n40)∧zqg_5 Q E x0 l0 c0 x5 (IntKind.wrap .i64 (n40 - 1)) H39) E
def zqg_9_M:Prop:=mSl (τ 0) fun x0 l0 c0=>mP (τ 5) fun x5=>mI .i64 (τ 7) fun x7=>zqg_9 Q E x0 l0 c0 x5 x7 H
theorem zqg_10ok :Ok Pr (zqg_9_M Q E) (sB (sT zqg_p15)) (zqg_q4 Q E) E:=fun τ H h =>
  wSl 0 h (fun x0 l0 c0 h=>wP 5 h (fun x5 h=>wI 7 h (fun x7 h=>(conv (by kernel_rfl) h))))
noncomputable def zqg_q5 :XT:=(xthen (zqg_9_M Q E) (zqg_q4 Q E))
def zqg_11 (Q:QT) (E:ET) (x0:OA) (l0 c0:Nat) (x5:OA) (x7:Int) (H:Heap):Prop :=
 ptr x5 fun q41 =>
 ldI .i64 (Addr.add q41 2) H fun n42 =>
 sel (n42 != x7)
 (Q (.int .i64 (-1)) H)
 (zqg_9 Q E x0 l0 c0 x5 x7 H)
def zqg_11_M:Prop:=mSl (τ 0) fun x0 l0 c0=>mP (τ 5) fun x5=>mI .i64 (τ 7) fun x7=>zqg_11 Q E x0 l0 c0 x5 x7 H
theorem zqg_12ok :Ok Pr (zqg_11_M Q E) (sA (sT zqg_p15)) (zqg_q5 Q E) E:=fun τ H h =>
  wSl 0 h (fun x0 l0 c0 h=>wP 5 h (fun x5 h=>wI 7 h (fun x7 h=>(conv (by kernel_rfl) h))))
theorem zqg_13ok :Ok Pr (zqg_11_M Q E) (sT zqg_p15) (zqg_q4 Q E) E:=fun τ H h =>
  (conv (by kernel_rfl) (vc_seq (K:=(zqg_9_M Q E)) (zqg_12ok Q E τ H h) (zqg_10ok Q E)))
def zqg_14 (Q:QT) (E:ET) (x0:OA) (l0 c0:Nat) (x5:OA) (x7:Int) (H:Heap):Prop :=
 zqg_5 Q E x0 l0 c0 x5 x7 H
def zqg_14_M:Prop:=mSl (τ 0) fun x0 l0 c0=>mP (τ 5) fun x5=>mI .i64 (τ 7) fun x7=>zqg_14 Q E x0 l0 c0 x5 x7 H
theorem zqg_15ok :Ok Pr (zqg_14_M Q E) (sE zqg_p15) (zqg_q4 Q E) E:=fun τ H h =>
  wSl 0 h (fun x0 l0 c0 h=>wP 5 h (fun x5 h=>wI 7 h (fun x7 h=>(conv (by kernel_rfl) h))))
def zqg_16 (Q:QT) (E:ET) (x0:OA) (l0 c0:Nat) (x5:OA) (x7:Int) (x58:Bool) (H:Heap):Prop :=
 sel x58
 (zqg_11 Q E x0 l0 c0 x5 x7 H)
 (zqg_14 Q E x0 l0 c0 x5 x7 H)
def zqg_16_M:Prop:=mSl (τ 0) fun x0 l0 c0=>mP (τ 5) fun x5=>mI .i64 (τ 7) fun x7=>mB (τ 58) fun x58=>zqg_16 Q E x0 l0 c0 x5 x7 x58 H
theorem zqg_17ok :Ok Pr (zqg_16_M Q E) zqg_p15 (zqg_q4 Q E) E:=fun τ H h =>
  wSl 0 h (fun x0 l0 c0 h=>wP 5 h (fun x5 h=>wI 7 h (fun x7 h=>wB 58 h (fun x58 h=>(conv (by kernel_rfl) (sel_mapT (b:=x58) (τ:=(Tau.upd (Tau.upd (Tau.upd (Tau.upd τ 0 (.slice x0 l0 c0)) 5 (.pointer x5)) 7 (.int .i64 x7)) 58 (.bool x58))) (H:=H) (zqg_13ok Q E) (zqg_15ok Q E) (conv (by kernel_rfl) h)))))))
noncomputable def zqg_q6 :XT:=(xthen (zqg_16_M Q E) (zqg_q4 Q E))
def zqg_18 (Q:QT) (E:ET) (x0:OA) (l0 c0:Nat) (x5:OA) (x6 x7:Int) (H:Heap):Prop :=
 zqg_16 Q E x0 l0 c0 x5 x7 (x6 == 2) H
def zqg_18_M:Prop:=mSl (τ 0) fun x0 l0 c0=>mP (τ 5) fun x5=>mI .i64 (τ 6) fun x6=>mI .i64 (τ 7) fun x7=>zqg_18 Q E x0 l0 c0 x5 x6 x7 H
theorem zqg_19ok :Ok Pr (zqg_18_M Q E) (sA (sA (sB zqg_p7))) (zqg_q6 Q E) E:=fun τ H h =>
  wSl 0 h (fun x0 l0 c0 h=>wP 5 h (fun x5 h=>wI 6 h (fun x6 h=>wI 7 h (fun x7 h=>(conv (by kernel_rfl) h)))))
theorem zqg_20ok :Ok Pr (zqg_18_M Q E) (sA (sB zqg_p7)) (zqg_q4 Q E) E:=fun τ H h =>
  (conv (by kernel_rfl) (vc_seq (K:=(zqg_16_M Q E)) (zqg_19ok Q E τ H h) (zqg_17ok Q E)))
theorem zqg_21ok :Ok Pr (zqg_18_M Q E) (sB zqg_p7) (zqg_q1 Q E) E:=fun τ H h =>
  (conv (by kernel_rfl) (vc_seq (K:=(zqg_5_M Q E)) (zqg_20ok Q E τ H h) (zqg_8ok Q E)))
noncomputable def zqg_q7 :XT:=(xthen (zqg_18_M Q E) (zqg_q1 Q E))
def zqg_22 (Q:QT) (E:ET) (x0:OA) (l0 c0:Nat) (x1:Int) (x5:OA) (x6:Int) (H:Heap):Prop :=
 zqg_18 Q E x0 l0 c0 x5 x6 (IntKind.wrap .i64 (x1 - 1)) H
def zqg_22_M:Prop:=mSl (τ 0) fun x0 l0 c0=>mI .i64 (τ 1) fun x1=>mP (τ 5) fun x5=>mI .i64 (τ 6) fun x6=>zqg_22 Q E x0 l0 c0 x1 x5 x6 H
theorem zqg_23ok :Ok Pr (zqg_22_M Q E) (sA zqg_p7) (zqg_q7 Q E) E:=fun τ H h =>
  wSl 0 h (fun x0 l0 c0 h=>wI 1 h (fun x1 h=>wP 5 h (fun x5 h=>wI 6 h (fun x6 h=>(conv (by kernel_rfl) h)))))
theorem zqg_24ok :Ok Pr (zqg_22_M Q E) zqg_p7 (zqg_q1 Q E) E:=fun τ H h =>
  (conv (by kernel_rfl) (vc_seq (K:=(zqg_18_M Q E)) (zqg_23ok Q E τ H h) (zqg_21ok Q E)))
noncomputable def zqg_q8 :XT:=(xthen (zqg_22_M Q E) (zqg_q1 Q E))
def zqg_25 (Q:QT) (E:ET) (x0:OA) (l0 c0:Nat) (x1:Int) (x5:OA) (x6:Int) (H:Heap):Prop :=
 sel (x6 == 0)
 (Q (.int .i64 x1) H)
 (zqg_22 Q E x0 l0 c0 x1 x5 x6 H)
def zqg_25_M:Prop:=mSl (τ 0) fun x0 l0 c0=>mI .i64 (τ 1) fun x1=>mP (τ 5) fun x5=>mI .i64 (τ 6) fun x6=>zqg_25 Q E x0 l0 c0 x1 x5 x6 H
theorem zqg_26ok :Ok Pr (zqg_25_M Q E) (sA (sB zqg_p5)) (zqg_q8 Q E) E:=fun τ H h =>
  wSl 0 h (fun x0 l0 c0 h=>wI 1 h (fun x1 h=>wP 5 h (fun x5 h=>wI 6 h (fun x6 h=>(conv (by kernel_rfl) h)))))
theorem zqg_27ok :Ok Pr (zqg_25_M Q E) (sB zqg_p5) (zqg_q1 Q E) E:=fun τ H h =>
  (conv (by kernel_rfl) (vc_seq (K:=(zqg_22_M Q E)) (zqg_26ok Q E τ H h) (zqg_24ok Q E)))
noncomputable def zqg_q9 :XT:=(xthen (zqg_25_M Q E) (zqg_q1 Q E))
def zqg_28 (Q:QT) (E:ET) (x0:OA) (l0 c0:Nat) (x1:Int) (x5:OA) (x6:Int) (x51:Bool) (H:Heap):Prop :=
 sel x51
 (Q (.int .i64 (-1)) H)
 (zqg_25 Q E x0 l0 c0 x1 x5 x6 H)
def zqg_28_M:Prop:=mSl (τ 0) fun x0 l0 c0=>mI .i64 (τ 1) fun x1=>mP (τ 5) fun x5=>mI .i64 (τ 6) fun x6=>mB (τ 51) fun x51=>zqg_28 Q E x0 l0 c0 x1 x5 x6 x51 H
theorem zqg_29ok :Ok Pr (zqg_28_M Q E) (sB (sA zqg_p5)) (zqg_q9 Q E) E:=fun τ H h =>
  wSl 0 h (fun x0 l0 c0 h=>wI 1 h (fun x1 h=>wP 5 h (fun x5 h=>wI 6 h (fun x6 h=>wB 51 h (fun x51 h=>(conv (by kernel_rfl) h))))))
noncomputable def zqg_q10 :XT:=(xthen (zqg_28_M Q E) (zqg_q9 Q E))
def zqg_30 (Q:QT) (E:ET) (x0:OA) (l0 c0:Nat) (x1:Int) (x5:OA) (x6:Int) (H:Heap):Prop :=
 sel (decide (x6 < 2))
 (ptr x5 fun q46 =>
 ldI .i64 (Addr.add q46 2) H fun n47 =>
 sel (n47 != 0)
 (zqg_28 Q E x0 l0 c0 x1 x5 x6 true H)
 (sel (decide (x6 < 1))
 (ptr x5 fun q48 =>
 ldI .i64 (Addr.add q48 1) H fun n49 =>
 zqg_28 Q E x0 l0 c0 x1 x5 x6 (n49 != 0) H)
 (zqg_28 Q E x0 l0 c0 x1 x5 x6 false H)))
 (sel (decide (x6 < 1))
 (ptr x5 fun q50 =>
 ldI .i64 (Addr.add q50 1) H fun n51 =>
 zqg_28 Q E x0 l0 c0 x1 x5 x6 (n51 != 0) H)
 (zqg_28 Q E x0 l0 c0 x1 x5 x6 false H))
def zqg_30_M:Prop:=mSl (τ 0) fun x0 l0 c0=>mI .i64 (τ 1) fun x1=>mP (τ 5) fun x5=>mI .i64 (τ 6) fun x6=>zqg_30 Q E x0 l0 c0 x1 x5 x6 H
theorem zqg_31ok :Ok Pr (zqg_30_M Q E) (sA (sA zqg_p5)) (zqg_q10 Q E) E:=fun τ H h =>
  wSl 0 h (fun x0 l0 c0 h=>wI 1 h (fun x1 h=>wP 5 h (fun x5 h=>wI 6 h (fun x6 h=>(conv (by kernel_rfl) h)))))
theorem zqg_32ok :Ok Pr (zqg_30_M Q E) (sA zqg_p5) (zqg_q9 Q E) E:=fun τ H h =>
  (conv (by kernel_rfl) (vc_seq (K:=(zqg_28_M Q E)) (zqg_31ok Q E τ H h) (zqg_29ok Q E)))
theorem zqg_33ok :Ok Pr (zqg_30_M Q E) zqg_p5 (zqg_q1 Q E) E:=fun τ H h =>
  (conv (by kernel_rfl) (vc_seq (K:=(zqg_25_M Q E)) (zqg_32ok Q E τ H h) (zqg_27ok Q E)))
noncomputable def zqg_q11 :XT:=(xthen (zqg_30_M Q E) (zqg_q1 Q E))
def zqg_34 (Q:QT) (E:ET) (x0:OA) (l0 c0:Nat) (x1:Int) (x5:OA) (H:Heap):Prop :=
 ptr x5 fun q52 =>
 ldI .i64 q52 H fun n53 =>
 Does Pr 42 #[(.int .i64 n53)] H (fun v54 H55 =>
 ∃ n56:Int,v54=(.int .i64 n56)∧zqg_30 Q E x0 l0 c0 x1 x5 n56 H55) E
def zqg_34_M:Prop:=mSl (τ 0) fun x0 l0 c0=>mI .i64 (τ 1) fun x1=>mP (τ 5) fun x5=>zqg_34 Q E x0 l0 c0 x1 x5 H
theorem zqg_35ok :Ok Pr (zqg_34_M Q E) (sA (sB zqg_p3)) (zqg_q11 Q E) E:=fun τ H h =>
  wSl 0 h (fun x0 l0 c0 h=>wI 1 h (fun x1 h=>wP 5 h (fun x5 h=>(conv (by kernel_rfl) h))))
theorem zqg_36ok :Ok Pr (zqg_34_M Q E) (sB zqg_p3) (zqg_q1 Q E) E:=fun τ H h =>
  (conv (by kernel_rfl) (vc_seq (K:=(zqg_30_M Q E)) (zqg_35ok Q E τ H h) (zqg_33ok Q E)))
noncomputable def zqg_q12 :XT:=(xthen (zqg_34_M Q E) (zqg_q1 Q E))
def zqg_37 (Q:QT) (E:ET) (x0:OA) (l0 c0:Nat) (x1:Int) (x5:OA) (x32:Bool) (H:Heap):Prop :=
 sel x32
 (Q (.int .i64 (-1)) H)
 (zqg_34 Q E x0 l0 c0 x1 x5 H)
def zqg_37_M:Prop:=mSl (τ 0) fun x0 l0 c0=>mI .i64 (τ 1) fun x1=>mP (τ 5) fun x5=>mB (τ 32) fun x32=>zqg_37 Q E x0 l0 c0 x1 x5 x32 H
theorem zqg_38ok :Ok Pr (zqg_37_M Q E) (sB (sA zqg_p3)) (zqg_q12 Q E) E:=fun τ H h =>
  wSl 0 h (fun x0 l0 c0 h=>wI 1 h (fun x1 h=>wP 5 h (fun x5 h=>wB 32 h (fun x32 h=>(conv (by kernel_rfl) h)))))
noncomputable def zqg_q13 :XT:=(xthen (zqg_37_M Q E) (zqg_q12 Q E))
def zqg_39 (Q:QT) (E:ET) (x0:OA) (l0 c0:Nat) (x1:Int) (x5:OA) (H:Heap):Prop :=
 ptr x5 fun q64 =>
 ldI .i64 q64 H fun n65 =>
 sel (decide (n65 < 1))
 (zqg_37 Q E x0 l0 c0 x1 x5 true H)
 (ptr x5 fun q66 =>
 ldI .i64 q66 H fun n67 =>
 sel (decide (n67 > 9))
 (zqg_37 Q E x0 l0 c0 x1 x5 true H)
 (ptr x5 fun q68 =>
 ldI .i64 q68 H fun n69 =>
 sel (n69 != 2)
 (ptr x5 fun q70 =>
 ∃ n71 n72 n73 n74:Int,Heap.rd H (Addr.add q70 3) 0 [(.int .u64 n71),(.int .u64 n72),(.int .u64 n73),(.int .u64 n74)]∧zqg_37 Q E x0 l0 c0 x1 x5 (!(eqVs [(.int .u64 n71),(.int .u64 n72),(.int .u64 n73),(.int .u64 n74)] [(.int .u64 0),(.int .u64 0),(.int .u64 0),(.int .u64 0)])) H)
 (zqg_37 Q E x0 l0 c0 x1 x5 false H)))
def zqg_39_M:Prop:=mSl (τ 0) fun x0 l0 c0=>mI .i64 (τ 1) fun x1=>mP (τ 5) fun x5=>zqg_39 Q E x0 l0 c0 x1 x5 H
theorem zqg_40ok :Ok Pr (zqg_39_M Q E) (sA (sA zqg_p3)) (zqg_q13 Q E) E:=fun τ H h =>
  wSl 0 h (fun x0 l0 c0 h=>wI 1 h (fun x1 h=>wP 5 h (fun x5 h=>(conv (by kernel_rfl) h))))
theorem zqg_41ok :Ok Pr (zqg_39_M Q E) (sA zqg_p3) (zqg_q12 Q E) E:=fun τ H h =>
  (conv (by kernel_rfl) (vc_seq (K:=(zqg_37_M Q E)) (zqg_40ok Q E τ H h) (zqg_38ok Q E)))
theorem zqg_42ok :Ok Pr (zqg_39_M Q E) zqg_p3 (zqg_q1 Q E) E:=fun τ H h =>
  (conv (by kernel_rfl) (vc_seq (K:=(zqg_34_M Q E)) (zqg_41ok Q E τ H h) (zqg_36ok Q E)))
noncomputable def zqg_q14 :XT:=(xthen (zqg_39_M Q E) (zqg_q1 Q E))
def zqg_43 (Q:QT) (E:ET) (x0:OA) (l0 c0:Nat) (x1:Int) (H:Heap):Prop :=
 (0≤x1∧x1 < (l0:Int))∧ptr x0 fun q75 =>
 ∃ n76 n77 n78 n79 n80 n81 n82:Int,Heap.rd H (Addr.add q75 (x1.toNat * 7)) 0 [(.int .i64 n76),(.int .i64 n77),(.int .i64 n78),(.int .u64 n79),(.int .u64 n80),(.int .u64 n81),(.int .u64 n82)]∧nw (.cells #[(.int .i64 0),(.int .i64 0),(.int .i64 0),(.int .u64 0),(.int .u64 0),(.int .u64 0),(.int .u64 0)] 48 (0,0)) H fun i83 H84 =>
 wr ⟨i83,0,none⟩ [(.int .i64 n76),(.int .i64 n77),(.int .i64 n78),(.int .u64 n79),(.int .u64 n80),(.int .u64 n81),(.int .u64 n82)] H84 fun H85 =>
 zqg_39 Q E x0 l0 c0 x1 (some ⟨i83,0,none⟩) H85
def zqg_43_M:Prop:=mSl (τ 0) fun x0 l0 c0=>mI .i64 (τ 1) fun x1=>zqg_43 Q E x0 l0 c0 x1 H
theorem zqg_44ok :Ok Pr (zqg_43_M Q E) (sA (sB (sB zqg_p0))) (zqg_q14 Q E) E:=fun τ H h =>
  wSl 0 h (fun x0 l0 c0 h=>wI 1 h (fun x1 h=>(conv (by kernel_rfl) h)))
theorem zqg_45ok :Ok Pr (zqg_43_M Q E) (sB (sB zqg_p0)) (zqg_q1 Q E) E:=fun τ H h =>
  (conv (by kernel_rfl) (vc_seq (K:=(zqg_39_M Q E)) (zqg_44ok Q E τ H h) (zqg_42ok Q E)))
noncomputable def zqg_q15 :XT:=(xthen (zqg_43_M Q E) (zqg_q1 Q E))
def zqg_46 (Q:QT) (E:ET) (x0:OA) (l0 c0:Nat) (x1:Int) (H:Heap):Prop :=
 sel (decide (x1 < 0))
 (Q (.int .i64 (-1)) H)
 (zqg_43 Q E x0 l0 c0 x1 H)
def zqg_46_M:Prop:=mSl (τ 0) fun x0 l0 c0=>mI .i64 (τ 1) fun x1=>zqg_46 Q E x0 l0 c0 x1 H
theorem zqg_47ok :Ok Pr (zqg_46_M Q E) (sA (sB zqg_p0)) (zqg_q15 Q E) E:=fun τ H h =>
  wSl 0 h (fun x0 l0 c0 h=>wI 1 h (fun x1 h=>(conv (by kernel_rfl) h)))
theorem zqg_48ok :Ok Pr (zqg_46_M Q E) (sB zqg_p0) (zqg_q1 Q E) E:=fun τ H h =>
  (conv (by kernel_rfl) (vc_seq (K:=(zqg_43_M Q E)) (zqg_47ok Q E τ H h) (zqg_45ok Q E)))
def zqg (Q:QT) (E:ET) (a0:OA) (a0l:Nat) (a0c:Nat) (a1:Int) (H:Heap):Prop :=
 zqg_46 Q E a0 a0l a0c a1 H
theorem zqg_fn (a0:OA) (a0l:Nat) (a0c:Nat) (a1:Int) (Q:QT) (E:ET) (H:Heap) (h:zqg Q E a0 a0l a0c a1 H)  :Does Pr 75 #[(.slice a0 a0l a0c),(.int .i64 a1)] H Q E :=
  Fn_of_vc (fn:=Try.f75) (c:=zqg_p0) (args:=[(.slice a0 a0l a0c),(.int .i64 a1)]) mixed (by kernel_rfl) (by kernel_rfl) (by kernel_rfl) (by kernel_rfl) (by kernel_rfl) ((conv (B:=vc Pr zqg_p0 (argT [(.slice a0 a0l a0c),(.int .i64 a1)]) (zqg_q1 Q E) E H) (by kernel_rfl) (vc_seq (K:=(zqg_46_M Q E)) (conv (B:=vc Pr (sA zqg_p0) (argT [(.slice a0 a0l a0c),(.int .i64 a1)]) (xthen (zqg_46_M Q E) (zqg_q1 Q E)) E H) (by kernel_rfl) h) (zqg_48ok Q E))))
noncomputable def zqh_q1 (Q:QT) (E:ET) :XT:=(retQ Pr (Try.f89).results.toList Q)
noncomputable def zqh_p1:Code:=sB (bodyOf Try.f89)
def zqh_1 (Q:QT) (E:ET) (x3:OA) (l3 c3:Nat) (H:Heap):Prop :=
 Q (.slice x3 l3 c3) H
def zqh_1_M:Prop:=mSl (τ 3) fun x3 l3 c3=>zqh_1 Q E x3 l3 c3 H
theorem zqh_2ok :Ok Pr (zqh_1_M Q E) (sB (sB (sB zqh_p1))) (zqh_q1 Q E) E:=fun τ H h =>
  wSl 3 h (fun x3 l3 c3 h=>(conv (by kernel_rfl) h))
def zqh_3 (Q:QT) (E:ET) (x3:OA) (l3 c3:Nat) (H:Heap):Prop :=
 sel (((l3:Int):Int) == 0)
 (Does Pr 101 #[(.int .i64 1),(.agg #[(.int .u64 0),(.int .u64 0),(.int .u64 0),(.int .u64 0)])] H (fun v29 H30 =>
 ∃ (p31:OA) (l32 c33:Nat),v29=(.slice p31 l32 c33)∧Q (.slice p31 l32 c33) H30) E)
 (zqh_1 Q E x3 l3 c3 H)
def zqh_3_M:Prop:=mSl (τ 3) fun x3 l3 c3=>zqh_3 Q E x3 l3 c3 H
theorem zqh_4ok :Ok Pr (zqh_3_M Q E) (sA (sB (sB zqh_p1))) (xthen (zqh_1_M Q E) (zqh_q1 Q E)) E:=fun τ H h =>
  wSl 3 h (fun x3 l3 c3 h=>(conv (by kernel_rfl) h))
theorem zqh_5ok :Ok Pr (zqh_3_M Q E) (sB (sB zqh_p1)) (zqh_q1 Q E) E:=fun τ H h =>
  (conv (by kernel_rfl) (vc_seq (K:=(zqh_1_M Q E)) (zqh_4ok Q E τ H h) (zqh_2ok Q E)))
noncomputable def zqh_q3 :XT:=(xthen (zqh_3_M Q E) (zqh_q1 Q E))
noncomputable def zqh_p7:Code:=sI (sA (sB zqh_p1))
noncomputable def zqh_q5 (nx34:OA→Nat→Nat→HP):XT:=(xthen (fun τ H=>mSl (τ 3) fun x3' l3' c3'=>nx34 x3' l3' c3' H) (xblock 0 (zqh_q3 Q E)))
noncomputable def zqh_p9:Code:=sB (sI zqh_p7)
noncomputable def zqh_q6 (nx34:OA→Nat→Nat→HP):XT:=(xblock 1 (zqh_q5 Q E nx34))
def zqh_6 (nx34:OA→Nat→Nat→HP) (Q:QT) (E:ET) (x0 x3:OA) (l3 c3:Nat) (x4:OA) (l4 c4:Nat) (H:Heap):Prop :=
 sel (((l3:Int):Int) == 0)
 (nx34 x4 l4 c4 H)
 (Does Pr 91 #[(.int .i64 3),(.slice x3 l3 c3),(.slice x4 l4 c4)] H (fun v53 H54 =>
 ∃ (p55:OA) (l56 c57:Nat),v53=(.slice p55 l56 c57)∧nx34 p55 l56 c57 H54) E)
def zqh_6_M (nx34:OA→Nat→Nat→HP) (τ:Tau) (H:Heap):Prop:=mP (τ 0) fun x0=>mSl (τ 3) fun x3 l3 c3=>mSl (τ 4) fun x4 l4 c4=>zqh_6 nx34 Q E x0 x3 l3 c3 x4 l4 c4 H
theorem zqh_7ok (nx34:OA→Nat→Nat→HP):Ok Pr (zqh_6_M Q E nx34) (sB (sB (sI zqh_p9))) (zqh_q6 Q E nx34) E:=fun τ H h =>
  wP 0 h (fun x0 h=>wSl 3 h (fun x3 l3 c3 h=>wSl 4 h (fun x4 l4 c4 h=>(conv (by kernel_rfl) h))))
noncomputable def zqh_q7 (nx34:OA→Nat→Nat→HP):XT:=(xthen (zqh_6_M Q E nx34) (zqh_q6 Q E nx34))
def zqh_8 (nx34:OA→Nat→Nat→HP) (Q:QT) (E:ET) (x0 x3:OA) (l3 c3:Nat) (x4:OA) (l4 c4:Nat) (H:Heap):Prop :=
 ptr x0 fun q58 =>
 ldI .i64 (Addr.add q58 3) H fun n59 =>
 sel (n59 != 0)
 (Q (.slice none 0 0) H)
 (zqh_6 nx34 Q E x0 x3 l3 c3 x4 l4 c4 H)
def zqh_8_M (nx34:OA→Nat→Nat→HP) (τ:Tau) (H:Heap):Prop:=mP (τ 0) fun x0=>mSl (τ 3) fun x3 l3 c3=>mSl (τ 4) fun x4 l4 c4=>zqh_8 nx34 Q E x0 x3 l3 c3 x4 l4 c4 H
theorem zqh_9ok (nx34:OA→Nat→Nat→HP):Ok Pr (zqh_8_M Q E nx34) (sA (sB (sI zqh_p9))) (zqh_q7 Q E nx34) E:=fun τ H h =>
  wP 0 h (fun x0 h=>wSl 3 h (fun x3 l3 c3 h=>wSl 4 h (fun x4 l4 c4 h=>(conv (by kernel_rfl) h))))
theorem zqh_10ok (nx34:OA→Nat→Nat→HP):Ok Pr (zqh_8_M Q E nx34) (sB (sI zqh_p9)) (zqh_q6 Q E nx34) E:=fun τ H h =>
  (conv (by kernel_rfl) (vc_seq (K:=(zqh_6_M Q E nx34)) (zqh_9ok Q E nx34 τ H h) (zqh_7ok Q E nx34)))
def zqh_11 (nx34:OA→Nat→Nat→HP) (Q:QT) (E:ET) (x0 x3:OA) (l3 c3:Nat) (H:Heap):Prop :=
 Does Pr 100 #[(.pointer x0)] H (fun v60 H61 =>
 ∃ (p62:OA) (l63 c64:Nat),v60=(.slice p62 l63 c64)∧zqh_8 nx34 Q E x0 x3 l3 c3 p62 l63 c64 H61) E
def zqh_11_M (nx34:OA→Nat→Nat→HP) (τ:Tau) (H:Heap):Prop:=mP (τ 0) fun x0=>mSl (τ 3) fun x3 l3 c3=>zqh_11 nx34 Q E x0 x3 l3 c3 H
theorem zqh_12ok (nx34:OA→Nat→Nat→HP):Ok Pr (zqh_11_M Q E nx34) (sA (sI zqh_p9)) (xthen (zqh_8_M Q E nx34) (zqh_q6 Q E nx34)) E:=fun τ H h =>
  wP 0 h (fun x0 h=>wSl 3 h (fun x3 l3 c3 h=>(conv (by kernel_rfl) h)))
theorem zqh_13ok (nx34:OA→Nat→Nat→HP):Ok Pr (zqh_11_M Q E nx34) (sI zqh_p9) (zqh_q6 Q E nx34) E:=fun τ H h =>
  (conv (by kernel_rfl) (vc_seq (K:=(zqh_8_M Q E nx34)) (zqh_12ok Q E nx34 τ H h) (zqh_10ok Q E nx34)))
theorem zqh_14ok (nx34:OA→Nat→Nat→HP):Ok Pr (zqh_11_M Q E nx34) zqh_p9 (zqh_q5 Q E nx34) E:=fun τ H h =>
  (conv (by kernel_rfl) (zqh_13ok Q E nx34 τ H h))
noncomputable def zqh_q9 (nx34:OA→Nat→Nat→HP):XT:=(xthen (zqh_11_M Q E nx34) (zqh_q5 Q E nx34))
def zqh_15 (nx34:OA→Nat→Nat→HP) (Q:QT) (E:ET) (x0 x3:OA) (l3 c3:Nat) (x30:Bool) (H:Heap):Prop :=
 sel x30
 (zqh_11 nx34 Q E x0 x3 l3 c3 H)
 (zqh_3 Q E x3 l3 c3 H)
def zqh_15_M (nx34:OA→Nat→Nat→HP) (τ:Tau) (H:Heap):Prop:=mP (τ 0) fun x0=>mSl (τ 3) fun x3 l3 c3=>mB (τ 30) fun x30=>zqh_15 nx34 Q E x0 x3 l3 c3 x30 H
theorem zqh_16ok (nx34:OA→Nat→Nat→HP):Ok Pr (zqh_15_M Q E nx34) (sB (sA (sI zqh_p7))) (zqh_q9 Q E nx34) E:=fun τ H h =>
  wP 0 h (fun x0 h=>wSl 3 h (fun x3 l3 c3 h=>wB 30 h (fun x30 h=>(conv (by kernel_rfl) h))))
def zqh_17 (nx34:OA→Nat→Nat→HP) (Q:QT) (E:ET) (x0 x3:OA) (l3 c3:Nat) (H:Heap):Prop :=
 Does Pr 90 #[(.pointer x0)] H (fun v76 H77 =>
 ∃ b78:Bool,v76=(.bool b78)∧sel b78
 (ptr x0 fun q79 =>
 ldS q79 H77 fun s80 =>
 ptr x0 fun q81 =>
 ldI .i64 (Addr.add q81 1) H77 fun n82 =>
 (0≤n82∧n82 < ((ByteArray.size s80:Nat):Int))∧sel (((sAt s80 n82):Int) != 124)
 (ptr x0 fun q83 =>
 ldS q83 H77 fun s84 =>
 ptr x0 fun q85 =>
 ldI .i64 (Addr.add q85 1) H77 fun n86 =>
 (0≤n86∧n86 < ((ByteArray.size s84:Nat):Int))∧zqh_15 nx34 Q E x0 x3 l3 c3 (((sAt s84 n86):Int) != 41) H77)
 (zqh_15 nx34 Q E x0 x3 l3 c3 false H77))
 (zqh_15 nx34 Q E x0 x3 l3 c3 false H77)) (fun _ _=>False)
def zqh_17_M (nx34:OA→Nat→Nat→HP) (τ:Tau) (H:Heap):Prop:=mP (τ 0) fun x0=>mSl (τ 3) fun x3 l3 c3=>zqh_17 nx34 Q E x0 x3 l3 c3 H
theorem zqh_18ok (nx34:OA→Nat→Nat→HP):Ok Pr (zqh_17_M Q E nx34) (sA (sA (sI zqh_p7))) (xthen (zqh_15_M Q E nx34) (zqh_q9 Q E nx34)) E:=fun τ H h =>
  wP 0 h (fun x0 h=>wSl 3 h (fun x3 l3 c3 h=>(conv (by kernel_rfl) h)))
theorem zqh_19ok (nx34:OA→Nat→Nat→HP):Ok Pr (zqh_17_M Q E nx34) (sA (sI zqh_p7)) (zqh_q9 Q E nx34) E:=fun τ H h =>
  (conv (by kernel_rfl) (vc_seq (K:=(zqh_15_M Q E nx34)) (zqh_18ok Q E nx34 τ H h) (zqh_16ok Q E nx34)))
theorem zqh_20ok (nx34:OA→Nat→Nat→HP):Ok Pr (zqh_17_M Q E nx34) (sI zqh_p7) (zqh_q5 Q E nx34) E:=fun τ H h =>
  (conv (by kernel_rfl) (vc_seq (K:=(zqh_11_M Q E nx34)) (zqh_19ok Q E nx34 τ H h) (zqh_14ok Q E nx34)))
def zqh_21 (Q:QT) (E:ET) (x0 x3:OA) (l3 c3:Nat) (H:Heap):Prop :=
 ∃ (I:OA→Nat→Nat→HP) (μ:OA→Nat→Nat→Heap→Nat),I x3 l3 c3 H∧∀ (x3:OA) (l3 c3:Nat) (H:Heap),I x3 l3 c3 H →
 zqh_17 (fun x3' l3' c3' H1=>I x3' l3' c3' H1∧μ x3' l3' c3' H1 < μ x3 l3 c3 H) Q E x0 x3 l3 c3 H
def zqh_21_M:Prop:=mP (τ 0) fun x0=>mSl (τ 3) fun x3 l3 c3=>zqh_21 Q E x0 x3 l3 c3 H
theorem zqh_22ok :Ok Pr (zqh_21_M Q E) zqh_p7 (xblock 0 (zqh_q3 Q E)) E:=fun τ H h =>
  wP 0 h (fun x0 h=>wSl 3 h (fun x3 l3 c3 h=>match h with | ⟨I,μ,h0,hr⟩=>(conv (by kernel_rfl) (vc_loopG (c:=sI zqh_p7) (τ:=(Tau.upd (Tau.upd τ 0 (.pointer x0)) 3 (.slice x3 l3 c3))) [0] (fun τ H=>mSl (τ 3) fun x3' l3' c3'=>I x3' l3' c3' H) (fun τ H=>μ (gL1 (τ 3)) (gL2 (τ 3)) (gL3 (τ 3)) H) (by kernel_rfl) h0 (fun τ1 H1 hf hI=>uF 0 (.pointer x0) (hf 0 (by simp)) (uSl 3 hI (fun x3r l3r c3r h=>lgx (zqh_20ok Q E (fun x3' l3' c3' H2=>I x3' l3' c3' H2∧μ x3' l3' c3' H2 < μ x3r l3r c3r H1) (Tau.upd (Tau.upd τ1 0 (.pointer x0)) 3 (.slice x3r l3r c3r)) H1 (conv (by kernel_rfl) (hr x3r l3r c3r H1 h))) (fun τ2 H2 hk=>kSl 3 hk (fun x3' l3' c3' h=>conv (by kernel_rfl) h)))))))))
theorem zqh_23ok :Ok Pr (zqh_21_M Q E) (sA (sB zqh_p1)) (zqh_q3 Q E) E:=fun τ H h =>
  (conv (by kernel_rfl) (zqh_22ok Q E τ H h))
theorem zqh_24ok :Ok Pr (zqh_21_M Q E) (sB zqh_p1) (zqh_q1 Q E) E:=fun τ H h =>
  (conv (by kernel_rfl) (vc_seq (K:=(zqh_3_M Q E)) (zqh_23ok Q E τ H h) (zqh_5ok Q E)))
def zqh_25 (Q:QT) (E:ET) (x0:OA) (H:Heap):Prop :=
 zqh_21 Q E x0 none 0 0 H
def zqh_25_M:Prop:=mP (τ 0) fun x0=>zqh_25 Q E x0 H
theorem zqh_26ok :Ok Pr (zqh_25_M Q E) (sA zqh_p1) (xthen (zqh_21_M Q E) (zqh_q1 Q E)) E:=fun τ H h =>
  wP 0 h (fun x0 h=>(conv (by kernel_rfl) h))
theorem zqh_27ok :Ok Pr (zqh_25_M Q E) zqh_p1 (zqh_q1 Q E) E:=fun τ H h =>
  (conv (by kernel_rfl) (vc_seq (K:=(zqh_21_M Q E)) (zqh_26ok Q E τ H h) (zqh_24ok Q E)))
def zqh (Q:QT) (E:ET) (a0:OA) (H:Heap):Prop :=
 zqh_25 Q E a0 H
theorem zqh_fn (a0:OA) (Q:QT) (E:ET) (H:Heap) (h:zqh Q E a0 H)  :Does Pr 89 #[(.pointer a0)] H Q E :=
  Fn_of_vc (fn:=Try.f89) (c:=(bodyOf Try.f89)) (args:=[(.pointer a0)]) mixed (by kernel_rfl) (by kernel_rfl) (by kernel_rfl) (by kernel_rfl) (by kernel_rfl) ((conv (B:=vc Pr (bodyOf Try.f89) (argT [(.pointer a0)]) (zqh_q1 Q E) E H) (by kernel_rfl) (vc_seq (K:=(zqh_25_M Q E)) (conv (B:=vc Pr (sA (bodyOf Try.f89)) (argT [(.pointer a0)]) (xthen (zqh_25_M Q E) (zqh_q1 Q E)) E H) (by kernel_rfl) h) (zqh_27ok Q E))))
noncomputable def zqi_q1 (Q:QT) (E:ET) :XT:=(retQ Pr (Try.f90).results.toList Q)
def zqi (Q:QT) (E:ET) (a0:OA) (H:Heap):Prop :=
 ptr a0 fun q1 =>
 ldI .i64 (Addr.add q1 3) H fun n2 =>
 sel (n2 == 0)
 (ptr a0 fun q3 =>
 ldI .i64 (Addr.add q3 1) H fun n4 =>
 ptr a0 fun q5 =>
 ldS q5 H fun s6 =>
 Q (.bool (decide (n4 < ((ByteArray.size s6:Nat):Int)))) H)
 (Q (.bool false) H)
theorem zqi_fn (a0:OA) (Q:QT) (E:ET) (H:Heap) (h:zqi Q E a0 H)  :Does Pr 90 #[(.pointer a0)] H Q E :=
  Fn_of_vc (fn:=Try.f90) (c:=(bodyOf Try.f90)) (args:=[(.pointer a0)]) mixed (by kernel_rfl) (by kernel_rfl) (by kernel_rfl) (by kernel_rfl) (by kernel_rfl) ((conv (B:=vc Pr (bodyOf Try.f90) (argT [(.pointer a0)]) (zqi_q1 Q E) E H) (by kernel_rfl) h))
noncomputable def zqj_q1 (Q:QT) (E:ET) :XT:=(retQ Pr (Try.f91).results.toList Q)
noncomputable def zqj_p0:Code:=bodyOf Try.f91
noncomputable def zqj_p3:Code:=sB (sB (sB zqj_p0))
def zqj_1 (Q:QT) (E:ET) (x7:OA) (l7 c7:Nat) (x10:OA) (H:Heap):Prop :=
 ptr x10 fun q48 =>
 ∃ n49 n50 n51 n52 n53 n54 n55:Int,Heap.rd H q48 0 [(.int .i64 n49),(.int .i64 n50),(.int .i64 n51),(.int .u64 n52),(.int .u64 n53),(.int .u64 n54),(.int .u64 n55)]∧nw (.cells #[(.int .i64 n49),(.int .i64 n50),(.int .i64 n51),(.int .u64 n52),(.int .u64 n53),(.int .u64 n54),(.int .u64 n55)] 48 (0,0)) H fun i56 H57 =>
 app Pr 23 x7 l7 c7 (.slice (some ⟨i56,0,none⟩) 1 1) H57 fun p58 l59 c60 H61 =>
 Q (.slice p58 l59 c60) H61
def zqj_1_M:Prop:=mSl (τ 7) fun x7 l7 c7=>mP (τ 10) fun x10=>zqj_1 Q E x7 l7 c7 x10 H
theorem zqj_2ok :Ok Pr (zqj_1_M Q E) (sB (sB zqj_p3)) (zqj_q1 Q E) E:=fun τ H h =>
  wSl 7 h (fun x7 l7 c7 h=>wP 10 h (fun x10 h=>(conv (by kernel_rfl) h)))
noncomputable def zqj_q2 :XT:=(xthen (zqj_1_M Q E) (zqj_q1 Q E))
def zqj_3 (Q:QT) (E:ET) (x1:OA) (l1 c1:Nat) (x2:OA) (l2 c2:Nat) (x7:OA) (l7 c7:Nat) (x10:OA) (H:Heap):Prop :=
 sel (decide (((l2:Int):Int) > 0))
 (ptr x10 fun q62 =>
 wr (Addr.add q62 2) [(.int .i64 (IntKind.wrap .i64 ((IntKind.wrap .i64 ((l1:Int)+(l2:Int))) - 1)))] H fun H63 =>
 zqj_1 Q E x7 l7 c7 x10 H63)
 (zqj_1 Q E x7 l7 c7 x10 H)
def zqj_3_M:Prop:=mSl (τ 1) fun x1 l1 c1=>mSl (τ 2) fun x2 l2 c2=>mSl (τ 7) fun x7 l7 c7=>mP (τ 10) fun x10=>zqj_3 Q E x1 l1 c1 x2 l2 c2 x7 l7 c7 x10 H
theorem zqj_4ok :Ok Pr (zqj_3_M Q E) (sA (sB zqj_p3)) (zqj_q2 Q E) E:=fun τ H h =>
  wSl 1 h (fun x1 l1 c1 h=>wSl 2 h (fun x2 l2 c2 h=>wSl 7 h (fun x7 l7 c7 h=>wP 10 h (fun x10 h=>(conv (by kernel_rfl) h)))))
theorem zqj_5ok :Ok Pr (zqj_3_M Q E) (sB zqj_p3) (zqj_q1 Q E) E:=fun τ H h =>
  (conv (by kernel_rfl) (vc_seq (K:=(zqj_1_M Q E)) (zqj_4ok Q E τ H h) (zqj_2ok Q E)))
noncomputable def zqj_q3 :XT:=(xthen (zqj_3_M Q E) (zqj_q1 Q E))
def zqj_6 (Q:QT) (E:ET) (x0:Int) (x1:OA) (l1 c1:Nat) (x2:OA) (l2 c2:Nat) (x7:OA) (l7 c7:Nat) (H:Heap):Prop :=
 nw (.cells #[(.int .i64 0),(.int .i64 0),(.int .i64 0),(.int .u64 0),(.int .u64 0),(.int .u64 0),(.int .u64 0)] 48 (0,0)) H fun i64 H65 =>
 wr ⟨i64,0,none⟩ [(.int .i64 x0),(.int .i64 (IntKind.wrap .i64 ((l1:Int) - 1))),(.int .i64 0),(.int .u64 0),(.int .u64 0),(.int .u64 0),(.int .u64 0)] H65 fun H66 =>
 zqj_3 Q E x1 l1 c1 x2 l2 c2 x7 l7 c7 (some ⟨i64,0,none⟩) H66
def zqj_6_M:Prop:=mI .i64 (τ 0) fun x0=>mSl (τ 1) fun x1 l1 c1=>mSl (τ 2) fun x2 l2 c2=>mSl (τ 7) fun x7 l7 c7=>zqj_6 Q E x0 x1 l1 c1 x2 l2 c2 x7 l7 c7 H
theorem zqj_7ok :Ok Pr (zqj_6_M Q E) (sA zqj_p3) (zqj_q3 Q E) E:=fun τ H h =>
  wI 0 h (fun x0 h=>wSl 1 h (fun x1 l1 c1 h=>wSl 2 h (fun x2 l2 c2 h=>wSl 7 h (fun x7 l7 c7 h=>(conv (by kernel_rfl) h)))))
theorem zqj_8ok :Ok Pr (zqj_6_M Q E) zqj_p3 (zqj_q1 Q E) E:=fun τ H h =>
  (conv (by kernel_rfl) (vc_seq (K:=(zqj_3_M Q E)) (zqj_7ok Q E τ H h) (zqj_5ok Q E)))
noncomputable def zqj_q4 :XT:=(xthen (zqj_6_M Q E) (zqj_q1 Q E))
noncomputable def zqj_p8:Code:=sA (sB (sB zqj_p0))
noncomputable def zqj_q5 :XT:=(xblock 0 (zqj_q4 Q E))
noncomputable def zqj_q6 (nx67:OA→Nat→Nat→Int→HP):XT:=(xthen (fun τ H=>mSl (τ 7) fun x7' l7' c7'=>mI .i64 (τ 8) fun x8'=>nx67 x7' l7' c7' x8' H) (zqj_q5 Q E))
noncomputable def zqj_p11:Code:=sI (sI (sB zqj_p8))
def zqj_9 (nx67:OA→Nat→Nat→Int→HP) (Q:QT) (E:ET) (x0:Int) (x1:OA) (l1 c1:Nat) (x2:OA) (l2 c2:Nat) (x7:OA) (l7 c7:Nat) (x8:Int) (H:Heap):Prop :=
 (0≤x8∧x8 < (l2:Int))∧ptr x2 fun q68 =>
 ∃ n69 n70 n71 n72 n73 n74 n75:Int,Heap.rd H (Addr.add q68 (x8.toNat * 7)) 0 [(.int .i64 n69),(.int .i64 n70),(.int .i64 n71),(.int .u64 n72),(.int .u64 n73),(.int .u64 n74),(.int .u64 n75)]∧nw (.cells #[(.int .i64 0),(.int .i64 0),(.int .i64 0),(.int .u64 0),(.int .u64 0),(.int .u64 0),(.int .u64 0)] 48 (0,0)) H fun i76 H77 =>
 wr ⟨i76,0,none⟩ [(.int .i64 n69),(.int .i64 n70),(.int .i64 n71),(.int .u64 n72),(.int .u64 n73),(.int .u64 n74),(.int .u64 n75)] H77 fun H78 =>
 ∃ Z79:Nat→Prop,
 ldI .i64 ⟨i76,0,none⟩ H78 fun n80 =>
 ldI .i64 ⟨i76,1,none⟩ H78 fun n81 =>
 Z79 (Addr.block ⟨i76,0,none⟩)∧ldI .i64 ⟨i76,0,none⟩ H78 fun n82 =>
 Z79 (Addr.block ⟨i76,2,none⟩)∧ldI .i64 ⟨i76,2,none⟩ H78 fun n83 =>
 Does Pr 102 #[(.int .i64 n80),(.int .i64 0),(.int .i64 n81),(.int .i64 (l1:Int))] H78 (fun v84 H85 =>
 ∃ n86:Int,v84=(.int .i64 n86)∧(∀ z,Z79 z→H78 z ≠ none→H85 z=H78 z)∧Does Pr 102 #[(.int .i64 n82),(.int .i64 1),(.int .i64 n83),(.int .i64 (l1:Int))] H85 (fun v87 H88 =>
 ∃ n89:Int,v87=(.int .i64 n89)∧wr ⟨i76,1,none⟩ [(.int .i64 n86)] H88 fun H90 =>
 wr ⟨i76,2,none⟩ [(.int .i64 n89)] H90 fun H91 =>
 ∃ n92 n93 n94 n95 n96 n97 n98:Int,Heap.rd H91 ⟨i76,0,none⟩ 0 [(.int .i64 n92),(.int .i64 n93),(.int .i64 n94),(.int .u64 n95),(.int .u64 n96),(.int .u64 n97),(.int .u64 n98)]∧nw (.cells #[(.int .i64 n92),(.int .i64 n93),(.int .i64 n94),(.int .u64 n95),(.int .u64 n96),(.int .u64 n97),(.int .u64 n98)] 48 (0,0)) H91 fun i99 H100 =>
 app Pr 23 x7 l7 c7 (.slice (some ⟨i99,0,none⟩) 1 1) H100 fun p101 l102 c103 H104 =>
 nx67 p101 l102 c103 (IntKind.wrap .i64 (x8+1)) H104) (fun _ _=>False)) (fun _ _=>False)
def zqj_9_M (nx67:OA→Nat→Nat→Int→HP) (τ:Tau) (H:Heap):Prop:=mI .i64 (τ 0) fun x0=>mSl (τ 1) fun x1 l1 c1=>mSl (τ 2) fun x2 l2 c2=>mSl (τ 7) fun x7 l7 c7=>mI .i64 (τ 8) fun x8=>zqj_9 nx67 Q E x0 x1 l1 c1 x2 l2 c2 x7 l7 c7 x8 H
theorem zqj_10ok (nx67:OA→Nat→Nat→Int→HP):Ok Pr (zqj_9_M Q E nx67) (sB zqj_p11) (zqj_q6 Q E nx67) E:=fun τ H h =>
  wI 0 h (fun x0 h=>wSl 1 h (fun x1 l1 c1 h=>wSl 2 h (fun x2 l2 c2 h=>wSl 7 h (fun x7 l7 c7 h=>wI 8 h (fun x8 h=>(conv (by kernel_rfl) h))))))
noncomputable def zqj_q7 (nx67:OA→Nat→Nat→Int→HP):XT:=(xthen (zqj_9_M Q E nx67) (zqj_q6 Q E nx67))
def zqj_11 (nx67:OA→Nat→Nat→Int→HP) (Q:QT) (E:ET) (x0:Int) (x1:OA) (l1 c1:Nat) (x2:OA) (l2 c2:Nat) (x7:OA) (l7 c7:Nat) (x8:Int) (H:Heap):Prop :=
 sel (decide (x8 < (l2:Int)))
 (zqj_9 nx67 Q E x0 x1 l1 c1 x2 l2 c2 x7 l7 c7 x8 H)
 (zqj_6 Q E x0 x1 l1 c1 x2 l2 c2 x7 l7 c7 H)
def zqj_11_M (nx67:OA→Nat→Nat→Int→HP) (τ:Tau) (H:Heap):Prop:=mI .i64 (τ 0) fun x0=>mSl (τ 1) fun x1 l1 c1=>mSl (τ 2) fun x2 l2 c2=>mSl (τ 7) fun x7 l7 c7=>mI .i64 (τ 8) fun x8=>zqj_11 nx67 Q E x0 x1 l1 c1 x2 l2 c2 x7 l7 c7 x8 H
theorem zqj_12ok (nx67:OA→Nat→Nat→Int→HP):Ok Pr (zqj_11_M Q E nx67) (sA zqj_p11) (zqj_q7 Q E nx67) E:=fun τ H h =>
  wI 0 h (fun x0 h=>wSl 1 h (fun x1 l1 c1 h=>wSl 2 h (fun x2 l2 c2 h=>wSl 7 h (fun x7 l7 c7 h=>wI 8 h (fun x8 h=>(conv (by kernel_rfl) h))))))
theorem zqj_13ok (nx67:OA→Nat→Nat→Int→HP):Ok Pr (zqj_11_M Q E nx67) zqj_p11 (zqj_q6 Q E nx67) E:=fun τ H h =>
  (conv (by kernel_rfl) (vc_seq (K:=(zqj_9_M Q E nx67)) (zqj_12ok Q E nx67 τ H h) (zqj_10ok Q E nx67)))
def zqj_14 (Q:QT) (E:ET) (x0:Int) (x1:OA) (l1 c1:Nat) (x2:OA) (l2 c2:Nat) (x7:OA) (l7 c7:Nat) (x8:Int) (H:Heap):Prop :=
 ∃ (I:OA→Nat→Nat→Int→HP) (μ:OA→Nat→Nat→Int→Heap→Nat),I x7 l7 c7 x8 H∧∀ (x7:OA) (l7 c7:Nat) (x8:Int) (H:Heap),I x7 l7 c7 x8 H →
 zqj_11 (fun x7' l7' c7' x8' H1=>I x7' l7' c7' x8' H1∧μ x7' l7' c7' x8' H1 < μ x7 l7 c7 x8 H) Q E x0 x1 l1 c1 x2 l2 c2 x7 l7 c7 x8 H
def zqj_14_M:Prop:=mI .i64 (τ 0) fun x0=>mSl (τ 1) fun x1 l1 c1=>mSl (τ 2) fun x2 l2 c2=>mSl (τ 7) fun x7 l7 c7=>mI .i64 (τ 8) fun x8=>zqj_14 Q E x0 x1 l1 c1 x2 l2 c2 x7 l7 c7 x8 H
theorem zqj_15ok :Ok Pr (zqj_14_M Q E) (sI (sB zqj_p8)) (zqj_q5 Q E) E:=fun τ H h =>
  wI 0 h (fun x0 h=>wSl 1 h (fun x1 l1 c1 h=>wSl 2 h (fun x2 l2 c2 h=>wSl 7 h (fun x7 l7 c7 h=>wI 8 h (fun x8 h=>match h with | ⟨I,μ,h0,hr⟩=>(conv (by kernel_rfl) (vc_loopG (c:=sI (sI (sB zqj_p8))) (τ:=(Tau.upd (Tau.upd (Tau.upd (Tau.upd (Tau.upd τ 0 (.int .i64 x0)) 1 (.slice x1 l1 c1)) 2 (.slice x2 l2 c2)) 7 (.slice x7 l7 c7)) 8 (.int .i64 x8))) [0,1,2] (fun τ H=>mSl (τ 7) fun x7' l7' c7'=>mI .i64 (τ 8) fun x8'=>I x7' l7' c7' x8' H) (fun τ H=>μ (gL1 (τ 7)) (gL2 (τ 7)) (gL3 (τ 7)) (gI (τ 8)) H) (by kernel_rfl) h0 (fun τ1 H1 hf hI=>uF 0 (.int .i64 x0) (hf 0 (by simp)) (uF 1 (.slice x1 l1 c1) (hf 1 (by simp)) (uF 2 (.slice x2 l2 c2) (hf 2 (by simp)) (uSl 7 hI (fun x7r l7r c7r h=>uI 8 h (fun x8r h=>lgx (zqj_13ok Q E (fun x7' l7' c7' x8' H2=>I x7' l7' c7' x8' H2∧μ x7' l7' c7' x8' H2 < μ x7r l7r c7r x8r H1) (Tau.upd (Tau.upd (Tau.upd (Tau.upd (Tau.upd τ1 0 (.int .i64 x0)) 1 (.slice x1 l1 c1)) 2 (.slice x2 l2 c2)) 7 (.slice x7r l7r c7r)) 8 (.int .i64 x8r)) H1 (conv (by kernel_rfl) (hr x7r l7r c7r x8r H1 h))) (fun τ2 H2 hk=>kSl 7 hk (fun x7' l7' c7' h=>kI 8 h (fun x8' h=>conv (by kernel_rfl) h))))))))))))))))
theorem zqj_16ok :Ok Pr (zqj_14_M Q E) (sB zqj_p8) (zqj_q4 Q E) E:=fun τ H h =>
  (conv (by kernel_rfl) (zqj_15ok Q E τ H h))
noncomputable def zqj_q8 :XT:=(xthen (zqj_14_M Q E) (zqj_q4 Q E))
def zqj_17 (Q:QT) (E:ET) (x0:Int) (x1:OA) (l1 c1:Nat) (x2:OA) (l2 c2:Nat) (x7:OA) (l7 c7:Nat) (H:Heap):Prop :=
 zqj_14 Q E x0 x1 l1 c1 x2 l2 c2 x7 l7 c7 0 H
def zqj_17_M:Prop:=mI .i64 (τ 0) fun x0=>mSl (τ 1) fun x1 l1 c1=>mSl (τ 2) fun x2 l2 c2=>mSl (τ 7) fun x7 l7 c7=>zqj_17 Q E x0 x1 l1 c1 x2 l2 c2 x7 l7 c7 H
theorem zqj_18ok :Ok Pr (zqj_17_M Q E) (sA zqj_p8) (zqj_q8 Q E) E:=fun τ H h =>
  wI 0 h (fun x0 h=>wSl 1 h (fun x1 l1 c1 h=>wSl 2 h (fun x2 l2 c2 h=>wSl 7 h (fun x7 l7 c7 h=>(conv (by kernel_rfl) h)))))
theorem zqj_19ok :Ok Pr (zqj_17_M Q E) zqj_p8 (zqj_q4 Q E) E:=fun τ H h =>
  (conv (by kernel_rfl) (vc_seq (K:=(zqj_14_M Q E)) (zqj_18ok Q E τ H h) (zqj_16ok Q E)))
theorem zqj_20ok :Ok Pr (zqj_17_M Q E) (sB (sB zqj_p0)) (zqj_q1 Q E) E:=fun τ H h =>
  (conv (by kernel_rfl) (vc_seq (K:=(zqj_6_M Q E)) (zqj_19ok Q E τ H h) (zqj_8ok Q E)))
noncomputable def zqj_q9 :XT:=(xthen (zqj_17_M Q E) (zqj_q1 Q E))
def zqj_21 (Q:QT) (E:ET) (x0:Int) (x1:OA) (l1 c1:Nat) (x2:OA) (l2 c2:Nat) (H:Heap):Prop :=
 nw (.cells #[] 48 (0,0)) H fun i105 H106 =>
 app Pr 23 (some ⟨i105,0,none⟩) 0 0 (.slice x1 l1 c1) H106 fun p107 l108 c109 H110 =>
 zqj_17 Q E x0 x1 l1 c1 x2 l2 c2 p107 l108 c109 H110
def zqj_21_M:Prop:=mI .i64 (τ 0) fun x0=>mSl (τ 1) fun x1 l1 c1=>mSl (τ 2) fun x2 l2 c2=>zqj_21 Q E x0 x1 l1 c1 x2 l2 c2 H
theorem zqj_22ok :Ok Pr (zqj_21_M Q E) (sA (sB zqj_p0)) (zqj_q9 Q E) E:=fun τ H h =>
  wI 0 h (fun x0 h=>wSl 1 h (fun x1 l1 c1 h=>wSl 2 h (fun x2 l2 c2 h=>(conv (by kernel_rfl) h))))
theorem zqj_23ok :Ok Pr (zqj_21_M Q E) (sB zqj_p0) (zqj_q1 Q E) E:=fun τ H h =>
  (conv (by kernel_rfl) (vc_seq (K:=(zqj_17_M Q E)) (zqj_22ok Q E τ H h) (zqj_20ok Q E)))
def zqj (Q:QT) (E:ET) (a0:Int) (a1:OA) (a1l:Nat) (a1c:Nat) (a2:OA) (a2l:Nat) (a2c:Nat) (H:Heap):Prop :=
 zqj_21 Q E a0 a1 a1l a1c a2 a2l a2c H
theorem zqj_fn (a0:Int) (a1:OA) (a1l:Nat) (a1c:Nat) (a2:OA) (a2l:Nat) (a2c:Nat) (Q:QT) (E:ET) (H:Heap) (h:zqj Q E a0 a1 a1l a1c a2 a2l a2c H)  :Does Pr 91 #[(.int .i64 a0),(.slice a1 a1l a1c),(.slice a2 a2l a2c)] H Q E :=
  Fn_of_vc (fn:=Try.f91) (c:=zqj_p0) (args:=[(.int .i64 a0),(.slice a1 a1l a1c),(.slice a2 a2l a2c)]) mixed (by kernel_rfl) (by kernel_rfl) (by kernel_rfl) (by kernel_rfl) (by kernel_rfl) ((conv (B:=vc Pr zqj_p0 (argT [(.int .i64 a0),(.slice a1 a1l a1c),(.slice a2 a2l a2c)]) (zqj_q1 Q E) E H) (by kernel_rfl) (vc_seq (K:=(zqj_21_M Q E)) (conv (B:=vc Pr (sA zqj_p0) (argT [(.int .i64 a0),(.slice a1 a1l a1c),(.slice a2 a2l a2c)]) (xthen (zqj_21_M Q E) (zqj_q1 Q E)) E H) (by kernel_rfl) h) (zqj_23ok Q E))))
noncomputable def zqk_q1 (Q:QT) (E:ET) :XT:=(retQ Pr (Try.f100).results.toList Q)
noncomputable def zqk_p1:Code:=sB (bodyOf Try.f100)
def zqk_1 (Q:QT) (E:ET) (x3:OA) (l3 c3:Nat) (H:Heap):Prop :=
 Q (.slice x3 l3 c3) H
def zqk_1_M:Prop:=mSl (τ 3) fun x3 l3 c3=>zqk_1 Q E x3 l3 c3 H
theorem zqk_2ok :Ok Pr (zqk_1_M Q E) (sB (sB zqk_p1)) (zqk_q1 Q E) E:=fun τ H h =>
  wSl 3 h (fun x3 l3 c3 h=>(conv (by kernel_rfl) h))
noncomputable def zqk_q2 :XT:=(xthen (zqk_1_M Q E) (zqk_q1 Q E))
noncomputable def zqk_q4 (nx32:OA→Nat→Nat→HP):XT:=(xthen (fun τ H=>mSl (τ 3) fun x3' l3' c3'=>nx32 x3' l3' c3' H) (xblock 0 (zqk_q2 Q E)))
noncomputable def zqk_p6:Code:=sI (sI (sA (sB zqk_p1)))
def zqk_3 (nx32:OA→Nat→Nat→HP) (Q:QT) (E:ET) (x0 x3:OA) (l3 c3:Nat) (H:Heap):Prop :=
 ptr x0 fun q55 =>
 ldI .i64 (Addr.add q55 1) H fun n56 =>
 ptr x0 fun q57 =>
 wr (Addr.add q57 1) [(.int .i64 (IntKind.wrap .i64 (n56+1)))] H fun H58 =>
 nx32 x3 l3 c3 H58
def zqk_3_M (nx32:OA→Nat→Nat→HP) (τ:Tau) (H:Heap):Prop:=mP (τ 0) fun x0=>mSl (τ 3) fun x3 l3 c3=>zqk_3 nx32 Q E x0 x3 l3 c3 H
theorem zqk_4ok (nx32:OA→Nat→Nat→HP):Ok Pr (zqk_3_M Q E nx32) (sB (sI (sB zqk_p6))) (xblock 1 (zqk_q4 Q E nx32)) E:=fun τ H h =>
  wP 0 h (fun x0 h=>wSl 3 h (fun x3 l3 c3 h=>(conv (by kernel_rfl) h)))
def zqk_5 (nx32:OA→Nat→Nat→HP) (Q:QT) (E:ET) (x0 x3:OA) (l3 c3:Nat) (H:Heap):Prop :=
 ptr x0 fun q59 =>
 ldS q59 H fun s60 =>
 ptr x0 fun q61 =>
 ldI .i64 (Addr.add q61 1) H fun n62 =>
 (0≤n62∧n62 < ((ByteArray.size s60:Nat):Int))∧sel (((sAt s60 n62):Int) == 42)
 (Does Pr 91 #[(.int .i64 5),(.slice x3 l3 c3),(.slice none 0 0)] H (fun v63 H64 =>
 ∃ (p65:OA) (l66 c67:Nat),v63=(.slice p65 l66 c67)∧zqk_3 nx32 Q E x0 p65 l66 c67 H64) E)
 (sel (((sAt s60 n62):Int) == 43)
 (Does Pr 91 #[(.int .i64 6),(.slice x3 l3 c3),(.slice none 0 0)] H (fun v68 H69 =>
 ∃ (p70:OA) (l71 c72:Nat),v68=(.slice p70 l71 c72)∧zqk_3 nx32 Q E x0 p70 l71 c72 H69) E)
 (sel (((sAt s60 n62):Int) == 63)
 (Does Pr 91 #[(.int .i64 7),(.slice x3 l3 c3),(.slice none 0 0)] H (fun v73 H74 =>
 ∃ (p75:OA) (l76 c77:Nat),v73=(.slice p75 l76 c77)∧zqk_3 nx32 Q E x0 p75 l76 c77 H74) E)
 (Q (.slice x3 l3 c3) H)))
def zqk_5_M (nx32:OA→Nat→Nat→HP) (τ:Tau) (H:Heap):Prop:=mP (τ 0) fun x0=>mSl (τ 3) fun x3 l3 c3=>zqk_5 nx32 Q E x0 x3 l3 c3 H
theorem zqk_6ok (nx32:OA→Nat→Nat→HP):Ok Pr (zqk_5_M Q E nx32) (sA (sI (sB zqk_p6))) (xthen (zqk_3_M Q E nx32) (xblock 1 (zqk_q4 Q E nx32))) E:=fun τ H h =>
  wP 0 h (fun x0 h=>wSl 3 h (fun x3 l3 c3 h=>(conv (by kernel_rfl) h)))
theorem zqk_7ok (nx32:OA→Nat→Nat→HP):Ok Pr (zqk_5_M Q E nx32) (sI (sB zqk_p6)) (xblock 1 (zqk_q4 Q E nx32)) E:=fun τ H h =>
  (conv (by kernel_rfl) (vc_seq (K:=(zqk_3_M Q E nx32)) (zqk_6ok Q E nx32 τ H h) (zqk_4ok Q E nx32)))
theorem zqk_8ok (nx32:OA→Nat→Nat→HP):Ok Pr (zqk_5_M Q E nx32) (sB zqk_p6) (zqk_q4 Q E nx32) E:=fun τ H h =>
  (conv (by kernel_rfl) (zqk_7ok Q E nx32 τ H h))
def zqk_9 (nx32:OA→Nat→Nat→HP) (Q:QT) (E:ET) (x0 x3:OA) (l3 c3:Nat) (H:Heap):Prop :=
 Does Pr 90 #[(.pointer x0)] H (fun v78 H79 =>
 ∃ b80:Bool,v78=(.bool b80)∧sel b80
 (zqk_5 nx32 Q E x0 x3 l3 c3 H79)
 (zqk_1 Q E x3 l3 c3 H79)) E
def zqk_9_M (nx32:OA→Nat→Nat→HP) (τ:Tau) (H:Heap):Prop:=mP (τ 0) fun x0=>mSl (τ 3) fun x3 l3 c3=>zqk_9 nx32 Q E x0 x3 l3 c3 H
theorem zqk_10ok (nx32:OA→Nat→Nat→HP):Ok Pr (zqk_9_M Q E nx32) (sA zqk_p6) (xthen (zqk_5_M Q E nx32) (zqk_q4 Q E nx32)) E:=fun τ H h =>
  wP 0 h (fun x0 h=>wSl 3 h (fun x3 l3 c3 h=>(conv (by kernel_rfl) h)))
theorem zqk_11ok (nx32:OA→Nat→Nat→HP):Ok Pr (zqk_9_M Q E nx32) zqk_p6 (zqk_q4 Q E nx32) E:=fun τ H h =>
  (conv (by kernel_rfl) (vc_seq (K:=(zqk_5_M Q E nx32)) (zqk_10ok Q E nx32 τ H h) (zqk_8ok Q E nx32)))
def zqk_12 (Q:QT) (E:ET) (x0 x3:OA) (l3 c3:Nat) (H:Heap):Prop :=
 ∃ (I:OA→Nat→Nat→HP) (μ:OA→Nat→Nat→Heap→Nat),I x3 l3 c3 H∧∀ (x3:OA) (l3 c3:Nat) (H:Heap),I x3 l3 c3 H →
 zqk_9 (fun x3' l3' c3' H1=>I x3' l3' c3' H1∧μ x3' l3' c3' H1 < μ x3 l3 c3 H) Q E x0 x3 l3 c3 H
def zqk_12_M:Prop:=mP (τ 0) fun x0=>mSl (τ 3) fun x3 l3 c3=>zqk_12 Q E x0 x3 l3 c3 H
theorem zqk_13ok :Ok Pr (zqk_12_M Q E) (sI (sA (sB zqk_p1))) (xblock 0 (zqk_q2 Q E)) E:=fun τ H h =>
  wP 0 h (fun x0 h=>wSl 3 h (fun x3 l3 c3 h=>match h with | ⟨I,μ,h0,hr⟩=>(conv (by kernel_rfl) (vc_loopG (c:=sI (sI (sA (sB zqk_p1)))) (τ:=(Tau.upd (Tau.upd τ 0 (.pointer x0)) 3 (.slice x3 l3 c3))) [0] (fun τ H=>mSl (τ 3) fun x3' l3' c3'=>I x3' l3' c3' H) (fun τ H=>μ (gL1 (τ 3)) (gL2 (τ 3)) (gL3 (τ 3)) H) (by kernel_rfl) h0 (fun τ1 H1 hf hI=>uF 0 (.pointer x0) (hf 0 (by simp)) (uSl 3 hI (fun x3r l3r c3r h=>lgx (zqk_11ok Q E (fun x3' l3' c3' H2=>I x3' l3' c3' H2∧μ x3' l3' c3' H2 < μ x3r l3r c3r H1) (Tau.upd (Tau.upd τ1 0 (.pointer x0)) 3 (.slice x3r l3r c3r)) H1 (conv (by kernel_rfl) (hr x3r l3r c3r H1 h))) (fun τ2 H2 hk=>kSl 3 hk (fun x3' l3' c3' h=>conv (by kernel_rfl) h)))))))))
theorem zqk_14ok :Ok Pr (zqk_12_M Q E) (sA (sB zqk_p1)) (zqk_q2 Q E) E:=fun τ H h =>
  (conv (by kernel_rfl) (zqk_13ok Q E τ H h))
theorem zqk_15ok :Ok Pr (zqk_12_M Q E) (sB zqk_p1) (zqk_q1 Q E) E:=fun τ H h =>
  (conv (by kernel_rfl) (vc_seq (K:=(zqk_1_M Q E)) (zqk_14ok Q E τ H h) (zqk_2ok Q E)))
def zqk_16 (Q:QT) (E:ET) (x0:OA) (H:Heap):Prop :=
 Does Pr 105 #[(.pointer x0)] H (fun v81 H82 =>
 ∃ (p83:OA) (l84 c85:Nat),v81=(.slice p83 l84 c85)∧zqk_12 Q E x0 p83 l84 c85 H82) E
def zqk_16_M:Prop:=mP (τ 0) fun x0=>zqk_16 Q E x0 H
theorem zqk_17ok :Ok Pr (zqk_16_M Q E) (sA zqk_p1) (xthen (zqk_12_M Q E) (zqk_q1 Q E)) E:=fun τ H h =>
  wP 0 h (fun x0 h=>(conv (by kernel_rfl) h))
theorem zqk_18ok :Ok Pr (zqk_16_M Q E) zqk_p1 (zqk_q1 Q E) E:=fun τ H h =>
  (conv (by kernel_rfl) (vc_seq (K:=(zqk_12_M Q E)) (zqk_17ok Q E τ H h) (zqk_15ok Q E)))
def zqk (Q:QT) (E:ET) (a0:OA) (H:Heap):Prop :=
 zqk_16 Q E a0 H
theorem zqk_fn (a0:OA) (Q:QT) (E:ET) (H:Heap) (h:zqk Q E a0 H)  :Does Pr 100 #[(.pointer a0)] H Q E :=
  Fn_of_vc (fn:=Try.f100) (c:=(bodyOf Try.f100)) (args:=[(.pointer a0)]) mixed (by kernel_rfl) (by kernel_rfl) (by kernel_rfl) (by kernel_rfl) (by kernel_rfl) ((conv (B:=vc Pr (bodyOf Try.f100) (argT [(.pointer a0)]) (zqk_q1 Q E) E H) (by kernel_rfl) (vc_seq (K:=(zqk_16_M Q E)) (conv (B:=vc Pr (sA (bodyOf Try.f100)) (argT [(.pointer a0)]) (xthen (zqk_16_M Q E) (zqk_q1 Q E)) E H) (by kernel_rfl) h) (zqk_18ok Q E))))
noncomputable def zql_q1 (Q:QT) (E:ET) :XT:=(retQ Pr (Try.f101).results.toList Q)
def zql (Q:QT) (E:ET) (a0:Int) (a1_0:Int) (a1_1:Int) (a1_2:Int) (a1_3:Int) (H:Heap):Prop :=
 nw (.cells #[(.int .u64 a1_0),(.int .u64 a1_1),(.int .u64 a1_2),(.int .u64 a1_3)] 46 (0,0)) H fun i1 H2 =>
 ∃ n3 n4 n5 n6:Int,Heap.rd H2 ⟨i1,0,none⟩ 0 [(.int .u64 n3),(.int .u64 n4),(.int .u64 n5),(.int .u64 n6)]∧nw (.cells #[(.int .i64 a0),(.int .i64 0),(.int .i64 0),(.int .u64 n3),(.int .u64 n4),(.int .u64 n5),(.int .u64 n6)] 48 (0,0)) H2 fun i7 H8 =>
 Q (.slice (some ⟨i7,0,none⟩) 1 1) H8
theorem zql_fn (a0:Int) (a1_0:Int) (a1_1:Int) (a1_2:Int) (a1_3:Int) (Q:QT) (E:ET) (H:Heap) (h:zql Q E a0 a1_0 a1_1 a1_2 a1_3 H)  :Does Pr 101 #[(.int .i64 a0),(.agg #[(.int .u64 a1_0),(.int .u64 a1_1),(.int .u64 a1_2),(.int .u64 a1_3)])] H Q E :=
  Fn_of_vc (fn:=Try.f101) (c:=(bodyOf Try.f101)) (args:=[(.int .i64 a0),(.agg #[(.int .u64 a1_0),(.int .u64 a1_1),(.int .u64 a1_2),(.int .u64 a1_3)])]) mixed (by kernel_rfl) (by kernel_rfl) (by kernel_rfl) (by kernel_rfl) (by kernel_rfl) ((conv (B:=vc Pr (bodyOf Try.f101) (argT [(.int .i64 a0),(.agg #[(.int .u64 a1_0),(.int .u64 a1_1),(.int .u64 a1_2),(.int .u64 a1_3)])]) (zql_q1 Q E) E H) (by kernel_rfl) h))
noncomputable def zqm_q1 (Q:QT) (E:ET) :XT:=(retQ Pr (Try.f102).results.toList Q)
def zqm_1 (Q:QT) (E:ET)  (H:Heap):Prop :=
 Q (.int .i64 0) H
def zqm_1_M  (τ:Tau) (H:Heap):Prop:=zqm_1 Q E  H
theorem zqm_2ok :Ok Pr (zqm_1_M Q E) (sB (sB (bodyOf Try.f102))) (zqm_q1 Q E) E:=fun τ H h =>
  (conv (by kernel_rfl) h)
noncomputable def zqm_q2 :XT:=(xthen (zqm_1_M Q E) (zqm_q1 Q E))
def zqm_3 (Q:QT) (E:ET) (x0 x1 x2 x3:Int) (H:Heap):Prop :=
 Does Pr 42 #[(.int .i64 x0)] H (fun v4 H5 =>
 ∃ n6:Int,v4=(.int .i64 n6)∧sel (decide (x1 < n6))
 (Q (.int .i64 (IntKind.wrap .i64 (x2+x3))) H5)
 (zqm_1 Q E  H5)) E
def zqm_3_M:Prop:=mI .i64 (τ 0) fun x0=>mI .i64 (τ 1) fun x1=>mI .i64 (τ 2) fun x2=>mI .i64 (τ 3) fun x3=>zqm_3 Q E x0 x1 x2 x3 H
theorem zqm_4ok :Ok Pr (zqm_3_M Q E) (sA (sB (bodyOf Try.f102))) (zqm_q2 Q E) E:=fun τ H h =>
  wI 0 h (fun x0 h=>wI 1 h (fun x1 h=>wI 2 h (fun x2 h=>wI 3 h (fun x3 h=>(conv (by kernel_rfl) h)))))
theorem zqm_5ok :Ok Pr (zqm_3_M Q E) (sB (bodyOf Try.f102)) (zqm_q1 Q E) E:=fun τ H h =>
  (conv (by kernel_rfl) (vc_seq (K:=(zqm_1_M Q E)) (zqm_4ok Q E τ H h) (zqm_2ok Q E)))
def zqm (Q:QT) (E:ET) (a0:Int) (a1:Int) (a2:Int) (a3:Int) (H:Heap):Prop :=
 zqm_3 Q E a0 a1 a2 a3 H
theorem zqm_fn (a0:Int) (a1:Int) (a2:Int) (a3:Int) (Q:QT) (E:ET) (H:Heap) (h:zqm Q E a0 a1 a2 a3 H)  :Does Pr 102 #[(.int .i64 a0),(.int .i64 a1),(.int .i64 a2),(.int .i64 a3)] H Q E :=
  Fn_of_vc (fn:=Try.f102) (c:=(bodyOf Try.f102)) (args:=[(.int .i64 a0),(.int .i64 a1),(.int .i64 a2),(.int .i64 a3)]) mixed (by kernel_rfl) (by kernel_rfl) (by kernel_rfl) (by kernel_rfl) (by kernel_rfl) ((conv (B:=vc Pr (bodyOf Try.f102) (argT [(.int .i64 a0),(.int .i64 a1),(.int .i64 a2),(.int .i64 a3)]) (zqm_q1 Q E) E H) (by kernel_rfl) (vc_seq (K:=(zqm_3_M Q E)) (conv (B:=vc Pr (sA (bodyOf Try.f102)) (argT [(.int .i64 a0),(.int .i64 a1),(.int .i64 a2),(.int .i64 a3)]) (xthen (zqm_3_M Q E) (zqm_q1 Q E)) E H) (by kernel_rfl) h) (zqm_5ok Q E))))
noncomputable def zqn_q1 (Q:QT) (E:ET) :XT:=(retQ Pr (Try.f105).results.toList Q)
noncomputable def zqn_p3:Code:=sB (sB (sB (bodyOf Try.f105)))
def zqn_1 (Q:QT) (E:ET) (x3:Int) (H:Heap):Prop :=
 Does Pr 108 #[(.agg #[(.int .u64 0),(.int .u64 0),(.int .u64 0),(.int .u64 0)]),(.int .u8 x3)] H (fun v99 H100 =>
 ∃ n101 n102 n103 n104:Int,v99=(.agg #[(.int .u64 n101),(.int .u64 n102),(.int .u64 n103),(.int .u64 n104)])∧Does Pr 101 #[(.int .i64 2),(.agg #[(.int .u64 n101),(.int .u64 n102),(.int .u64 n103),(.int .u64 n104)])] H100 (fun v105 H106 =>
 ∃ (p107:OA) (l108 c109:Nat),v105=(.slice p107 l108 c109)∧Q (.slice p107 l108 c109) H106) E) E
def zqn_1_M:Prop:=mI .u8 (τ 3) fun x3=>zqn_1 Q E x3 H
theorem zqn_2ok :Ok Pr (zqn_1_M Q E) (sB zqn_p3) (zqn_q1 Q E) E:=fun τ H h =>
  wI 3 h (fun x3 h=>(conv (by kernel_rfl) h))
noncomputable def zqn_q2 :XT:=(xthen (zqn_1_M Q E) (zqn_q1 Q E))
noncomputable def zqn_q3 :XT:=(xblock 0 (zqn_q2 Q E))
noncomputable def zqn_p8:Code:=sB (sI (sB (sA zqn_p3)))
def zqn_3 (Q:QT) (E:ET)  (H:Heap):Prop :=
 Does Pr 108 #[(.agg #[(.int .u64 0),(.int .u64 0),(.int .u64 0),(.int .u64 0)]),(.int .u8 10)] H (fun v110 H111 =>
 ∃ n112 n113 n114 n115:Int,v110=(.agg #[(.int .u64 n112),(.int .u64 n113),(.int .u64 n114),(.int .u64 n115)])∧Does Pr 107 #[(.agg #[(.int .u64 n112),(.int .u64 n113),(.int .u64 n114),(.int .u64 n115)])] H111 (fun v116 H117 =>
 ∃ n118 n119 n120 n121:Int,v116=(.agg #[(.int .u64 n118),(.int .u64 n119),(.int .u64 n120),(.int .u64 n121)])∧Does Pr 101 #[(.int .i64 2),(.agg #[(.int .u64 n118),(.int .u64 n119),(.int .u64 n120),(.int .u64 n121)])] H117 (fun v122 H123 =>
 ∃ (p124:OA) (l125 c126:Nat),v122=(.slice p124 l125 c126)∧Q (.slice p124 l125 c126) H123) E) E) E
def zqn_3_M  (τ:Tau) (H:Heap):Prop:=zqn_3 Q E  H
theorem zqn_4ok :Ok Pr (zqn_3_M Q E) (sT zqn_p8) (zqn_q3 Q E) E:=fun τ H h =>
  (conv (by kernel_rfl) h)
def zqn_5 (Q:QT) (E:ET)  (H:Heap):Prop :=
 Does Pr 101 #[(.int .i64 8),(.agg #[(.int .u64 0),(.int .u64 0),(.int .u64 0),(.int .u64 0)])] H (fun v127 H128 =>
 ∃ (p129:OA) (l130 c131:Nat),v127=(.slice p129 l130 c131)∧Q (.slice p129 l130 c131) H128) E
def zqn_5_M  (τ:Tau) (H:Heap):Prop:=zqn_5 Q E  H
theorem zqn_6ok :Ok Pr (zqn_5_M Q E) (sT (sB (sE zqn_p8))) (zqn_q3 Q E) E:=fun τ H h =>
  (conv (by kernel_rfl) h)
noncomputable def zqn_p13:Code:=sE (sB (sE zqn_p8))
def zqn_7 (Q:QT) (E:ET)  (H:Heap):Prop :=
 Does Pr 101 #[(.int .i64 9),(.agg #[(.int .u64 0),(.int .u64 0),(.int .u64 0),(.int .u64 0)])] H (fun v132 H133 =>
 ∃ (p134:OA) (l135 c136:Nat),v132=(.slice p134 l135 c136)∧Q (.slice p134 l135 c136) H133) E
def zqn_7_M  (τ:Tau) (H:Heap):Prop:=zqn_7 Q E  H
theorem zqn_8ok :Ok Pr (zqn_7_M Q E) (sT (sB zqn_p13)) (zqn_q3 Q E) E:=fun τ H h =>
  (conv (by kernel_rfl) h)
noncomputable def zqn_p17:Code:=sB (sE (sB zqn_p13))
def zqn_9 (Q:QT) (E:ET) (x0:OA) (H:Heap):Prop :=
 Does Pr 109 #[(.pointer x0)] H (fun v137 H138 =>
 ∃ n139 n140 n141 n142:Int,∃ b143:Bool,v137=(.tuple #[(.agg #[(.int .u64 n139),(.int .u64 n140),(.int .u64 n141),(.int .u64 n142)]),(.bool b143)])∧nw (.cells #[(.int .u64 0),(.int .u64 0),(.int .u64 0),(.int .u64 0)] 46 (0,0)) H138 fun i144 H145 =>
 wr ⟨i144,0,none⟩ [(.int .u64 n139),(.int .u64 n140),(.int .u64 n141),(.int .u64 n142)] H145 fun H146 =>
 ∃ n147 n148 n149 n150:Int,Heap.rd H146 ⟨i144,0,none⟩ 0 [(.int .u64 n147),(.int .u64 n148),(.int .u64 n149),(.int .u64 n150)]∧Does Pr 101 #[(.int .i64 2),(.agg #[(.int .u64 n147),(.int .u64 n148),(.int .u64 n149),(.int .u64 n150)])] H146 (fun v151 H152 =>
 ∃ (p153:OA) (l154 c155:Nat),v151=(.slice p153 l154 c155)∧Q (.slice p153 l154 c155) H152) E) E
def zqn_9_M:Prop:=mP (τ 0) fun x0=>zqn_9 Q E x0 H
theorem zqn_10ok :Ok Pr (zqn_9_M Q E) (sT zqn_p17) (zqn_q3 Q E) E:=fun τ H h =>
  wP 0 h (fun x0 h=>(conv (by kernel_rfl) h))
noncomputable def zqn_p20:Code:=sB (sE zqn_p17)
def zqn_11 (Q:QT) (E:ET) (x0:OA) (H:Heap):Prop :=
 Does Pr 110 #[(.pointer x0)] H (fun v156 H157 =>
 ∃ n158 n159 n160 n161:Int,v156=(.agg #[(.int .u64 n158),(.int .u64 n159),(.int .u64 n160),(.int .u64 n161)])∧Does Pr 101 #[(.int .i64 2),(.agg #[(.int .u64 n158),(.int .u64 n159),(.int .u64 n160),(.int .u64 n161)])] H157 (fun v162 H163 =>
 ∃ (p164:OA) (l165 c166:Nat),v162=(.slice p164 l165 c166)∧Q (.slice p164 l165 c166) H163) E) E
def zqn_11_M:Prop:=mP (τ 0) fun x0=>zqn_11 Q E x0 H
theorem zqn_12ok :Ok Pr (zqn_11_M Q E) (sT zqn_p20) (zqn_q3 Q E) E:=fun τ H h =>
  wP 0 h (fun x0 h=>(conv (by kernel_rfl) h))
noncomputable def zqn_p23:Code:=sB (sE zqn_p20)
def zqn_13 (Q:QT) (E:ET) (x0:OA) (x3:Int) (H:Heap):Prop :=
 Does Pr 57 #[(.pointer x0),(.int .i64 80)] H (fun v167 H168 =>
 zqn_1 Q E x3 H168) E
def zqn_13_M:Prop:=mP (τ 0) fun x0=>mI .u8 (τ 3) fun x3=>zqn_13 Q E x0 x3 H
theorem zqn_14ok :Ok Pr (zqn_13_M Q E) (sT zqn_p23) (zqn_q3 Q E) E:=fun τ H h =>
  wP 0 h (fun x0 h=>wI 3 h (fun x3 h=>(conv (by kernel_rfl) h)))
noncomputable def zqn_p26:Code:=sB (sE zqn_p23)
def zqn_15 (Q:QT) (E:ET) (x0:OA) (x3:Int) (H:Heap):Prop :=
 Does Pr 57 #[(.pointer x0),(.int .i64 81)] H (fun v169 H170 =>
 zqn_1 Q E x3 H170) E
def zqn_15_M:Prop:=mP (τ 0) fun x0=>mI .u8 (τ 3) fun x3=>zqn_15 Q E x0 x3 H
theorem zqn_16ok :Ok Pr (zqn_15_M Q E) (sT zqn_p26) (zqn_q3 Q E) E:=fun τ H h =>
  wP 0 h (fun x0 h=>wI 3 h (fun x3 h=>(conv (by kernel_rfl) h)))
noncomputable def zqn_p29:Code:=sB (sE zqn_p26)
noncomputable def zqn_p32:Code:=sB (sB (sT zqn_p29))
def zqn_17 (Q:QT) (E:ET) (x0 x6:OA) (l6 c6:Nat) (H:Heap):Prop :=
 ptr x0 fun q192 =>
 ldI .i64 (Addr.add q192 1) H fun n193 =>
 ptr x0 fun q194 =>
 wr (Addr.add q194 1) [(.int .i64 (IntKind.wrap .i64 (n193+1)))] H fun H195 =>
 ptr x0 fun q196 =>
 ldI .i64 (Addr.add q196 2) H195 fun n197 =>
 ptr x0 fun q198 =>
 wr (Addr.add q198 2) [(.int .i64 (IntKind.wrap .i64 (n197 - 1)))] H195 fun H199 =>
 Q (.slice x6 l6 c6) H199
def zqn_17_M:Prop:=mP (τ 0) fun x0=>mSl (τ 6) fun x6 l6 c6=>zqn_17 Q E x0 x6 l6 c6 H
theorem zqn_18ok :Ok Pr (zqn_17_M Q E) (sB zqn_p32) (zqn_q3 Q E) E:=fun τ H h =>
  wP 0 h (fun x0 h=>wSl 6 h (fun x6 l6 c6 h=>(conv (by kernel_rfl) h)))
noncomputable def zqn_q4 :XT:=(xthen (zqn_17_M Q E) (zqn_q3 Q E))
def zqn_19 (Q:QT) (E:ET) (x0 x6:OA) (l6 c6:Nat) (x96:Bool) (H:Heap):Prop :=
 sel x96
 (Does Pr 57 #[(.pointer x0),(.int .i64 83)] H (fun v206 H207 =>
 zqn_17 Q E x0 x6 l6 c6 H207) E)
 (zqn_17 Q E x0 x6 l6 c6 H)
def zqn_19_M:Prop:=mP (τ 0) fun x0=>mSl (τ 6) fun x6 l6 c6=>mB (τ 96) fun x96=>zqn_19 Q E x0 x6 l6 c6 x96 H
theorem zqn_20ok :Ok Pr (zqn_19_M Q E) (sB (sA zqn_p32)) (zqn_q4 Q E) E:=fun τ H h =>
  wP 0 h (fun x0 h=>wSl 6 h (fun x6 l6 c6 h=>wB 96 h (fun x96 h=>(conv (by kernel_rfl) h))))
noncomputable def zqn_q5 :XT:=(xthen (zqn_19_M Q E) (zqn_q4 Q E))
def zqn_21 (Q:QT) (E:ET) (x0 x6:OA) (l6 c6:Nat) (H:Heap):Prop :=
 ptr x0 fun q208 =>
 ldI .i64 (Addr.add q208 3) H fun n209 =>
 sel (n209 == 0)
 (ptr x0 fun q210 =>
 ldI .i64 (Addr.add q210 1) H fun n211 =>
 ptr x0 fun q212 =>
 ldS q212 H fun s213 =>
 zqn_19 Q E x0 x6 l6 c6 (decide (n211 ≥ ((ByteArray.size s213:Nat):Int))) H)
 (zqn_19 Q E x0 x6 l6 c6 false H)
def zqn_21_M:Prop:=mP (τ 0) fun x0=>mSl (τ 6) fun x6 l6 c6=>zqn_21 Q E x0 x6 l6 c6 H
theorem zqn_22ok :Ok Pr (zqn_21_M Q E) (sA (sA zqn_p32)) (zqn_q5 Q E) E:=fun τ H h =>
  wP 0 h (fun x0 h=>wSl 6 h (fun x6 l6 c6 h=>(conv (by kernel_rfl) h)))
theorem zqn_23ok :Ok Pr (zqn_21_M Q E) (sA zqn_p32) (zqn_q4 Q E) E:=fun τ H h =>
  (conv (by kernel_rfl) (vc_seq (K:=(zqn_19_M Q E)) (zqn_22ok Q E τ H h) (zqn_20ok Q E)))
theorem zqn_24ok :Ok Pr (zqn_21_M Q E) zqn_p32 (zqn_q3 Q E) E:=fun τ H h =>
  (conv (by kernel_rfl) (vc_seq (K:=(zqn_17_M Q E)) (zqn_23ok Q E τ H h) (zqn_18ok Q E)))
def zqn_25 (Q:QT) (E:ET) (x0:OA) (H:Heap):Prop :=
 Does Pr 56 #[(.pointer x0)] H (fun v214 H215 =>
 ∃ (p216:OA) (l217 c218:Nat),v214=(.slice p216 l217 c218)∧zqn_21 Q E x0 p216 l217 c218 H215) E
def zqn_25_M:Prop:=mP (τ 0) fun x0=>zqn_25 Q E x0 H
theorem zqn_26ok :Ok Pr (zqn_25_M Q E) (sA (sB (sT zqn_p29))) (xthen (zqn_21_M Q E) (zqn_q3 Q E)) E:=fun τ H h =>
  wP 0 h (fun x0 h=>(conv (by kernel_rfl) h))
theorem zqn_27ok :Ok Pr (zqn_25_M Q E) (sB (sT zqn_p29)) (zqn_q3 Q E) E:=fun τ H h =>
  (conv (by kernel_rfl) (vc_seq (K:=(zqn_21_M Q E)) (zqn_26ok Q E τ H h) (zqn_24ok Q E)))
def zqn_28 (Q:QT) (E:ET) (x0:OA) (H:Heap):Prop :=
 ptr x0 fun q219 =>
 ldI .i64 (Addr.add q219 2) H fun n220 =>
 ptr x0 fun q221 =>
 wr (Addr.add q221 2) [(.int .i64 (IntKind.wrap .i64 (n220+1)))] H fun H222 =>
 ptr x0 fun q223 =>
 ldI .i64 (Addr.add q223 2) H222 fun n224 =>
 sel (decide (n224 > 24))
 (Does Pr 57 #[(.pointer x0),(.int .i64 84)] H222 (fun v225 H226 =>
 Q (.slice none 0 0) H226) E)
 (zqn_25 Q E x0 H222)
def zqn_28_M:Prop:=mP (τ 0) fun x0=>zqn_28 Q E x0 H
theorem zqn_29ok :Ok Pr (zqn_28_M Q E) (sA (sT zqn_p29)) (xthen (zqn_25_M Q E) (zqn_q3 Q E)) E:=fun τ H h =>
  wP 0 h (fun x0 h=>(conv (by kernel_rfl) h))
theorem zqn_30ok :Ok Pr (zqn_28_M Q E) (sT zqn_p29) (zqn_q3 Q E) E:=fun τ H h =>
  (conv (by kernel_rfl) (vc_seq (K:=(zqn_25_M Q E)) (zqn_29ok Q E τ H h) (zqn_27ok Q E)))
def zqn_31 (Q:QT) (E:ET) (x3:Int) (H:Heap):Prop :=
 zqn_1 Q E x3 H
def zqn_31_M:Prop:=mI .u8 (τ 3) fun x3=>zqn_31 Q E x3 H
theorem zqn_32ok :Ok Pr (zqn_31_M Q E) (sE zqn_p29) (zqn_q3 Q E) E:=fun τ H h =>
  wI 3 h (fun x3 h=>(conv (by kernel_rfl) h))
def zqn_33 (Q:QT) (E:ET) (x0:OA) (x3:Int) (x62:Bool) (H:Heap):Prop :=
 sel x62
 (zqn_28 Q E x0 H)
 (zqn_31 Q E x3 H)
def zqn_33_M:Prop:=mP (τ 0) fun x0=>mI .u8 (τ 3) fun x3=>mB (τ 62) fun x62=>zqn_33 Q E x0 x3 x62 H
theorem zqn_34ok :Ok Pr (zqn_33_M Q E) zqn_p29 (zqn_q3 Q E) E:=fun τ H h =>
  wP 0 h (fun x0 h=>wI 3 h (fun x3 h=>wB 62 h (fun x62 h=>(conv (by kernel_rfl) (sel_mapT (b:=x62) (τ:=(Tau.upd (Tau.upd (Tau.upd τ 0 (.pointer x0)) 3 (.int .u8 x3)) 62 (.bool x62))) (H:=H) (zqn_30ok Q E) (zqn_32ok Q E) (conv (by kernel_rfl) h))))))
noncomputable def zqn_q8 :XT:=(xthen (zqn_33_M Q E) (zqn_q3 Q E))
def zqn_35 (Q:QT) (E:ET) (x0:OA) (x3 x23:Int) (H:Heap):Prop :=
 zqn_33 Q E x0 x3 (x23 == 40) H
def zqn_35_M:Prop:=mP (τ 0) fun x0=>mI .u8 (τ 3) fun x3=>mI .u8 (τ 23) fun x23=>zqn_35 Q E x0 x3 x23 H
theorem zqn_36ok :Ok Pr (zqn_35_M Q E) (sA (sE zqn_p26)) (zqn_q8 Q E) E:=fun τ H h =>
  wP 0 h (fun x0 h=>wI 3 h (fun x3 h=>wI 23 h (fun x23 h=>(conv (by kernel_rfl) h))))
theorem zqn_37ok :Ok Pr (zqn_35_M Q E) (sE zqn_p26) (zqn_q3 Q E) E:=fun τ H h =>
  (conv (by kernel_rfl) (vc_seq (K:=(zqn_33_M Q E)) (zqn_36ok Q E τ H h) (zqn_34ok Q E)))
def zqn_38 (Q:QT) (E:ET) (x0:OA) (x3 x23:Int) (x56:Bool) (H:Heap):Prop :=
 sel x56
 (zqn_15 Q E x0 x3 H)
 (zqn_35 Q E x0 x3 x23 H)
def zqn_38_M:Prop:=mP (τ 0) fun x0=>mI .u8 (τ 3) fun x3=>mI .u8 (τ 23) fun x23=>mB (τ 56) fun x56=>zqn_38 Q E x0 x3 x23 x56 H
theorem zqn_39ok :Ok Pr (zqn_38_M Q E) zqn_p26 (zqn_q3 Q E) E:=fun τ H h =>
  wP 0 h (fun x0 h=>wI 3 h (fun x3 h=>wI 23 h (fun x23 h=>wB 56 h (fun x56 h=>(conv (by kernel_rfl) (sel_mapT (b:=x56) (τ:=(Tau.upd (Tau.upd (Tau.upd (Tau.upd τ 0 (.pointer x0)) 3 (.int .u8 x3)) 23 (.int .u8 x23)) 56 (.bool x56))) (H:=H) (zqn_16ok Q E) (zqn_37ok Q E) (conv (by kernel_rfl) h)))))))
noncomputable def zqn_q9 :XT:=(xthen (zqn_38_M Q E) (zqn_q3 Q E))
def zqn_40 (Q:QT) (E:ET) (x0:OA) (x3 x23:Int) (H:Heap):Prop :=
 sel (x23 == 42)
 (zqn_38 Q E x0 x3 x23 (x23 == 42) H)
 (sel (x23 == 43)
 (zqn_38 Q E x0 x3 x23 (x23 == 43) H)
 (zqn_38 Q E x0 x3 x23 (x23 == 63) H))
def zqn_40_M:Prop:=mP (τ 0) fun x0=>mI .u8 (τ 3) fun x3=>mI .u8 (τ 23) fun x23=>zqn_40 Q E x0 x3 x23 H
theorem zqn_41ok :Ok Pr (zqn_40_M Q E) (sA (sE zqn_p23)) (zqn_q9 Q E) E:=fun τ H h =>
  wP 0 h (fun x0 h=>wI 3 h (fun x3 h=>wI 23 h (fun x23 h=>(conv (by kernel_rfl) h))))
theorem zqn_42ok :Ok Pr (zqn_40_M Q E) (sE zqn_p23) (zqn_q3 Q E) E:=fun τ H h =>
  (conv (by kernel_rfl) (vc_seq (K:=(zqn_38_M Q E)) (zqn_41ok Q E τ H h) (zqn_39ok Q E)))
def zqn_43 (Q:QT) (E:ET) (x0:OA) (x3 x23:Int) (x52:Bool) (H:Heap):Prop :=
 sel x52
 (zqn_13 Q E x0 x3 H)
 (zqn_40 Q E x0 x3 x23 H)
def zqn_43_M:Prop:=mP (τ 0) fun x0=>mI .u8 (τ 3) fun x3=>mI .u8 (τ 23) fun x23=>mB (τ 52) fun x52=>zqn_43 Q E x0 x3 x23 x52 H
theorem zqn_44ok :Ok Pr (zqn_43_M Q E) zqn_p23 (zqn_q3 Q E) E:=fun τ H h =>
  wP 0 h (fun x0 h=>wI 3 h (fun x3 h=>wI 23 h (fun x23 h=>wB 52 h (fun x52 h=>(conv (by kernel_rfl) (sel_mapT (b:=x52) (τ:=(Tau.upd (Tau.upd (Tau.upd (Tau.upd τ 0 (.pointer x0)) 3 (.int .u8 x3)) 23 (.int .u8 x23)) 52 (.bool x52))) (H:=H) (zqn_14ok Q E) (zqn_42ok Q E) (conv (by kernel_rfl) h)))))))
noncomputable def zqn_q10 :XT:=(xthen (zqn_43_M Q E) (zqn_q3 Q E))
def zqn_45 (Q:QT) (E:ET) (x0:OA) (x3 x23:Int) (H:Heap):Prop :=
 zqn_43 Q E x0 x3 x23 (x23 == 93) H
def zqn_45_M:Prop:=mP (τ 0) fun x0=>mI .u8 (τ 3) fun x3=>mI .u8 (τ 23) fun x23=>zqn_45 Q E x0 x3 x23 H
theorem zqn_46ok :Ok Pr (zqn_45_M Q E) (sA (sE zqn_p20)) (zqn_q10 Q E) E:=fun τ H h =>
  wP 0 h (fun x0 h=>wI 3 h (fun x3 h=>wI 23 h (fun x23 h=>(conv (by kernel_rfl) h))))
theorem zqn_47ok :Ok Pr (zqn_45_M Q E) (sE zqn_p20) (zqn_q3 Q E) E:=fun τ H h =>
  (conv (by kernel_rfl) (vc_seq (K:=(zqn_43_M Q E)) (zqn_46ok Q E τ H h) (zqn_44ok Q E)))
def zqn_48 (Q:QT) (E:ET) (x0:OA) (x3 x23:Int) (x47:Bool) (H:Heap):Prop :=
 sel x47
 (zqn_11 Q E x0 H)
 (zqn_45 Q E x0 x3 x23 H)
def zqn_48_M:Prop:=mP (τ 0) fun x0=>mI .u8 (τ 3) fun x3=>mI .u8 (τ 23) fun x23=>mB (τ 47) fun x47=>zqn_48 Q E x0 x3 x23 x47 H
theorem zqn_49ok :Ok Pr (zqn_48_M Q E) zqn_p20 (zqn_q3 Q E) E:=fun τ H h =>
  wP 0 h (fun x0 h=>wI 3 h (fun x3 h=>wI 23 h (fun x23 h=>wB 47 h (fun x47 h=>(conv (by kernel_rfl) (sel_mapT (b:=x47) (τ:=(Tau.upd (Tau.upd (Tau.upd (Tau.upd τ 0 (.pointer x0)) 3 (.int .u8 x3)) 23 (.int .u8 x23)) 47 (.bool x47))) (H:=H) (zqn_12ok Q E) (zqn_47ok Q E) (conv (by kernel_rfl) h)))))))
noncomputable def zqn_q11 :XT:=(xthen (zqn_48_M Q E) (zqn_q3 Q E))
def zqn_50 (Q:QT) (E:ET) (x0:OA) (x3 x23:Int) (H:Heap):Prop :=
 zqn_48 Q E x0 x3 x23 (x23 == 91) H
def zqn_50_M:Prop:=mP (τ 0) fun x0=>mI .u8 (τ 3) fun x3=>mI .u8 (τ 23) fun x23=>zqn_50 Q E x0 x3 x23 H
theorem zqn_51ok :Ok Pr (zqn_50_M Q E) (sA (sE zqn_p17)) (zqn_q11 Q E) E:=fun τ H h =>
  wP 0 h (fun x0 h=>wI 3 h (fun x3 h=>wI 23 h (fun x23 h=>(conv (by kernel_rfl) h))))
theorem zqn_52ok :Ok Pr (zqn_50_M Q E) (sE zqn_p17) (zqn_q3 Q E) E:=fun τ H h =>
  (conv (by kernel_rfl) (vc_seq (K:=(zqn_48_M Q E)) (zqn_51ok Q E τ H h) (zqn_49ok Q E)))
def zqn_53 (Q:QT) (E:ET) (x0:OA) (x3 x23:Int) (x38:Bool) (H:Heap):Prop :=
 sel x38
 (zqn_9 Q E x0 H)
 (zqn_50 Q E x0 x3 x23 H)
def zqn_53_M:Prop:=mP (τ 0) fun x0=>mI .u8 (τ 3) fun x3=>mI .u8 (τ 23) fun x23=>mB (τ 38) fun x38=>zqn_53 Q E x0 x3 x23 x38 H
theorem zqn_54ok :Ok Pr (zqn_53_M Q E) zqn_p17 (zqn_q3 Q E) E:=fun τ H h =>
  wP 0 h (fun x0 h=>wI 3 h (fun x3 h=>wI 23 h (fun x23 h=>wB 38 h (fun x38 h=>(conv (by kernel_rfl) (sel_mapT (b:=x38) (τ:=(Tau.upd (Tau.upd (Tau.upd (Tau.upd τ 0 (.pointer x0)) 3 (.int .u8 x3)) 23 (.int .u8 x23)) 38 (.bool x38))) (H:=H) (zqn_10ok Q E) (zqn_52ok Q E) (conv (by kernel_rfl) h)))))))
noncomputable def zqn_q12 :XT:=(xthen (zqn_53_M Q E) (zqn_q3 Q E))
def zqn_55 (Q:QT) (E:ET) (x0:OA) (x3 x23:Int) (H:Heap):Prop :=
 zqn_53 Q E x0 x3 x23 (x23 == 92) H
def zqn_55_M:Prop:=mP (τ 0) fun x0=>mI .u8 (τ 3) fun x3=>mI .u8 (τ 23) fun x23=>zqn_55 Q E x0 x3 x23 H
theorem zqn_56ok :Ok Pr (zqn_55_M Q E) (sA (sE (sB zqn_p13))) (zqn_q12 Q E) E:=fun τ H h =>
  wP 0 h (fun x0 h=>wI 3 h (fun x3 h=>wI 23 h (fun x23 h=>(conv (by kernel_rfl) h))))
theorem zqn_57ok :Ok Pr (zqn_55_M Q E) (sE (sB zqn_p13)) (zqn_q3 Q E) E:=fun τ H h =>
  (conv (by kernel_rfl) (vc_seq (K:=(zqn_53_M Q E)) (zqn_56ok Q E τ H h) (zqn_54ok Q E)))
def zqn_58 (Q:QT) (E:ET) (x0:OA) (x3 x23:Int) (x34:Bool) (H:Heap):Prop :=
 sel x34
 (zqn_7 Q E  H)
 (zqn_55 Q E x0 x3 x23 H)
def zqn_58_M:Prop:=mP (τ 0) fun x0=>mI .u8 (τ 3) fun x3=>mI .u8 (τ 23) fun x23=>mB (τ 34) fun x34=>zqn_58 Q E x0 x3 x23 x34 H
theorem zqn_59ok :Ok Pr (zqn_58_M Q E) (sB zqn_p13) (zqn_q3 Q E) E:=fun τ H h =>
  wP 0 h (fun x0 h=>wI 3 h (fun x3 h=>wI 23 h (fun x23 h=>wB 34 h (fun x34 h=>(conv (by kernel_rfl) (sel_mapT (b:=x34) (τ:=(Tau.upd (Tau.upd (Tau.upd (Tau.upd τ 0 (.pointer x0)) 3 (.int .u8 x3)) 23 (.int .u8 x23)) 34 (.bool x34))) (H:=H) (zqn_8ok Q E) (zqn_57ok Q E) (conv (by kernel_rfl) h)))))))
noncomputable def zqn_q13 :XT:=(xthen (zqn_58_M Q E) (zqn_q3 Q E))
def zqn_60 (Q:QT) (E:ET) (x0:OA) (x3 x23:Int) (H:Heap):Prop :=
 zqn_58 Q E x0 x3 x23 (x23 == 36) H
def zqn_60_M:Prop:=mP (τ 0) fun x0=>mI .u8 (τ 3) fun x3=>mI .u8 (τ 23) fun x23=>zqn_60 Q E x0 x3 x23 H
theorem zqn_61ok :Ok Pr (zqn_60_M Q E) (sA zqn_p13) (zqn_q13 Q E) E:=fun τ H h =>
  wP 0 h (fun x0 h=>wI 3 h (fun x3 h=>wI 23 h (fun x23 h=>(conv (by kernel_rfl) h))))
theorem zqn_62ok :Ok Pr (zqn_60_M Q E) zqn_p13 (zqn_q3 Q E) E:=fun τ H h =>
  (conv (by kernel_rfl) (vc_seq (K:=(zqn_58_M Q E)) (zqn_61ok Q E τ H h) (zqn_59ok Q E)))
def zqn_63 (Q:QT) (E:ET) (x0:OA) (x3 x23:Int) (x30:Bool) (H:Heap):Prop :=
 sel x30
 (zqn_5 Q E  H)
 (zqn_60 Q E x0 x3 x23 H)
def zqn_63_M:Prop:=mP (τ 0) fun x0=>mI .u8 (τ 3) fun x3=>mI .u8 (τ 23) fun x23=>mB (τ 30) fun x30=>zqn_63 Q E x0 x3 x23 x30 H
theorem zqn_64ok :Ok Pr (zqn_63_M Q E) (sB (sE zqn_p8)) (zqn_q3 Q E) E:=fun τ H h =>
  wP 0 h (fun x0 h=>wI 3 h (fun x3 h=>wI 23 h (fun x23 h=>wB 30 h (fun x30 h=>(conv (by kernel_rfl) (sel_mapT (b:=x30) (τ:=(Tau.upd (Tau.upd (Tau.upd (Tau.upd τ 0 (.pointer x0)) 3 (.int .u8 x3)) 23 (.int .u8 x23)) 30 (.bool x30))) (H:=H) (zqn_6ok Q E) (zqn_62ok Q E) (conv (by kernel_rfl) h)))))))
noncomputable def zqn_q14 :XT:=(xthen (zqn_63_M Q E) (zqn_q3 Q E))
def zqn_65 (Q:QT) (E:ET) (x0:OA) (x3 x23:Int) (H:Heap):Prop :=
 zqn_63 Q E x0 x3 x23 (x23 == 94) H
def zqn_65_M:Prop:=mP (τ 0) fun x0=>mI .u8 (τ 3) fun x3=>mI .u8 (τ 23) fun x23=>zqn_65 Q E x0 x3 x23 H
theorem zqn_66ok :Ok Pr (zqn_65_M Q E) (sA (sE zqn_p8)) (zqn_q14 Q E) E:=fun τ H h =>
  wP 0 h (fun x0 h=>wI 3 h (fun x3 h=>wI 23 h (fun x23 h=>(conv (by kernel_rfl) h))))
theorem zqn_67ok :Ok Pr (zqn_65_M Q E) (sE zqn_p8) (zqn_q3 Q E) E:=fun τ H h =>
  (conv (by kernel_rfl) (vc_seq (K:=(zqn_63_M Q E)) (zqn_66ok Q E τ H h) (zqn_64ok Q E)))
def zqn_68 (Q:QT) (E:ET) (x0:OA) (x3 x23:Int) (x24:Bool) (H:Heap):Prop :=
 sel x24
 (zqn_3 Q E  H)
 (zqn_65 Q E x0 x3 x23 H)
def zqn_68_M:Prop:=mP (τ 0) fun x0=>mI .u8 (τ 3) fun x3=>mI .u8 (τ 23) fun x23=>mB (τ 24) fun x24=>zqn_68 Q E x0 x3 x23 x24 H
theorem zqn_69ok :Ok Pr (zqn_68_M Q E) zqn_p8 (zqn_q3 Q E) E:=fun τ H h =>
  wP 0 h (fun x0 h=>wI 3 h (fun x3 h=>wI 23 h (fun x23 h=>wB 24 h (fun x24 h=>(conv (by kernel_rfl) (sel_mapT (b:=x24) (τ:=(Tau.upd (Tau.upd (Tau.upd (Tau.upd τ 0 (.pointer x0)) 3 (.int .u8 x3)) 23 (.int .u8 x23)) 24 (.bool x24))) (H:=H) (zqn_4ok Q E) (zqn_67ok Q E) (conv (by kernel_rfl) h)))))))
noncomputable def zqn_q15 :XT:=(xthen (zqn_68_M Q E) (zqn_q3 Q E))
def zqn_70 (Q:QT) (E:ET) (x0:OA) (x3 x23:Int) (H:Heap):Prop :=
 zqn_68 Q E x0 x3 x23 (x23 == 46) H
def zqn_70_M:Prop:=mP (τ 0) fun x0=>mI .u8 (τ 3) fun x3=>mI .u8 (τ 23) fun x23=>zqn_70 Q E x0 x3 x23 H
theorem zqn_71ok :Ok Pr (zqn_70_M Q E) (sA (sI (sB (sA zqn_p3)))) (zqn_q15 Q E) E:=fun τ H h =>
  wP 0 h (fun x0 h=>wI 3 h (fun x3 h=>wI 23 h (fun x23 h=>(conv (by kernel_rfl) h))))
theorem zqn_72ok :Ok Pr (zqn_70_M Q E) (sI (sB (sA zqn_p3))) (zqn_q3 Q E) E:=fun τ H h =>
  (conv (by kernel_rfl) (vc_seq (K:=(zqn_68_M Q E)) (zqn_71ok Q E τ H h) (zqn_69ok Q E)))
theorem zqn_73ok :Ok Pr (zqn_70_M Q E) (sB (sA zqn_p3)) (zqn_q2 Q E) E:=fun τ H h =>
  (conv (by kernel_rfl) (zqn_72ok Q E τ H h))
noncomputable def zqn_q16 :XT:=(xthen (zqn_70_M Q E) (zqn_q2 Q E))
def zqn_74 (Q:QT) (E:ET) (x0:OA) (x3:Int) (H:Heap):Prop :=
 zqn_70 Q E x0 x3 x3 H
def zqn_74_M:Prop:=mP (τ 0) fun x0=>mI .u8 (τ 3) fun x3=>zqn_74 Q E x0 x3 H
theorem zqn_75ok :Ok Pr (zqn_74_M Q E) (sA (sA zqn_p3)) (zqn_q16 Q E) E:=fun τ H h =>
  wP 0 h (fun x0 h=>wI 3 h (fun x3 h=>(conv (by kernel_rfl) h)))
theorem zqn_76ok :Ok Pr (zqn_74_M Q E) (sA zqn_p3) (zqn_q2 Q E) E:=fun τ H h =>
  (conv (by kernel_rfl) (vc_seq (K:=(zqn_70_M Q E)) (zqn_75ok Q E τ H h) (zqn_73ok Q E)))
theorem zqn_77ok :Ok Pr (zqn_74_M Q E) zqn_p3 (zqn_q1 Q E) E:=fun τ H h =>
  (conv (by kernel_rfl) (vc_seq (K:=(zqn_1_M Q E)) (zqn_76ok Q E τ H h) (zqn_2ok Q E)))
noncomputable def zqn_q17 :XT:=(xthen (zqn_74_M Q E) (zqn_q1 Q E))
def zqn_78 (Q:QT) (E:ET) (x0:OA) (x3:Int) (H:Heap):Prop :=
 ptr x0 fun q227 =>
 ldI .i64 (Addr.add q227 1) H fun n228 =>
 ptr x0 fun q229 =>
 wr (Addr.add q229 1) [(.int .i64 (IntKind.wrap .i64 (n228+1)))] H fun H230 =>
 zqn_74 Q E x0 x3 H230
def zqn_78_M:Prop:=mP (τ 0) fun x0=>mI .u8 (τ 3) fun x3=>zqn_78 Q E x0 x3 H
theorem zqn_79ok :Ok Pr (zqn_78_M Q E) (sA (sB (sB (bodyOf Try.f105)))) (zqn_q17 Q E) E:=fun τ H h =>
  wP 0 h (fun x0 h=>wI 3 h (fun x3 h=>(conv (by kernel_rfl) h)))
theorem zqn_80ok :Ok Pr (zqn_78_M Q E) (sB (sB (bodyOf Try.f105))) (zqn_q1 Q E) E:=fun τ H h =>
  (conv (by kernel_rfl) (vc_seq (K:=(zqn_74_M Q E)) (zqn_79ok Q E τ H h) (zqn_77ok Q E)))
def zqn_81 (Q:QT) (E:ET) (x0:OA) (H:Heap):Prop :=
 ptr x0 fun q231 =>
 ldS q231 H fun s232 =>
 ptr x0 fun q233 =>
 ldI .i64 (Addr.add q233 1) H fun n234 =>
 (0≤n234∧n234 < ((ByteArray.size s232:Nat):Int))∧zqn_78 Q E x0 (sAt s232 n234) H
def zqn_81_M:Prop:=mP (τ 0) fun x0=>zqn_81 Q E x0 H
theorem zqn_82ok :Ok Pr (zqn_81_M Q E) (sA (sB (bodyOf Try.f105))) (xthen (zqn_78_M Q E) (zqn_q1 Q E)) E:=fun τ H h =>
  wP 0 h (fun x0 h=>(conv (by kernel_rfl) h))
theorem zqn_83ok :Ok Pr (zqn_81_M Q E) (sB (bodyOf Try.f105)) (zqn_q1 Q E) E:=fun τ H h =>
  (conv (by kernel_rfl) (vc_seq (K:=(zqn_78_M Q E)) (zqn_82ok Q E τ H h) (zqn_80ok Q E)))
def zqn (Q:QT) (E:ET) (a0:OA) (H:Heap):Prop :=
 zqn_81 Q E a0 H
theorem zqn_fn (a0:OA) (Q:QT) (E:ET) (H:Heap) (h:zqn Q E a0 H)  :Does Pr 105 #[(.pointer a0)] H Q E :=
  Fn_of_vc (fn:=Try.f105) (c:=(bodyOf Try.f105)) (args:=[(.pointer a0)]) mixed (by kernel_rfl) (by kernel_rfl) (by kernel_rfl) (by kernel_rfl) (by kernel_rfl) ((conv (B:=vc Pr (bodyOf Try.f105) (argT [(.pointer a0)]) (zqn_q1 Q E) E H) (by kernel_rfl) (vc_seq (K:=(zqn_81_M Q E)) (conv (B:=vc Pr (sA (bodyOf Try.f105)) (argT [(.pointer a0)]) (xthen (zqn_81_M Q E) (zqn_q1 Q E)) E H) (by kernel_rfl) h) (zqn_83ok Q E))))
noncomputable def zqo_q1 (Q:QT) (E:ET) :XT:=(retQ Pr (Try.f107).results.toList Q)
noncomputable def zqo_p1:Code:=sB (bodyOf Try.f107)
def zqo_1 (Q:QT) (E:ET) (x1 x2:OA) (H:Heap):Prop :=
 ptr x1 fun q7 =>
 ∃ n8 n9 n10 n11:Int,Heap.rd H q7 0 [(.int .u64 n8),(.int .u64 n9),(.int .u64 n10),(.int .u64 n11)]∧ptr x2 fun q13 =>
 wr q13 [(.int .u64 n8),(.int .u64 n9),(.int .u64 n10),(.int .u64 n11)] H fun H12 =>
 ptr x2 fun q14 =>
 ∃ n15 n16 n17 n18:Int,Heap.rd H12 q14 0 [(.int .u64 n15),(.int .u64 n16),(.int .u64 n17),(.int .u64 n18)]∧Q (.agg #[(.int .u64 n15),(.int .u64 n16),(.int .u64 n17),(.int .u64 n18)]) H12
def zqo_1_M:Prop:=mP (τ 1) fun x1=>mP (τ 2) fun x2=>zqo_1 Q E x1 x2 H
theorem zqo_2ok :Ok Pr (zqo_1_M Q E) (sB zqo_p1) (zqo_q1 Q E) E:=fun τ H h =>
  wP 1 h (fun x1 h=>wP 2 h (fun x2 h=>(conv (by kernel_rfl) h)))
noncomputable def zqo_q2 :XT:=(xthen (zqo_1_M Q E) (zqo_q1 Q E))
noncomputable def zqo_p5:Code:=sI (sB (sA zqo_p1))
noncomputable def zqo_q4 (nx19:Int→HP):XT:=(xthen (fun τ H=>mI .i64 (τ 3) fun x3'=>nx19 x3' H) (xblock 0 (zqo_q2 Q E)))
def zqo_3 (nx19:Int→HP) (Q:QT) (E:ET) (x1 x2:OA) (x3:Int) (H:Heap):Prop :=
 ptr x1 fun q20 =>
 (0≤x3∧x3 < ((4:Nat):Int))∧ldI .u64 (Addr.add q20 (x3.toNat * 1)) H fun n21 =>
 ptr x1 fun q22 =>
 (0≤x3∧x3 < ((4:Nat):Int))∧wr (Addr.add q22 (x3.toNat * 1)) [(.int .u64 (IntKind.wrap .u64 (BitVec.ofInt (IntKind.bits .u64) (if IntKind.signed .u64 then -1 else IntKind.max .u64) ^^^ BitVec.ofInt (IntKind.bits .u64) n21).toNat))] H fun H23 =>
 nx19 (IntKind.wrap .i64 (x3+1)) H23
def zqo_3_M (nx19:Int→HP) (τ:Tau) (H:Heap):Prop:=mP (τ 1) fun x1=>mP (τ 2) fun x2=>mI .i64 (τ 3) fun x3=>zqo_3 nx19 Q E x1 x2 x3 H
theorem zqo_4ok (nx19:Int→HP):Ok Pr (zqo_3_M Q E nx19) (sB (sI zqo_p5)) (zqo_q4 Q E nx19) E:=fun τ H h =>
  wP 1 h (fun x1 h=>wP 2 h (fun x2 h=>wI 3 h (fun x3 h=>(conv (by kernel_rfl) h))))
noncomputable def zqo_q5 (nx19:Int→HP):XT:=(xthen (zqo_3_M Q E nx19) (zqo_q4 Q E nx19))
def zqo_5 (nx19:Int→HP) (Q:QT) (E:ET) (x1 x2:OA) (x3:Int) (H:Heap):Prop :=
 sel (decide (x3 < 4))
 (zqo_3 nx19 Q E x1 x2 x3 H)
 (zqo_1 Q E x1 x2 H)
def zqo_5_M (nx19:Int→HP) (τ:Tau) (H:Heap):Prop:=mP (τ 1) fun x1=>mP (τ 2) fun x2=>mI .i64 (τ 3) fun x3=>zqo_5 nx19 Q E x1 x2 x3 H
theorem zqo_6ok (nx19:Int→HP):Ok Pr (zqo_5_M Q E nx19) (sA (sI zqo_p5)) (zqo_q5 Q E nx19) E:=fun τ H h =>
  wP 1 h (fun x1 h=>wP 2 h (fun x2 h=>wI 3 h (fun x3 h=>(conv (by kernel_rfl) h))))
theorem zqo_7ok (nx19:Int→HP):Ok Pr (zqo_5_M Q E nx19) (sI zqo_p5) (zqo_q4 Q E nx19) E:=fun τ H h =>
  (conv (by kernel_rfl) (vc_seq (K:=(zqo_3_M Q E nx19)) (zqo_6ok Q E nx19 τ H h) (zqo_4ok Q E nx19)))
def zqo_8 (Q:QT) (E:ET) (x1 x2:OA) (x3:Int) (H:Heap):Prop :=
 ∃ (I:Int→HP) (μ:Int→Heap→Nat),I x3 H∧∀ (x3:Int) (H:Heap),I x3 H →
 zqo_5 (fun x3' H1=>I x3' H1∧μ x3' H1 < μ x3 H) Q E x1 x2 x3 H
def zqo_8_M:Prop:=mP (τ 1) fun x1=>mP (τ 2) fun x2=>mI .i64 (τ 3) fun x3=>zqo_8 Q E x1 x2 x3 H
theorem zqo_9ok :Ok Pr (zqo_8_M Q E) zqo_p5 (xblock 0 (zqo_q2 Q E)) E:=fun τ H h =>
  wP 1 h (fun x1 h=>wP 2 h (fun x2 h=>wI 3 h (fun x3 h=>match h with | ⟨I,μ,h0,hr⟩=>(conv (by kernel_rfl) (vc_loopG (c:=sI zqo_p5) (τ:=(Tau.upd (Tau.upd (Tau.upd τ 1 (.pointer x1)) 2 (.pointer x2)) 3 (.int .i64 x3))) [1,2] (fun τ H=>mI .i64 (τ 3) fun x3'=>I x3' H) (fun τ H=>μ (gI (τ 3)) H) (by kernel_rfl) h0 (fun τ1 H1 hf hI=>uF 1 (.pointer x1) (hf 1 (by simp)) (uF 2 (.pointer x2) (hf 2 (by simp)) (uI 3 hI (fun x3r h=>lgx (zqo_7ok Q E (fun x3' H2=>I x3' H2∧μ x3' H2 < μ x3r H1) (Tau.upd (Tau.upd (Tau.upd τ1 1 (.pointer x1)) 2 (.pointer x2)) 3 (.int .i64 x3r)) H1 (conv (by kernel_rfl) (hr x3r H1 h))) (fun τ2 H2 hk=>kI 3 hk (fun x3' h=>conv (by kernel_rfl) h)))))))))))
theorem zqo_10ok :Ok Pr (zqo_8_M Q E) (sB (sA zqo_p1)) (zqo_q2 Q E) E:=fun τ H h =>
  (conv (by kernel_rfl) (zqo_9ok Q E τ H h))
noncomputable def zqo_q6 :XT:=(xthen (zqo_8_M Q E) (zqo_q2 Q E))
def zqo_11 (Q:QT) (E:ET) (x1 x2:OA) (H:Heap):Prop :=
 zqo_8 Q E x1 x2 0 H
def zqo_11_M:Prop:=mP (τ 1) fun x1=>mP (τ 2) fun x2=>zqo_11 Q E x1 x2 H
theorem zqo_12ok :Ok Pr (zqo_11_M Q E) (sA (sA zqo_p1)) (zqo_q6 Q E) E:=fun τ H h =>
  wP 1 h (fun x1 h=>wP 2 h (fun x2 h=>(conv (by kernel_rfl) h)))
theorem zqo_13ok :Ok Pr (zqo_11_M Q E) (sA zqo_p1) (zqo_q2 Q E) E:=fun τ H h =>
  (conv (by kernel_rfl) (vc_seq (K:=(zqo_8_M Q E)) (zqo_12ok Q E τ H h) (zqo_10ok Q E)))
theorem zqo_14ok :Ok Pr (zqo_11_M Q E) zqo_p1 (zqo_q1 Q E) E:=fun τ H h =>
  (conv (by kernel_rfl) (vc_seq (K:=(zqo_1_M Q E)) (zqo_13ok Q E τ H h) (zqo_2ok Q E)))
def zqo (Q:QT) (E:ET) (a0_0:Int) (a0_1:Int) (a0_2:Int) (a0_3:Int) (H:Heap):Prop :=
 nw (.cells #[(.int .u64 a0_0),(.int .u64 a0_1),(.int .u64 a0_2),(.int .u64 a0_3)] 46 (0,0)) H fun i24 H25 =>
 nw (.cells #[(.int .u64 0),(.int .u64 0),(.int .u64 0),(.int .u64 0)] 46 (0,0)) H25 fun i26 H27 =>
 zqo_11 Q E (some ⟨i24,0,none⟩) (some ⟨i26,0,none⟩) H27
theorem zqo_fn (a0_0:Int) (a0_1:Int) (a0_2:Int) (a0_3:Int) (Q:QT) (E:ET) (H:Heap) (h:zqo Q E a0_0 a0_1 a0_2 a0_3 H)  :Does Pr 107 #[(.agg #[(.int .u64 a0_0),(.int .u64 a0_1),(.int .u64 a0_2),(.int .u64 a0_3)])] H Q E :=
  Fn_of_vc (fn:=Try.f107) (c:=(bodyOf Try.f107)) (args:=[(.agg #[(.int .u64 a0_0),(.int .u64 a0_1),(.int .u64 a0_2),(.int .u64 a0_3)])]) mixed (by kernel_rfl) (by kernel_rfl) (by kernel_rfl) (by kernel_rfl) (by kernel_rfl) ((conv (B:=vc Pr (bodyOf Try.f107) (argT [(.agg #[(.int .u64 a0_0),(.int .u64 a0_1),(.int .u64 a0_2),(.int .u64 a0_3)])]) (zqo_q1 Q E) E H) (by kernel_rfl) (vc_seq (K:=(zqo_11_M Q E)) (conv (B:=vc Pr (sA (bodyOf Try.f107)) (argT [(.agg #[(.int .u64 a0_0),(.int .u64 a0_1),(.int .u64 a0_2),(.int .u64 a0_3)])]) (xthen (zqo_11_M Q E) (zqo_q1 Q E)) E H) (by kernel_rfl) h) (zqo_14ok Q E))))
noncomputable def zqp_q1 (Q:QT) (E:ET) :XT:=(retQ Pr (Try.f108).results.toList Q)
def zqp (Q:QT) (E:ET) (a0_0:Int) (a0_1:Int) (a0_2:Int) (a0_3:Int) (a1:Int) (H:Heap):Prop :=
 nw (.cells #[(.int .u64 a0_0),(.int .u64 a0_1),(.int .u64 a0_2),(.int .u64 a0_3)] 46 (0,0)) H fun i1 H2 =>
 nw (.cells #[(.int .u64 0),(.int .u64 0),(.int .u64 0),(.int .u64 0)] 46 (0,0)) H2 fun i3 H4 =>
 (64:Int) ≠ 0∧(64:Int) ≠ 0∧(0≤((IntKind.wrap .u8 (Int.tdiv a1 64)):Int)∧((IntKind.wrap .u8 (Int.tdiv a1 64)):Int) < ((4:Nat):Int))∧ldI .u64 (Addr.add ⟨i1,0,none⟩ (((IntKind.wrap .u8 (Int.tdiv a1 64)):Int).toNat * 1)) H4 fun n5 =>
 (64:Int) ≠ 0∧0≤((Int.tmod a1 64):Int)∧(0≤((IntKind.wrap .u8 (Int.tdiv a1 64)):Int)∧((IntKind.wrap .u8 (Int.tdiv a1 64)):Int) < ((4:Nat):Int))∧wr (Addr.add ⟨i1,0,none⟩ (((IntKind.wrap .u8 (Int.tdiv a1 64)):Int).toNat * 1)) [(.int .u64 (IntKind.wrap .u64 (BitVec.ofInt (IntKind.bits .u64) n5 ||| BitVec.ofInt (IntKind.bits .u64) (IntKind.wrap .u64 (1 * 2 ^ min ((Int.tmod a1 64):Int).toNat (IntKind.bits .u64)))).toNat))] H4 fun H6 =>
 ∃ n7 n8 n9 n10:Int,Heap.rd H6 ⟨i1,0,none⟩ 0 [(.int .u64 n7),(.int .u64 n8),(.int .u64 n9),(.int .u64 n10)]∧wr ⟨i3,0,none⟩ [(.int .u64 n7),(.int .u64 n8),(.int .u64 n9),(.int .u64 n10)] H6 fun H11 =>
 ∃ n12 n13 n14 n15:Int,Heap.rd H11 ⟨i3,0,none⟩ 0 [(.int .u64 n12),(.int .u64 n13),(.int .u64 n14),(.int .u64 n15)]∧Q (.agg #[(.int .u64 n12),(.int .u64 n13),(.int .u64 n14),(.int .u64 n15)]) H11
theorem zqp_fn (a0_0:Int) (a0_1:Int) (a0_2:Int) (a0_3:Int) (a1:Int) (Q:QT) (E:ET) (H:Heap) (h:zqp Q E a0_0 a0_1 a0_2 a0_3 a1 H)  :Does Pr 108 #[(.agg #[(.int .u64 a0_0),(.int .u64 a0_1),(.int .u64 a0_2),(.int .u64 a0_3)]),(.int .u8 a1)] H Q E :=
  Fn_of_vc (fn:=Try.f108) (c:=(bodyOf Try.f108)) (args:=[(.agg #[(.int .u64 a0_0),(.int .u64 a0_1),(.int .u64 a0_2),(.int .u64 a0_3)]),(.int .u8 a1)]) mixed (by kernel_rfl) (by kernel_rfl) (by kernel_rfl) (by kernel_rfl) (by kernel_rfl) ((conv (B:=vc Pr (bodyOf Try.f108) (argT [(.agg #[(.int .u64 a0_0),(.int .u64 a0_1),(.int .u64 a0_2),(.int .u64 a0_3)]),(.int .u8 a1)]) (zqp_q1 Q E) E H) (by kernel_rfl) h))
noncomputable def zqq_q1 (Q:QT) (E:ET) :XT:=(retQ Pr (Try.f109).results.toList Q)
noncomputable def zqq_p2:Code:=sB (sB (bodyOf Try.f109))
def zqq_1 (Q:QT) (E:ET) (x0 x2 x4:OA) (x5:Bool) (H:Heap):Prop :=
 ptr x0 fun q27 =>
 ldI .i64 (Addr.add q27 1) H fun n28 =>
 ptr x0 fun q29 =>
 wr (Addr.add q29 1) [(.int .i64 (IntKind.wrap .i64 (n28+1)))] H fun H30 =>
 ptr x4 fun q31 =>
 ∃ n32 n33 n34 n35:Int,Heap.rd H30 q31 0 [(.int .u64 n32),(.int .u64 n33),(.int .u64 n34),(.int .u64 n35)]∧ptr x2 fun q37 =>
 wr q37 [(.int .u64 n32),(.int .u64 n33),(.int .u64 n34),(.int .u64 n35)] H30 fun H36 =>
 ptr x2 fun q38 =>
 ∃ n39 n40 n41 n42:Int,Heap.rd H36 q38 0 [(.int .u64 n39),(.int .u64 n40),(.int .u64 n41),(.int .u64 n42)]∧Q (.tuple #[(.agg #[(.int .u64 n39),(.int .u64 n40),(.int .u64 n41),(.int .u64 n42)]),(.bool x5)]) H36
def zqq_1_M:Prop:=mP (τ 0) fun x0=>mP (τ 2) fun x2=>mP (τ 4) fun x4=>mB (τ 5) fun x5=>zqq_1 Q E x0 x2 x4 x5 H
theorem zqq_2ok :Ok Pr (zqq_1_M Q E) (sB (sB zqq_p2)) (zqq_q1 Q E) E:=fun τ H h =>
  wP 0 h (fun x0 h=>wP 2 h (fun x2 h=>wP 4 h (fun x4 h=>wB 5 h (fun x5 h=>(conv (by kernel_rfl) h)))))
noncomputable def zqq_q2 :XT:=(xthen (zqq_1_M Q E) (zqq_q1 Q E))
def zqq_3 (Q:QT) (E:ET) (x0 x2 x4:OA) (x5 x6:Bool) (H:Heap):Prop :=
 sel (!x6)
 (Does Pr 57 #[(.pointer x0),(.int .i64 82)] H (fun v43 H44 =>
 zqq_1 Q E x0 x2 x4 x5 H44) E)
 (zqq_1 Q E x0 x2 x4 x5 H)
def zqq_3_M:Prop:=mP (τ 0) fun x0=>mP (τ 2) fun x2=>mP (τ 4) fun x4=>mB (τ 5) fun x5=>mB (τ 6) fun x6=>zqq_3 Q E x0 x2 x4 x5 x6 H
theorem zqq_4ok :Ok Pr (zqq_3_M Q E) (sA (sB zqq_p2)) (zqq_q2 Q E) E:=fun τ H h =>
  wP 0 h (fun x0 h=>wP 2 h (fun x2 h=>wP 4 h (fun x4 h=>wB 5 h (fun x5 h=>wB 6 h (fun x6 h=>(conv (by kernel_rfl) h))))))
theorem zqq_5ok :Ok Pr (zqq_3_M Q E) (sB zqq_p2) (zqq_q1 Q E) E:=fun τ H h =>
  (conv (by kernel_rfl) (vc_seq (K:=(zqq_1_M Q E)) (zqq_4ok Q E τ H h) (zqq_2ok Q E)))
noncomputable def zqq_q3 :XT:=(xthen (zqq_3_M Q E) (zqq_q1 Q E))
def zqq_6 (Q:QT) (E:ET) (x0 x2:OA) (H:Heap):Prop :=
 ptr x0 fun q45 =>
 ldS q45 H fun s46 =>
 ptr x0 fun q47 =>
 ldI .i64 (Addr.add q47 1) H fun n48 =>
 (0≤n48∧n48 < ((ByteArray.size s46:Nat):Int))∧Does Pr 116 #[(.int .u8 (sAt s46 n48))] H (fun v49 H50 =>
 ∃ n51 n52 n53 n54:Int,∃ b55:Bool,∃ b56:Bool,v49=(.tuple #[(.agg #[(.int .u64 n51),(.int .u64 n52),(.int .u64 n53),(.int .u64 n54)]),(.bool b55),(.bool b56)])∧nw (.cells #[(.int .u64 0),(.int .u64 0),(.int .u64 0),(.int .u64 0)] 46 (0,0)) H50 fun i57 H58 =>
 wr ⟨i57,0,none⟩ [(.int .u64 n51),(.int .u64 n52),(.int .u64 n53),(.int .u64 n54)] H58 fun H59 =>
 zqq_3 Q E x0 x2 (some ⟨i57,0,none⟩) b55 b56 H59) (fun _ _=>False)
def zqq_6_M:Prop:=mP (τ 0) fun x0=>mP (τ 2) fun x2=>zqq_6 Q E x0 x2 H
theorem zqq_7ok :Ok Pr (zqq_6_M Q E) (sA zqq_p2) (zqq_q3 Q E) E:=fun τ H h =>
  wP 0 h (fun x0 h=>wP 2 h (fun x2 h=>(conv (by kernel_rfl) h)))
theorem zqq_8ok :Ok Pr (zqq_6_M Q E) zqq_p2 (zqq_q1 Q E) E:=fun τ H h =>
  (conv (by kernel_rfl) (vc_seq (K:=(zqq_3_M Q E)) (zqq_7ok Q E τ H h) (zqq_5ok Q E)))
noncomputable def zqq_q4 :XT:=(xthen (zqq_6_M Q E) (zqq_q1 Q E))
def zqq_9 (Q:QT) (E:ET) (x0 x2:OA) (H:Heap):Prop :=
 ptr x0 fun q60 =>
 ldI .i64 (Addr.add q60 1) H fun n61 =>
 ptr x0 fun q62 =>
 ldS q62 H fun s63 =>
 sel (decide (n61 ≥ ((ByteArray.size s63:Nat):Int)))
 (Does Pr 57 #[(.pointer x0),(.int .i64 82)] H (fun v64 H65 =>
 ptr x2 fun q67 =>
 wr q67 [(.int .u64 0),(.int .u64 0),(.int .u64 0),(.int .u64 0)] H65 fun H66 =>
 ptr x2 fun q68 =>
 ∃ n69 n70 n71 n72:Int,Heap.rd H66 q68 0 [(.int .u64 n69),(.int .u64 n70),(.int .u64 n71),(.int .u64 n72)]∧Q (.tuple #[(.agg #[(.int .u64 n69),(.int .u64 n70),(.int .u64 n71),(.int .u64 n72)]),(.bool false)]) H66) E)
 (zqq_6 Q E x0 x2 H)
def zqq_9_M:Prop:=mP (τ 0) fun x0=>mP (τ 2) fun x2=>zqq_9 Q E x0 x2 H
theorem zqq_10ok :Ok Pr (zqq_9_M Q E) (sA (sB (bodyOf Try.f109))) (zqq_q4 Q E) E:=fun τ H h =>
  wP 0 h (fun x0 h=>wP 2 h (fun x2 h=>(conv (by kernel_rfl) h)))
theorem zqq_11ok :Ok Pr (zqq_9_M Q E) (sB (bodyOf Try.f109)) (zqq_q1 Q E) E:=fun τ H h =>
  (conv (by kernel_rfl) (vc_seq (K:=(zqq_6_M Q E)) (zqq_10ok Q E τ H h) (zqq_8ok Q E)))
def zqq (Q:QT) (E:ET) (a0:OA) (H:Heap):Prop :=
 nw (.cells #[(.int .u64 0),(.int .u64 0),(.int .u64 0),(.int .u64 0)] 46 (0,0)) H fun i73 H74 =>
 zqq_9 Q E a0 (some ⟨i73,0,none⟩) H74
theorem zqq_fn (a0:OA) (Q:QT) (E:ET) (H:Heap) (h:zqq Q E a0 H)  :Does Pr 109 #[(.pointer a0)] H Q E :=
  Fn_of_vc (fn:=Try.f109) (c:=(bodyOf Try.f109)) (args:=[(.pointer a0)]) mixed (by kernel_rfl) (by kernel_rfl) (by kernel_rfl) (by kernel_rfl) (by kernel_rfl) ((conv (B:=vc Pr (bodyOf Try.f109) (argT [(.pointer a0)]) (zqq_q1 Q E) E H) (by kernel_rfl) (vc_seq (K:=(zqq_9_M Q E)) (conv (B:=vc Pr (sA (bodyOf Try.f109)) (argT [(.pointer a0)]) (xthen (zqq_9_M Q E) (zqq_q1 Q E)) E H) (by kernel_rfl) h) (zqq_11ok Q E))))
noncomputable def zqr_q1 (Q:QT) (E:ET) :XT:=(retQ Pr (Try.f110).results.toList Q)
noncomputable def zqr_p2:Code:=sB (sB (bodyOf Try.f110))
def zqr_1 (Q:QT) (E:ET) (x0 x2 x3:OA) (H:Heap):Prop :=
 Does Pr 57 #[(.pointer x0),(.int .i64 80)] H (fun v63 H64 =>
 ptr x3 fun q65 =>
 ∃ n66 n67 n68 n69:Int,Heap.rd H64 q65 0 [(.int .u64 n66),(.int .u64 n67),(.int .u64 n68),(.int .u64 n69)]∧ptr x2 fun q71 =>
 wr q71 [(.int .u64 n66),(.int .u64 n67),(.int .u64 n68),(.int .u64 n69)] H64 fun H70 =>
 ptr x2 fun q72 =>
 ∃ n73 n74 n75 n76:Int,Heap.rd H70 q72 0 [(.int .u64 n73),(.int .u64 n74),(.int .u64 n75),(.int .u64 n76)]∧Q (.agg #[(.int .u64 n73),(.int .u64 n74),(.int .u64 n75),(.int .u64 n76)]) H70) E
def zqr_1_M:Prop:=mP (τ 0) fun x0=>mP (τ 2) fun x2=>mP (τ 3) fun x3=>zqr_1 Q E x0 x2 x3 H
theorem zqr_2ok :Ok Pr (zqr_1_M Q E) (sB (sB (sB zqr_p2))) (zqr_q1 Q E) E:=fun τ H h =>
  wP 0 h (fun x0 h=>wP 2 h (fun x2 h=>wP 3 h (fun x3 h=>(conv (by kernel_rfl) h))))
noncomputable def zqr_q2 :XT:=(xthen (zqr_1_M Q E) (zqr_q1 Q E))
noncomputable def zqr_p6:Code:=sA (sB (sB zqr_p2))
noncomputable def zqr_q4 (nx77:Int→HP):XT:=(xthen (fun τ H=>mI .i64 (τ 5) fun x5'=>nx77 x5' H) (xblock 0 (zqr_q2 Q E)))
noncomputable def zqr_p9:Code:=sI (sI (sB zqr_p6))
def zqr_3 (nx77:Int→HP) (Q:QT) (E:ET) (x0 x2 x3:OA) (x4:Bool) (x5:Int) (H:Heap):Prop :=
 nx77 (IntKind.wrap .i64 (x5+1)) H
def zqr_3_M (nx77:Int→HP) (τ:Tau) (H:Heap):Prop:=mP (τ 0) fun x0=>mP (τ 2) fun x2=>mP (τ 3) fun x3=>mB (τ 4) fun x4=>mI .i64 (τ 5) fun x5=>zqr_3 nx77 Q E x0 x2 x3 x4 x5 H
theorem zqr_4ok (nx77:Int→HP):Ok Pr (zqr_3_M Q E nx77) (sB (sB zqr_p9)) (zqr_q4 Q E nx77) E:=fun τ H h =>
  wP 0 h (fun x0 h=>wP 2 h (fun x2 h=>wP 3 h (fun x3 h=>wB 4 h (fun x4 h=>wI 5 h (fun x5 h=>(conv (by kernel_rfl) h))))))
noncomputable def zqr_q5 (nx77:Int→HP):XT:=(xthen (zqr_3_M Q E nx77) (zqr_q4 Q E nx77))
noncomputable def zqr_p13:Code:=sI (sA (sB zqr_p9))
def zqr_5 (nx77:Int→HP) (Q:QT) (E:ET) (x0 x2 x3:OA) (x4:Bool) (x5:Int) (H:Heap):Prop :=
 ∃ Z161:Nat→Prop,
 (ptr x3 fun ad=>Z161 (Addr.block ad))∧ptr x3 fun q162 =>
 ∃ n163 n164 n165 n166:Int,Heap.rd H q162 0 [(.int .u64 n163),(.int .u64 n164),(.int .u64 n165),(.int .u64 n166)]∧Does Pr 118 #[(.pointer x0)] H (fun v167 H168 =>
 ∃ n169 n170 n171 n172:Int,v167=(.agg #[(.int .u64 n169),(.int .u64 n170),(.int .u64 n171),(.int .u64 n172)])∧(∀ z,Z161 z→H z ≠ none→H168 z=H z)∧Does Pr 117 #[(.agg #[(.int .u64 n163),(.int .u64 n164),(.int .u64 n165),(.int .u64 n166)]),(.agg #[(.int .u64 n169),(.int .u64 n170),(.int .u64 n171),(.int .u64 n172)])] H168 (fun v173 H174 =>
 ∃ n175 n176 n177 n178:Int,v173=(.agg #[(.int .u64 n175),(.int .u64 n176),(.int .u64 n177),(.int .u64 n178)])∧ptr x3 fun q180 =>
 wr q180 [(.int .u64 n175),(.int .u64 n176),(.int .u64 n177),(.int .u64 n178)] H174 fun H179 =>
 zqr_3 nx77 Q E x0 x2 x3 x4 x5 H179) (fun _ _=>False)) (fun _ _=>False)
def zqr_5_M (nx77:Int→HP) (τ:Tau) (H:Heap):Prop:=mP (τ 0) fun x0=>mP (τ 2) fun x2=>mP (τ 3) fun x3=>mB (τ 4) fun x4=>mI .i64 (τ 5) fun x5=>zqr_5 nx77 Q E x0 x2 x3 x4 x5 H
theorem zqr_6ok (nx77:Int→HP):Ok Pr (zqr_5_M Q E nx77) (sB zqr_p13) (xblock 1 (zqr_q5 Q E nx77)) E:=fun τ H h =>
  wP 0 h (fun x0 h=>wP 2 h (fun x2 h=>wP 3 h (fun x3 h=>wB 4 h (fun x4 h=>wI 5 h (fun x5 h=>(conv (by kernel_rfl) h))))))
noncomputable def zqr_q7 (nx77:Int→HP):XT:=(xthen (zqr_5_M Q E nx77) (xblock 1 (zqr_q5 Q E nx77)))
noncomputable def zqr_p16:Code:=sB (sA zqr_p13)
noncomputable def zqr_p18:Code:=sB (sT zqr_p16)
def zqr_7 (nx77:Int→HP) (Q:QT) (E:ET) (x2 x3:OA) (H:Heap):Prop :=
 ptr x3 fun q204 =>
 ∃ n205 n206 n207 n208:Int,Heap.rd H q204 0 [(.int .u64 n205),(.int .u64 n206),(.int .u64 n207),(.int .u64 n208)]∧ptr x2 fun q210 =>
 wr q210 [(.int .u64 n205),(.int .u64 n206),(.int .u64 n207),(.int .u64 n208)] H fun H209 =>
 ptr x2 fun q211 =>
 ∃ n212 n213 n214 n215:Int,Heap.rd H209 q211 0 [(.int .u64 n212),(.int .u64 n213),(.int .u64 n214),(.int .u64 n215)]∧Q (.agg #[(.int .u64 n212),(.int .u64 n213),(.int .u64 n214),(.int .u64 n215)]) H209
def zqr_7_M (nx77:Int→HP) (τ:Tau) (H:Heap):Prop:=mP (τ 2) fun x2=>mP (τ 3) fun x3=>zqr_7 nx77 Q E x2 x3 H
theorem zqr_8ok (nx77:Int→HP):Ok Pr (zqr_7_M Q E nx77) (sB (sB zqr_p18)) (zqr_q7 Q E nx77) E:=fun τ H h =>
  wP 2 h (fun x2 h=>wP 3 h (fun x3 h=>(conv (by kernel_rfl) h)))
noncomputable def zqr_q8 (nx77:Int→HP):XT:=(xthen (zqr_7_M Q E nx77) (zqr_q7 Q E nx77))
def zqr_9 (nx77:Int→HP) (Q:QT) (E:ET) (x2 x3:OA) (x4:Bool) (H:Heap):Prop :=
 sel x4
 (ptr x3 fun q216 =>
 ∃ n217 n218 n219 n220:Int,Heap.rd H q216 0 [(.int .u64 n217),(.int .u64 n218),(.int .u64 n219),(.int .u64 n220)]∧Does Pr 107 #[(.agg #[(.int .u64 n217),(.int .u64 n218),(.int .u64 n219),(.int .u64 n220)])] H (fun v221 H222 =>
 ∃ n223 n224 n225 n226:Int,v221=(.agg #[(.int .u64 n223),(.int .u64 n224),(.int .u64 n225),(.int .u64 n226)])∧ptr x2 fun q228 =>
 wr q228 [(.int .u64 n223),(.int .u64 n224),(.int .u64 n225),(.int .u64 n226)] H222 fun H227 =>
 ptr x2 fun q229 =>
 ∃ n230 n231 n232 n233:Int,Heap.rd H227 q229 0 [(.int .u64 n230),(.int .u64 n231),(.int .u64 n232),(.int .u64 n233)]∧Q (.agg #[(.int .u64 n230),(.int .u64 n231),(.int .u64 n232),(.int .u64 n233)]) H227) E)
 (zqr_7 nx77 Q E x2 x3 H)
def zqr_9_M (nx77:Int→HP) (τ:Tau) (H:Heap):Prop:=mP (τ 2) fun x2=>mP (τ 3) fun x3=>mB (τ 4) fun x4=>zqr_9 nx77 Q E x2 x3 x4 H
theorem zqr_10ok (nx77:Int→HP):Ok Pr (zqr_9_M Q E nx77) (sA (sB zqr_p18)) (zqr_q8 Q E nx77) E:=fun τ H h =>
  wP 2 h (fun x2 h=>wP 3 h (fun x3 h=>wB 4 h (fun x4 h=>(conv (by kernel_rfl) h))))
theorem zqr_11ok (nx77:Int→HP):Ok Pr (zqr_9_M Q E nx77) (sB zqr_p18) (zqr_q7 Q E nx77) E:=fun τ H h =>
  (conv (by kernel_rfl) (vc_seq (K:=(zqr_7_M Q E nx77)) (zqr_10ok Q E nx77 τ H h) (zqr_8ok Q E nx77)))
noncomputable def zqr_q9 (nx77:Int→HP):XT:=(xthen (zqr_9_M Q E nx77) (zqr_q7 Q E nx77))
def zqr_12 (nx77:Int→HP) (Q:QT) (E:ET) (x0 x2 x3:OA) (x4:Bool) (H:Heap):Prop :=
 ptr x0 fun q234 =>
 ldI .i64 (Addr.add q234 1) H fun n235 =>
 ptr x0 fun q236 =>
 wr (Addr.add q236 1) [(.int .i64 (IntKind.wrap .i64 (n235+1)))] H fun H237 =>
 zqr_9 nx77 Q E x2 x3 x4 H237
def zqr_12_M (nx77:Int→HP) (τ:Tau) (H:Heap):Prop:=mP (τ 0) fun x0=>mP (τ 2) fun x2=>mP (τ 3) fun x3=>mB (τ 4) fun x4=>zqr_12 nx77 Q E x0 x2 x3 x4 H
theorem zqr_13ok (nx77:Int→HP):Ok Pr (zqr_12_M Q E nx77) (sA zqr_p18) (zqr_q9 Q E nx77) E:=fun τ H h =>
  wP 0 h (fun x0 h=>wP 2 h (fun x2 h=>wP 3 h (fun x3 h=>wB 4 h (fun x4 h=>(conv (by kernel_rfl) h)))))
theorem zqr_14ok (nx77:Int→HP):Ok Pr (zqr_12_M Q E nx77) zqr_p18 (zqr_q7 Q E nx77) E:=fun τ H h =>
  (conv (by kernel_rfl) (vc_seq (K:=(zqr_9_M Q E nx77)) (zqr_13ok Q E nx77 τ H h) (zqr_11ok Q E nx77)))
noncomputable def zqr_q10 (nx77:Int→HP):XT:=(xthen (zqr_12_M Q E nx77) (zqr_q7 Q E nx77))
def zqr_15 (nx77:Int→HP) (Q:QT) (E:ET) (x0 x2 x3:OA) (x4:Bool) (x5:Int) (H:Heap):Prop :=
 sel (x5 == 0)
 (Does Pr 57 #[(.pointer x0),(.int .i64 80)] H (fun v238 H239 =>
 zqr_12 nx77 Q E x0 x2 x3 x4 H239) E)
 (zqr_12 nx77 Q E x0 x2 x3 x4 H)
def zqr_15_M (nx77:Int→HP) (τ:Tau) (H:Heap):Prop:=mP (τ 0) fun x0=>mP (τ 2) fun x2=>mP (τ 3) fun x3=>mB (τ 4) fun x4=>mI .i64 (τ 5) fun x5=>zqr_15 nx77 Q E x0 x2 x3 x4 x5 H
theorem zqr_16ok (nx77:Int→HP):Ok Pr (zqr_15_M Q E nx77) (sA (sT zqr_p16)) (zqr_q10 Q E nx77) E:=fun τ H h =>
  wP 0 h (fun x0 h=>wP 2 h (fun x2 h=>wP 3 h (fun x3 h=>wB 4 h (fun x4 h=>wI 5 h (fun x5 h=>(conv (by kernel_rfl) h))))))
theorem zqr_17ok (nx77:Int→HP):Ok Pr (zqr_15_M Q E nx77) (sT zqr_p16) (zqr_q7 Q E nx77) E:=fun τ H h =>
  (conv (by kernel_rfl) (vc_seq (K:=(zqr_12_M Q E nx77)) (zqr_16ok Q E nx77 τ H h) (zqr_14ok Q E nx77)))
def zqr_18 (nx77:Int→HP) (Q:QT) (E:ET) (x0 x2 x3:OA) (x4:Bool) (x5:Int) (H:Heap):Prop :=
 zqr_5 nx77 Q E x0 x2 x3 x4 x5 H
def zqr_18_M (nx77:Int→HP) (τ:Tau) (H:Heap):Prop:=mP (τ 0) fun x0=>mP (τ 2) fun x2=>mP (τ 3) fun x3=>mB (τ 4) fun x4=>mI .i64 (τ 5) fun x5=>zqr_18 nx77 Q E x0 x2 x3 x4 x5 H
theorem zqr_19ok (nx77:Int→HP):Ok Pr (zqr_18_M Q E nx77) (sE zqr_p16) (zqr_q7 Q E nx77) E:=fun τ H h =>
  wP 0 h (fun x0 h=>wP 2 h (fun x2 h=>wP 3 h (fun x3 h=>wB 4 h (fun x4 h=>wI 5 h (fun x5 h=>(conv (by kernel_rfl) h))))))
def zqr_20 (nx77:Int→HP) (Q:QT) (E:ET) (x0 x2 x3:OA) (x4:Bool) (x5:Int) (x41:Bool) (H:Heap):Prop :=
 sel x41
 (zqr_15 nx77 Q E x0 x2 x3 x4 x5 H)
 (zqr_18 nx77 Q E x0 x2 x3 x4 x5 H)
def zqr_20_M (nx77:Int→HP) (τ:Tau) (H:Heap):Prop:=mP (τ 0) fun x0=>mP (τ 2) fun x2=>mP (τ 3) fun x3=>mB (τ 4) fun x4=>mI .i64 (τ 5) fun x5=>mB (τ 41) fun x41=>zqr_20 nx77 Q E x0 x2 x3 x4 x5 x41 H
theorem zqr_21ok (nx77:Int→HP):Ok Pr (zqr_20_M Q E nx77) zqr_p16 (zqr_q7 Q E nx77) E:=fun τ H h =>
  wP 0 h (fun x0 h=>wP 2 h (fun x2 h=>wP 3 h (fun x3 h=>wB 4 h (fun x4 h=>wI 5 h (fun x5 h=>wB 41 h (fun x41 h=>(conv (by kernel_rfl) (sel_mapT (b:=x41) (τ:=(Tau.upd (Tau.upd (Tau.upd (Tau.upd (Tau.upd (Tau.upd τ 0 (.pointer x0)) 2 (.pointer x2)) 3 (.pointer x3)) 4 (.bool x4)) 5 (.int .i64 x5)) 41 (.bool x41))) (H:=H) (zqr_17ok Q E nx77) (zqr_19ok Q E nx77) (conv (by kernel_rfl) h)))))))))
noncomputable def zqr_q11 (nx77:Int→HP):XT:=(xthen (zqr_20_M Q E nx77) (zqr_q7 Q E nx77))
def zqr_22 (nx77:Int→HP) (Q:QT) (E:ET) (x0 x2 x3:OA) (x4:Bool) (x5:Int) (H:Heap):Prop :=
 ptr x0 fun q240 =>
 ldS q240 H fun s241 =>
 ptr x0 fun q242 =>
 ldI .i64 (Addr.add q242 1) H fun n243 =>
 (0≤n243∧n243 < ((ByteArray.size s241:Nat):Int))∧zqr_20 nx77 Q E x0 x2 x3 x4 x5 (((sAt s241 n243):Int) == 93) H
def zqr_22_M (nx77:Int→HP) (τ:Tau) (H:Heap):Prop:=mP (τ 0) fun x0=>mP (τ 2) fun x2=>mP (τ 3) fun x3=>mB (τ 4) fun x4=>mI .i64 (τ 5) fun x5=>zqr_22 nx77 Q E x0 x2 x3 x4 x5 H
theorem zqr_23ok (nx77:Int→HP):Ok Pr (zqr_22_M Q E nx77) (sA (sA zqr_p13)) (zqr_q11 Q E nx77) E:=fun τ H h =>
  wP 0 h (fun x0 h=>wP 2 h (fun x2 h=>wP 3 h (fun x3 h=>wB 4 h (fun x4 h=>wI 5 h (fun x5 h=>(conv (by kernel_rfl) h))))))
theorem zqr_24ok (nx77:Int→HP):Ok Pr (zqr_22_M Q E nx77) (sA zqr_p13) (zqr_q7 Q E nx77) E:=fun τ H h =>
  (conv (by kernel_rfl) (vc_seq (K:=(zqr_20_M Q E nx77)) (zqr_23ok Q E nx77 τ H h) (zqr_21ok Q E nx77)))
theorem zqr_25ok (nx77:Int→HP):Ok Pr (zqr_22_M Q E nx77) zqr_p13 (xblock 1 (zqr_q5 Q E nx77)) E:=fun τ H h =>
  (conv (by kernel_rfl) (vc_seq (K:=(zqr_5_M Q E nx77)) (zqr_24ok Q E nx77 τ H h) (zqr_6ok Q E nx77)))
theorem zqr_26ok (nx77:Int→HP):Ok Pr (zqr_22_M Q E nx77) (sA (sB zqr_p9)) (zqr_q5 Q E nx77) E:=fun τ H h =>
  (conv (by kernel_rfl) (zqr_25ok Q E nx77 τ H h))
theorem zqr_27ok (nx77:Int→HP):Ok Pr (zqr_22_M Q E nx77) (sB zqr_p9) (zqr_q4 Q E nx77) E:=fun τ H h =>
  (conv (by kernel_rfl) (vc_seq (K:=(zqr_3_M Q E nx77)) (zqr_26ok Q E nx77 τ H h) (zqr_4ok Q E nx77)))
noncomputable def zqr_q12 (nx77:Int→HP):XT:=(xthen (zqr_22_M Q E nx77) (zqr_q4 Q E nx77))
def zqr_28 (nx77:Int→HP) (Q:QT) (E:ET) (x0 x2 x3:OA) (x4:Bool) (x5:Int) (H:Heap):Prop :=
 Does Pr 90 #[(.pointer x0)] H (fun v244 H245 =>
 ∃ b246:Bool,v244=(.bool b246)∧sel b246
 (zqr_22 nx77 Q E x0 x2 x3 x4 x5 H245)
 (zqr_1 Q E x0 x2 x3 H245)) E
def zqr_28_M (nx77:Int→HP) (τ:Tau) (H:Heap):Prop:=mP (τ 0) fun x0=>mP (τ 2) fun x2=>mP (τ 3) fun x3=>mB (τ 4) fun x4=>mI .i64 (τ 5) fun x5=>zqr_28 nx77 Q E x0 x2 x3 x4 x5 H
theorem zqr_29ok (nx77:Int→HP):Ok Pr (zqr_28_M Q E nx77) (sA zqr_p9) (zqr_q12 Q E nx77) E:=fun τ H h =>
  wP 0 h (fun x0 h=>wP 2 h (fun x2 h=>wP 3 h (fun x3 h=>wB 4 h (fun x4 h=>wI 5 h (fun x5 h=>(conv (by kernel_rfl) h))))))
theorem zqr_30ok (nx77:Int→HP):Ok Pr (zqr_28_M Q E nx77) zqr_p9 (zqr_q4 Q E nx77) E:=fun τ H h =>
  (conv (by kernel_rfl) (vc_seq (K:=(zqr_22_M Q E nx77)) (zqr_29ok Q E nx77 τ H h) (zqr_27ok Q E nx77)))
def zqr_31 (Q:QT) (E:ET) (x0 x2 x3:OA) (x4:Bool) (x5:Int) (H:Heap):Prop :=
 ∃ (I:Int→HP) (μ:Int→Heap→Nat),I x5 H∧∀ (x5:Int) (H:Heap),I x5 H →
 zqr_28 (fun x5' H1=>I x5' H1∧μ x5' H1 < μ x5 H) Q E x0 x2 x3 x4 x5 H
def zqr_31_M:Prop:=mP (τ 0) fun x0=>mP (τ 2) fun x2=>mP (τ 3) fun x3=>mB (τ 4) fun x4=>mI .i64 (τ 5) fun x5=>zqr_31 Q E x0 x2 x3 x4 x5 H
theorem zqr_32ok :Ok Pr (zqr_31_M Q E) (sI (sB zqr_p6)) (xblock 0 (zqr_q2 Q E)) E:=fun τ H h =>
  wP 0 h (fun x0 h=>wP 2 h (fun x2 h=>wP 3 h (fun x3 h=>wB 4 h (fun x4 h=>wI 5 h (fun x5 h=>match h with | ⟨I,μ,h0,hr⟩=>(conv (by kernel_rfl) (vc_loopG (c:=sI (sI (sB zqr_p6))) (τ:=(Tau.upd (Tau.upd (Tau.upd (Tau.upd (Tau.upd τ 0 (.pointer x0)) 2 (.pointer x2)) 3 (.pointer x3)) 4 (.bool x4)) 5 (.int .i64 x5))) [0,2,3,4] (fun τ H=>mI .i64 (τ 5) fun x5'=>I x5' H) (fun τ H=>μ (gI (τ 5)) H) (by kernel_rfl) h0 (fun τ1 H1 hf hI=>uF 0 (.pointer x0) (hf 0 (by simp)) (uF 2 (.pointer x2) (hf 2 (by simp)) (uF 3 (.pointer x3) (hf 3 (by simp)) (uF 4 (.bool x4) (hf 4 (by simp)) (uI 5 hI (fun x5r h=>lgx (zqr_30ok Q E (fun x5' H2=>I x5' H2∧μ x5' H2 < μ x5r H1) (Tau.upd (Tau.upd (Tau.upd (Tau.upd (Tau.upd τ1 0 (.pointer x0)) 2 (.pointer x2)) 3 (.pointer x3)) 4 (.bool x4)) 5 (.int .i64 x5r)) H1 (conv (by kernel_rfl) (hr x5r H1 h))) (fun τ2 H2 hk=>kI 5 hk (fun x5' h=>conv (by kernel_rfl) h)))))))))))))))
theorem zqr_33ok :Ok Pr (zqr_31_M Q E) (sB zqr_p6) (zqr_q2 Q E) E:=fun τ H h =>
  (conv (by kernel_rfl) (zqr_32ok Q E τ H h))
noncomputable def zqr_q13 :XT:=(xthen (zqr_31_M Q E) (zqr_q2 Q E))
def zqr_34 (Q:QT) (E:ET) (x0 x2 x3:OA) (x4:Bool) (H:Heap):Prop :=
 zqr_31 Q E x0 x2 x3 x4 0 H
def zqr_34_M:Prop:=mP (τ 0) fun x0=>mP (τ 2) fun x2=>mP (τ 3) fun x3=>mB (τ 4) fun x4=>zqr_34 Q E x0 x2 x3 x4 H
theorem zqr_35ok :Ok Pr (zqr_34_M Q E) (sA zqr_p6) (zqr_q13 Q E) E:=fun τ H h =>
  wP 0 h (fun x0 h=>wP 2 h (fun x2 h=>wP 3 h (fun x3 h=>wB 4 h (fun x4 h=>(conv (by kernel_rfl) h)))))
theorem zqr_36ok :Ok Pr (zqr_34_M Q E) zqr_p6 (zqr_q2 Q E) E:=fun τ H h =>
  (conv (by kernel_rfl) (vc_seq (K:=(zqr_31_M Q E)) (zqr_35ok Q E τ H h) (zqr_33ok Q E)))
theorem zqr_37ok :Ok Pr (zqr_34_M Q E) (sB (sB zqr_p2)) (zqr_q1 Q E) E:=fun τ H h =>
  (conv (by kernel_rfl) (vc_seq (K:=(zqr_1_M Q E)) (zqr_36ok Q E τ H h) (zqr_2ok Q E)))
noncomputable def zqr_q14 :XT:=(xthen (zqr_34_M Q E) (zqr_q1 Q E))
def zqr_38 (Q:QT) (E:ET) (x0 x2 x3:OA) (x4:Bool) (H:Heap):Prop :=
 sel x4
 (ptr x0 fun q247 =>
 ldI .i64 (Addr.add q247 1) H fun n248 =>
 ptr x0 fun q249 =>
 wr (Addr.add q249 1) [(.int .i64 (IntKind.wrap .i64 (n248+1)))] H fun H250 =>
 zqr_34 Q E x0 x2 x3 x4 H250)
 (zqr_34 Q E x0 x2 x3 x4 H)
def zqr_38_M:Prop:=mP (τ 0) fun x0=>mP (τ 2) fun x2=>mP (τ 3) fun x3=>mB (τ 4) fun x4=>zqr_38 Q E x0 x2 x3 x4 H
theorem zqr_39ok :Ok Pr (zqr_38_M Q E) (sA (sB zqr_p2)) (zqr_q14 Q E) E:=fun τ H h =>
  wP 0 h (fun x0 h=>wP 2 h (fun x2 h=>wP 3 h (fun x3 h=>wB 4 h (fun x4 h=>(conv (by kernel_rfl) h)))))
theorem zqr_40ok :Ok Pr (zqr_38_M Q E) (sB zqr_p2) (zqr_q1 Q E) E:=fun τ H h =>
  (conv (by kernel_rfl) (vc_seq (K:=(zqr_34_M Q E)) (zqr_39ok Q E τ H h) (zqr_37ok Q E)))
noncomputable def zqr_q15 :XT:=(xthen (zqr_38_M Q E) (zqr_q1 Q E))
def zqr_41 (Q:QT) (E:ET) (x0 x2 x3:OA) (H:Heap):Prop :=
 Does Pr 90 #[(.pointer x0)] H (fun v251 H252 =>
 ∃ b253:Bool,v251=(.bool b253)∧sel b253
 (ptr x0 fun q254 =>
 ldS q254 H252 fun s255 =>
 ptr x0 fun q256 =>
 ldI .i64 (Addr.add q256 1) H252 fun n257 =>
 (0≤n257∧n257 < ((ByteArray.size s255:Nat):Int))∧zqr_38 Q E x0 x2 x3 (((sAt s255 n257):Int) == 94) H252)
 (zqr_38 Q E x0 x2 x3 false H252)) (fun _ _=>False)
def zqr_41_M:Prop:=mP (τ 0) fun x0=>mP (τ 2) fun x2=>mP (τ 3) fun x3=>zqr_41 Q E x0 x2 x3 H
theorem zqr_42ok :Ok Pr (zqr_41_M Q E) (sA zqr_p2) (zqr_q15 Q E) E:=fun τ H h =>
  wP 0 h (fun x0 h=>wP 2 h (fun x2 h=>wP 3 h (fun x3 h=>(conv (by kernel_rfl) h))))
theorem zqr_43ok :Ok Pr (zqr_41_M Q E) zqr_p2 (zqr_q1 Q E) E:=fun τ H h =>
  (conv (by kernel_rfl) (vc_seq (K:=(zqr_38_M Q E)) (zqr_42ok Q E τ H h) (zqr_40ok Q E)))
noncomputable def zqr_q16 :XT:=(xthen (zqr_41_M Q E) (zqr_q1 Q E))
def zqr_44 (Q:QT) (E:ET) (x0 x2:OA) (H:Heap):Prop :=
 nw (.cells #[(.int .u64 0),(.int .u64 0),(.int .u64 0),(.int .u64 0)] 46 (0,0)) H fun i258 H259 =>
 zqr_41 Q E x0 x2 (some ⟨i258,0,none⟩) H259
def zqr_44_M:Prop:=mP (τ 0) fun x0=>mP (τ 2) fun x2=>zqr_44 Q E x0 x2 H
theorem zqr_45ok :Ok Pr (zqr_44_M Q E) (sA (sB (bodyOf Try.f110))) (zqr_q16 Q E) E:=fun τ H h =>
  wP 0 h (fun x0 h=>wP 2 h (fun x2 h=>(conv (by kernel_rfl) h)))
theorem zqr_46ok :Ok Pr (zqr_44_M Q E) (sB (bodyOf Try.f110)) (zqr_q1 Q E) E:=fun τ H h =>
  (conv (by kernel_rfl) (vc_seq (K:=(zqr_41_M Q E)) (zqr_45ok Q E τ H h) (zqr_43ok Q E)))
def zqr (Q:QT) (E:ET) (a0:OA) (H:Heap):Prop :=
 nw (.cells #[(.int .u64 0),(.int .u64 0),(.int .u64 0),(.int .u64 0)] 46 (0,0)) H fun i260 H261 =>
 zqr_44 Q E a0 (some ⟨i260,0,none⟩) H261
theorem zqr_fn (a0:OA) (Q:QT) (E:ET) (H:Heap) (h:zqr Q E a0 H)  :Does Pr 110 #[(.pointer a0)] H Q E :=
  Fn_of_vc (fn:=Try.f110) (c:=(bodyOf Try.f110)) (args:=[(.pointer a0)]) mixed (by kernel_rfl) (by kernel_rfl) (by kernel_rfl) (by kernel_rfl) (by kernel_rfl) ((conv (B:=vc Pr (bodyOf Try.f110) (argT [(.pointer a0)]) (zqr_q1 Q E) E H) (by kernel_rfl) (vc_seq (K:=(zqr_44_M Q E)) (conv (B:=vc Pr (sA (bodyOf Try.f110)) (argT [(.pointer a0)]) (xthen (zqr_44_M Q E) (zqr_q1 Q E)) E H) (by kernel_rfl) h) (zqr_46ok Q E))))
noncomputable def zqs_q1 (Q:QT) (E:ET) :XT:=(retQ Pr (Try.f116).results.toList Q)
noncomputable def zqs_p1:Code:=sB (bodyOf Try.f116)
def zqs_1 (Q:QT) (E:ET) (x2:OA) (H:Heap):Prop :=
 ptr x2 fun q116 =>
 wr q116 [(.int .u64 0),(.int .u64 0),(.int .u64 0),(.int .u64 0)] H fun H115 =>
 ptr x2 fun q117 =>
 ∃ n118 n119 n120 n121:Int,Heap.rd H115 q117 0 [(.int .u64 n118),(.int .u64 n119),(.int .u64 n120),(.int .u64 n121)]∧Q (.tuple #[(.agg #[(.int .u64 n118),(.int .u64 n119),(.int .u64 n120),(.int .u64 n121)]),(.bool false),(.bool false)]) H115
def zqs_1_M:Prop:=mP (τ 2) fun x2=>zqs_1 Q E x2 H
theorem zqs_2ok :Ok Pr (zqs_1_M Q E) (sB (sB zqs_p1)) (zqs_q1 Q E) E:=fun τ H h =>
  wP 2 h (fun x2 h=>(conv (by kernel_rfl) h))
noncomputable def zqs_q2 :XT:=(xthen (zqs_1_M Q E) (zqs_q1 Q E))
def zqs_3 (Q:QT) (E:ET) (x0:Int) (x2:OA) (H:Heap):Prop :=
 Does Pr 123 #[(.int .u8 x0)] H (fun v122 H123 =>
 ∃ b124:Bool,v122=(.bool b124)∧sel b124
 (Does Pr 108 #[(.agg #[(.int .u64 0),(.int .u64 0),(.int .u64 0),(.int .u64 0)]),(.int .u8 x0)] H123 (fun v125 H126 =>
 ∃ n127 n128 n129 n130:Int,v125=(.agg #[(.int .u64 n127),(.int .u64 n128),(.int .u64 n129),(.int .u64 n130)])∧ptr x2 fun q132 =>
 wr q132 [(.int .u64 n127),(.int .u64 n128),(.int .u64 n129),(.int .u64 n130)] H126 fun H131 =>
 ptr x2 fun q133 =>
 ∃ n134 n135 n136 n137:Int,Heap.rd H131 q133 0 [(.int .u64 n134),(.int .u64 n135),(.int .u64 n136),(.int .u64 n137)]∧Q (.tuple #[(.agg #[(.int .u64 n134),(.int .u64 n135),(.int .u64 n136),(.int .u64 n137)]),(.bool true),(.bool true)]) H131) E)
 (zqs_1 Q E x2 H123)) E
def zqs_3_M:Prop:=mI .u8 (τ 0) fun x0=>mP (τ 2) fun x2=>zqs_3 Q E x0 x2 H
theorem zqs_4ok :Ok Pr (zqs_3_M Q E) (sA (sB zqs_p1)) (zqs_q2 Q E) E:=fun τ H h =>
  wI 0 h (fun x0 h=>wP 2 h (fun x2 h=>(conv (by kernel_rfl) h)))
theorem zqs_5ok :Ok Pr (zqs_3_M Q E) (sB zqs_p1) (zqs_q1 Q E) E:=fun τ H h =>
  (conv (by kernel_rfl) (vc_seq (K:=(zqs_1_M Q E)) (zqs_4ok Q E τ H h) (zqs_2ok Q E)))
noncomputable def zqs_q3 :XT:=(xthen (zqs_3_M Q E) (zqs_q1 Q E))
def zqs_6 (Q:QT) (E:ET) (x0:Int) (x2:OA) (H:Heap):Prop :=
 sel (x0 == 110)
 (Does Pr 108 #[(.agg #[(.int .u64 0),(.int .u64 0),(.int .u64 0),(.int .u64 0)]),(.int .u8 10)] H (fun v138 H139 =>
 ∃ n140 n141 n142 n143:Int,v138=(.agg #[(.int .u64 n140),(.int .u64 n141),(.int .u64 n142),(.int .u64 n143)])∧ptr x2 fun q145 =>
 wr q145 [(.int .u64 n140),(.int .u64 n141),(.int .u64 n142),(.int .u64 n143)] H139 fun H144 =>
 ptr x2 fun q146 =>
 ∃ n147 n148 n149 n150:Int,Heap.rd H144 q146 0 [(.int .u64 n147),(.int .u64 n148),(.int .u64 n149),(.int .u64 n150)]∧Q (.tuple #[(.agg #[(.int .u64 n147),(.int .u64 n148),(.int .u64 n149),(.int .u64 n150)]),(.bool true),(.bool true)]) H144) E)
 (sel (x0 == 116)
 (Does Pr 108 #[(.agg #[(.int .u64 0),(.int .u64 0),(.int .u64 0),(.int .u64 0)]),(.int .u8 9)] H (fun v151 H152 =>
 ∃ n153 n154 n155 n156:Int,v151=(.agg #[(.int .u64 n153),(.int .u64 n154),(.int .u64 n155),(.int .u64 n156)])∧ptr x2 fun q158 =>
 wr q158 [(.int .u64 n153),(.int .u64 n154),(.int .u64 n155),(.int .u64 n156)] H152 fun H157 =>
 ptr x2 fun q159 =>
 ∃ n160 n161 n162 n163:Int,Heap.rd H157 q159 0 [(.int .u64 n160),(.int .u64 n161),(.int .u64 n162),(.int .u64 n163)]∧Q (.tuple #[(.agg #[(.int .u64 n160),(.int .u64 n161),(.int .u64 n162),(.int .u64 n163)]),(.bool true),(.bool true)]) H157) E)
 (sel (x0 == 114)
 (Does Pr 108 #[(.agg #[(.int .u64 0),(.int .u64 0),(.int .u64 0),(.int .u64 0)]),(.int .u8 13)] H (fun v164 H165 =>
 ∃ n166 n167 n168 n169:Int,v164=(.agg #[(.int .u64 n166),(.int .u64 n167),(.int .u64 n168),(.int .u64 n169)])∧ptr x2 fun q171 =>
 wr q171 [(.int .u64 n166),(.int .u64 n167),(.int .u64 n168),(.int .u64 n169)] H165 fun H170 =>
 ptr x2 fun q172 =>
 ∃ n173 n174 n175 n176:Int,Heap.rd H170 q172 0 [(.int .u64 n173),(.int .u64 n174),(.int .u64 n175),(.int .u64 n176)]∧Q (.tuple #[(.agg #[(.int .u64 n173),(.int .u64 n174),(.int .u64 n175),(.int .u64 n176)]),(.bool true),(.bool true)]) H170) E)
 (sel (x0 == 100)
 (Does Pr 122 #[(.int .i64 48),(.int .i64 57)] H (fun v177 H178 =>
 ∃ n179 n180 n181 n182:Int,v177=(.agg #[(.int .u64 n179),(.int .u64 n180),(.int .u64 n181),(.int .u64 n182)])∧ptr x2 fun q184 =>
 wr q184 [(.int .u64 n179),(.int .u64 n180),(.int .u64 n181),(.int .u64 n182)] H178 fun H183 =>
 ptr x2 fun q185 =>
 ∃ n186 n187 n188 n189:Int,Heap.rd H183 q185 0 [(.int .u64 n186),(.int .u64 n187),(.int .u64 n188),(.int .u64 n189)]∧Q (.tuple #[(.agg #[(.int .u64 n186),(.int .u64 n187),(.int .u64 n188),(.int .u64 n189)]),(.bool false),(.bool true)]) H183) E)
 (sel (x0 == 119)
 (Does Pr 122 #[(.int .i64 97),(.int .i64 122)] H (fun v190 H191 =>
 ∃ n192 n193 n194 n195:Int,v190=(.agg #[(.int .u64 n192),(.int .u64 n193),(.int .u64 n194),(.int .u64 n195)])∧Does Pr 122 #[(.int .i64 65),(.int .i64 90)] H191 (fun v196 H197 =>
 ∃ n198 n199 n200 n201:Int,v196=(.agg #[(.int .u64 n198),(.int .u64 n199),(.int .u64 n200),(.int .u64 n201)])∧Does Pr 117 #[(.agg #[(.int .u64 n192),(.int .u64 n193),(.int .u64 n194),(.int .u64 n195)]),(.agg #[(.int .u64 n198),(.int .u64 n199),(.int .u64 n200),(.int .u64 n201)])] H197 (fun v202 H203 =>
 ∃ n204 n205 n206 n207:Int,v202=(.agg #[(.int .u64 n204),(.int .u64 n205),(.int .u64 n206),(.int .u64 n207)])∧Does Pr 122 #[(.int .i64 48),(.int .i64 57)] H203 (fun v208 H209 =>
 ∃ n210 n211 n212 n213:Int,v208=(.agg #[(.int .u64 n210),(.int .u64 n211),(.int .u64 n212),(.int .u64 n213)])∧Does Pr 108 #[(.agg #[(.int .u64 0),(.int .u64 0),(.int .u64 0),(.int .u64 0)]),(.int .u8 95)] H209 (fun v214 H215 =>
 ∃ n216 n217 n218 n219:Int,v214=(.agg #[(.int .u64 n216),(.int .u64 n217),(.int .u64 n218),(.int .u64 n219)])∧Does Pr 117 #[(.agg #[(.int .u64 n210),(.int .u64 n211),(.int .u64 n212),(.int .u64 n213)]),(.agg #[(.int .u64 n216),(.int .u64 n217),(.int .u64 n218),(.int .u64 n219)])] H215 (fun v220 H221 =>
 ∃ n222 n223 n224 n225:Int,v220=(.agg #[(.int .u64 n222),(.int .u64 n223),(.int .u64 n224),(.int .u64 n225)])∧Does Pr 117 #[(.agg #[(.int .u64 n204),(.int .u64 n205),(.int .u64 n206),(.int .u64 n207)]),(.agg #[(.int .u64 n222),(.int .u64 n223),(.int .u64 n224),(.int .u64 n225)])] H221 (fun v226 H227 =>
 ∃ n228 n229 n230 n231:Int,v226=(.agg #[(.int .u64 n228),(.int .u64 n229),(.int .u64 n230),(.int .u64 n231)])∧ptr x2 fun q233 =>
 wr q233 [(.int .u64 n228),(.int .u64 n229),(.int .u64 n230),(.int .u64 n231)] H227 fun H232 =>
 ptr x2 fun q234 =>
 ∃ n235 n236 n237 n238:Int,Heap.rd H232 q234 0 [(.int .u64 n235),(.int .u64 n236),(.int .u64 n237),(.int .u64 n238)]∧Q (.tuple #[(.agg #[(.int .u64 n235),(.int .u64 n236),(.int .u64 n237),(.int .u64 n238)]),(.bool false),(.bool true)]) H232) E) E) E) E) E) E) E)
 (sel (x0 == 115)
 (Does Pr 108 #[(.agg #[(.int .u64 0),(.int .u64 0),(.int .u64 0),(.int .u64 0)]),(.int .u8 32)] H (fun v239 H240 =>
 ∃ n241 n242 n243 n244:Int,v239=(.agg #[(.int .u64 n241),(.int .u64 n242),(.int .u64 n243),(.int .u64 n244)])∧Does Pr 122 #[(.int .i64 9),(.int .i64 10)] H240 (fun v245 H246 =>
 ∃ n247 n248 n249 n250:Int,v245=(.agg #[(.int .u64 n247),(.int .u64 n248),(.int .u64 n249),(.int .u64 n250)])∧Does Pr 117 #[(.agg #[(.int .u64 n241),(.int .u64 n242),(.int .u64 n243),(.int .u64 n244)]),(.agg #[(.int .u64 n247),(.int .u64 n248),(.int .u64 n249),(.int .u64 n250)])] H246 (fun v251 H252 =>
 ∃ n253 n254 n255 n256:Int,v251=(.agg #[(.int .u64 n253),(.int .u64 n254),(.int .u64 n255),(.int .u64 n256)])∧Does Pr 108 #[(.agg #[(.int .u64 0),(.int .u64 0),(.int .u64 0),(.int .u64 0)]),(.int .u8 13)] H252 (fun v257 H258 =>
 ∃ n259 n260 n261 n262:Int,v257=(.agg #[(.int .u64 n259),(.int .u64 n260),(.int .u64 n261),(.int .u64 n262)])∧Does Pr 117 #[(.agg #[(.int .u64 n253),(.int .u64 n254),(.int .u64 n255),(.int .u64 n256)]),(.agg #[(.int .u64 n259),(.int .u64 n260),(.int .u64 n261),(.int .u64 n262)])] H258 (fun v263 H264 =>
 ∃ n265 n266 n267 n268:Int,v263=(.agg #[(.int .u64 n265),(.int .u64 n266),(.int .u64 n267),(.int .u64 n268)])∧ptr x2 fun q270 =>
 wr q270 [(.int .u64 n265),(.int .u64 n266),(.int .u64 n267),(.int .u64 n268)] H264 fun H269 =>
 ptr x2 fun q271 =>
 ∃ n272 n273 n274 n275:Int,Heap.rd H269 q271 0 [(.int .u64 n272),(.int .u64 n273),(.int .u64 n274),(.int .u64 n275)]∧Q (.tuple #[(.agg #[(.int .u64 n272),(.int .u64 n273),(.int .u64 n274),(.int .u64 n275)]),(.bool false),(.bool true)]) H269) E) E) E) E) E)
 (zqs_3 Q E x0 x2 H))))))
def zqs_6_M:Prop:=mI .u8 (τ 0) fun x0=>mP (τ 2) fun x2=>zqs_6 Q E x0 x2 H
theorem zqs_7ok :Ok Pr (zqs_6_M Q E) (sA zqs_p1) (zqs_q3 Q E) E:=fun τ H h =>
  wI 0 h (fun x0 h=>wP 2 h (fun x2 h=>(conv (by kernel_rfl) h)))
theorem zqs_8ok :Ok Pr (zqs_6_M Q E) zqs_p1 (zqs_q1 Q E) E:=fun τ H h =>
  (conv (by kernel_rfl) (vc_seq (K:=(zqs_3_M Q E)) (zqs_7ok Q E τ H h) (zqs_5ok Q E)))
def zqs (Q:QT) (E:ET) (a0:Int) (H:Heap):Prop :=
 nw (.cells #[(.int .u64 0),(.int .u64 0),(.int .u64 0),(.int .u64 0)] 46 (0,0)) H fun i276 H277 =>
 zqs_6 Q E a0 (some ⟨i276,0,none⟩) H277
theorem zqs_fn (a0:Int) (Q:QT) (E:ET) (H:Heap) (h:zqs Q E a0 H)  :Does Pr 116 #[(.int .u8 a0)] H Q E :=
  Fn_of_vc (fn:=Try.f116) (c:=(bodyOf Try.f116)) (args:=[(.int .u8 a0)]) mixed (by kernel_rfl) (by kernel_rfl) (by kernel_rfl) (by kernel_rfl) (by kernel_rfl) ((conv (B:=vc Pr (bodyOf Try.f116) (argT [(.int .u8 a0)]) (zqs_q1 Q E) E H) (by kernel_rfl) (vc_seq (K:=(zqs_6_M Q E)) (conv (B:=vc Pr (sA (bodyOf Try.f116)) (argT [(.int .u8 a0)]) (xthen (zqs_6_M Q E) (zqs_q1 Q E)) E H) (by kernel_rfl) h) (zqs_8ok Q E))))
noncomputable def zqt_q1 (Q:QT) (E:ET) :XT:=(retQ Pr (Try.f117).results.toList Q)
noncomputable def zqt_p1:Code:=sB (bodyOf Try.f117)
def zqt_1 (Q:QT) (E:ET) (x2 x4:OA) (H:Heap):Prop :=
 ptr x2 fun q10 =>
 ∃ n11 n12 n13 n14:Int,Heap.rd H q10 0 [(.int .u64 n11),(.int .u64 n12),(.int .u64 n13),(.int .u64 n14)]∧ptr x4 fun q16 =>
 wr q16 [(.int .u64 n11),(.int .u64 n12),(.int .u64 n13),(.int .u64 n14)] H fun H15 =>
 ptr x4 fun q17 =>
 ∃ n18 n19 n20 n21:Int,Heap.rd H15 q17 0 [(.int .u64 n18),(.int .u64 n19),(.int .u64 n20),(.int .u64 n21)]∧Q (.agg #[(.int .u64 n18),(.int .u64 n19),(.int .u64 n20),(.int .u64 n21)]) H15
def zqt_1_M:Prop:=mP (τ 2) fun x2=>mP (τ 4) fun x4=>zqt_1 Q E x2 x4 H
theorem zqt_2ok :Ok Pr (zqt_1_M Q E) (sB zqt_p1) (zqt_q1 Q E) E:=fun τ H h =>
  wP 2 h (fun x2 h=>wP 4 h (fun x4 h=>(conv (by kernel_rfl) h)))
noncomputable def zqt_q2 :XT:=(xthen (zqt_1_M Q E) (zqt_q1 Q E))
noncomputable def zqt_p5:Code:=sI (sB (sA zqt_p1))
noncomputable def zqt_q4 (nx22:Int→HP):XT:=(xthen (fun τ H=>mI .i64 (τ 5) fun x5'=>nx22 x5' H) (xblock 0 (zqt_q2 Q E)))
def zqt_3 (nx22:Int→HP) (Q:QT) (E:ET) (x2 x3 x4:OA) (x5:Int) (H:Heap):Prop :=
 ptr x2 fun q23 =>
 (0≤x5∧x5 < ((4:Nat):Int))∧ldI .u64 (Addr.add q23 (x5.toNat * 1)) H fun n24 =>
 ptr x3 fun q25 =>
 (0≤x5∧x5 < ((4:Nat):Int))∧ldI .u64 (Addr.add q25 (x5.toNat * 1)) H fun n26 =>
 ptr x2 fun q27 =>
 (0≤x5∧x5 < ((4:Nat):Int))∧wr (Addr.add q27 (x5.toNat * 1)) [(.int .u64 (IntKind.wrap .u64 (BitVec.ofInt (IntKind.bits .u64) n24 ||| BitVec.ofInt (IntKind.bits .u64) n26).toNat))] H fun H28 =>
 nx22 (IntKind.wrap .i64 (x5+1)) H28
def zqt_3_M (nx22:Int→HP) (τ:Tau) (H:Heap):Prop:=mP (τ 2) fun x2=>mP (τ 3) fun x3=>mP (τ 4) fun x4=>mI .i64 (τ 5) fun x5=>zqt_3 nx22 Q E x2 x3 x4 x5 H
theorem zqt_4ok (nx22:Int→HP):Ok Pr (zqt_3_M Q E nx22) (sB (sI zqt_p5)) (zqt_q4 Q E nx22) E:=fun τ H h =>
  wP 2 h (fun x2 h=>wP 3 h (fun x3 h=>wP 4 h (fun x4 h=>wI 5 h (fun x5 h=>(conv (by kernel_rfl) h)))))
noncomputable def zqt_q5 (nx22:Int→HP):XT:=(xthen (zqt_3_M Q E nx22) (zqt_q4 Q E nx22))
def zqt_5 (nx22:Int→HP) (Q:QT) (E:ET) (x2 x3 x4:OA) (x5:Int) (H:Heap):Prop :=
 sel (decide (x5 < 4))
 (zqt_3 nx22 Q E x2 x3 x4 x5 H)
 (zqt_1 Q E x2 x4 H)
def zqt_5_M (nx22:Int→HP) (τ:Tau) (H:Heap):Prop:=mP (τ 2) fun x2=>mP (τ 3) fun x3=>mP (τ 4) fun x4=>mI .i64 (τ 5) fun x5=>zqt_5 nx22 Q E x2 x3 x4 x5 H
theorem zqt_6ok (nx22:Int→HP):Ok Pr (zqt_5_M Q E nx22) (sA (sI zqt_p5)) (zqt_q5 Q E nx22) E:=fun τ H h =>
  wP 2 h (fun x2 h=>wP 3 h (fun x3 h=>wP 4 h (fun x4 h=>wI 5 h (fun x5 h=>(conv (by kernel_rfl) h)))))
theorem zqt_7ok (nx22:Int→HP):Ok Pr (zqt_5_M Q E nx22) (sI zqt_p5) (zqt_q4 Q E nx22) E:=fun τ H h =>
  (conv (by kernel_rfl) (vc_seq (K:=(zqt_3_M Q E nx22)) (zqt_6ok Q E nx22 τ H h) (zqt_4ok Q E nx22)))
def zqt_8 (Q:QT) (E:ET) (x2 x3 x4:OA) (x5:Int) (H:Heap):Prop :=
 ∃ (I:Int→HP) (μ:Int→Heap→Nat),I x5 H∧∀ (x5:Int) (H:Heap),I x5 H →
 zqt_5 (fun x5' H1=>I x5' H1∧μ x5' H1 < μ x5 H) Q E x2 x3 x4 x5 H
def zqt_8_M:Prop:=mP (τ 2) fun x2=>mP (τ 3) fun x3=>mP (τ 4) fun x4=>mI .i64 (τ 5) fun x5=>zqt_8 Q E x2 x3 x4 x5 H
theorem zqt_9ok :Ok Pr (zqt_8_M Q E) zqt_p5 (xblock 0 (zqt_q2 Q E)) E:=fun τ H h =>
  wP 2 h (fun x2 h=>wP 3 h (fun x3 h=>wP 4 h (fun x4 h=>wI 5 h (fun x5 h=>match h with | ⟨I,μ,h0,hr⟩=>(conv (by kernel_rfl) (vc_loopG (c:=sI zqt_p5) (τ:=(Tau.upd (Tau.upd (Tau.upd (Tau.upd τ 2 (.pointer x2)) 3 (.pointer x3)) 4 (.pointer x4)) 5 (.int .i64 x5))) [2,3,4] (fun τ H=>mI .i64 (τ 5) fun x5'=>I x5' H) (fun τ H=>μ (gI (τ 5)) H) (by kernel_rfl) h0 (fun τ1 H1 hf hI=>uF 2 (.pointer x2) (hf 2 (by simp)) (uF 3 (.pointer x3) (hf 3 (by simp)) (uF 4 (.pointer x4) (hf 4 (by simp)) (uI 5 hI (fun x5r h=>lgx (zqt_7ok Q E (fun x5' H2=>I x5' H2∧μ x5' H2 < μ x5r H1) (Tau.upd (Tau.upd (Tau.upd (Tau.upd τ1 2 (.pointer x2)) 3 (.pointer x3)) 4 (.pointer x4)) 5 (.int .i64 x5r)) H1 (conv (by kernel_rfl) (hr x5r H1 h))) (fun τ2 H2 hk=>kI 5 hk (fun x5' h=>conv (by kernel_rfl) h)))))))))))))
theorem zqt_10ok :Ok Pr (zqt_8_M Q E) (sB (sA zqt_p1)) (zqt_q2 Q E) E:=fun τ H h =>
  (conv (by kernel_rfl) (zqt_9ok Q E τ H h))
noncomputable def zqt_q6 :XT:=(xthen (zqt_8_M Q E) (zqt_q2 Q E))
def zqt_11 (Q:QT) (E:ET) (x2 x3 x4:OA) (H:Heap):Prop :=
 zqt_8 Q E x2 x3 x4 0 H
def zqt_11_M:Prop:=mP (τ 2) fun x2=>mP (τ 3) fun x3=>mP (τ 4) fun x4=>zqt_11 Q E x2 x3 x4 H
theorem zqt_12ok :Ok Pr (zqt_11_M Q E) (sA (sA zqt_p1)) (zqt_q6 Q E) E:=fun τ H h =>
  wP 2 h (fun x2 h=>wP 3 h (fun x3 h=>wP 4 h (fun x4 h=>(conv (by kernel_rfl) h))))
theorem zqt_13ok :Ok Pr (zqt_11_M Q E) (sA zqt_p1) (zqt_q2 Q E) E:=fun τ H h =>
  (conv (by kernel_rfl) (vc_seq (K:=(zqt_8_M Q E)) (zqt_12ok Q E τ H h) (zqt_10ok Q E)))
theorem zqt_14ok :Ok Pr (zqt_11_M Q E) zqt_p1 (zqt_q1 Q E) E:=fun τ H h =>
  (conv (by kernel_rfl) (vc_seq (K:=(zqt_1_M Q E)) (zqt_13ok Q E τ H h) (zqt_2ok Q E)))
def zqt (Q:QT) (E:ET) (a0_0:Int) (a0_1:Int) (a0_2:Int) (a0_3:Int) (a1_0:Int) (a1_1:Int) (a1_2:Int) (a1_3:Int) (H:Heap):Prop :=
 nw (.cells #[(.int .u64 a0_0),(.int .u64 a0_1),(.int .u64 a0_2),(.int .u64 a0_3)] 46 (0,0)) H fun i29 H30 =>
 nw (.cells #[(.int .u64 a1_0),(.int .u64 a1_1),(.int .u64 a1_2),(.int .u64 a1_3)] 46 (0,0)) H30 fun i31 H32 =>
 nw (.cells #[(.int .u64 0),(.int .u64 0),(.int .u64 0),(.int .u64 0)] 46 (0,0)) H32 fun i33 H34 =>
 zqt_11 Q E (some ⟨i29,0,none⟩) (some ⟨i31,0,none⟩) (some ⟨i33,0,none⟩) H34
theorem zqt_fn (a0_0:Int) (a0_1:Int) (a0_2:Int) (a0_3:Int) (a1_0:Int) (a1_1:Int) (a1_2:Int) (a1_3:Int) (Q:QT) (E:ET) (H:Heap) (h:zqt Q E a0_0 a0_1 a0_2 a0_3 a1_0 a1_1 a1_2 a1_3 H)  :Does Pr 117 #[(.agg #[(.int .u64 a0_0),(.int .u64 a0_1),(.int .u64 a0_2),(.int .u64 a0_3)]),(.agg #[(.int .u64 a1_0),(.int .u64 a1_1),(.int .u64 a1_2),(.int .u64 a1_3)])] H Q E :=
  Fn_of_vc (fn:=Try.f117) (c:=(bodyOf Try.f117)) (args:=[(.agg #[(.int .u64 a0_0),(.int .u64 a0_1),(.int .u64 a0_2),(.int .u64 a0_3)]),(.agg #[(.int .u64 a1_0),(.int .u64 a1_1),(.int .u64 a1_2),(.int .u64 a1_3)])]) mixed (by kernel_rfl) (by kernel_rfl) (by kernel_rfl) (by kernel_rfl) (by kernel_rfl) ((conv (B:=vc Pr (bodyOf Try.f117) (argT [(.agg #[(.int .u64 a0_0),(.int .u64 a0_1),(.int .u64 a0_2),(.int .u64 a0_3)]),(.agg #[(.int .u64 a1_0),(.int .u64 a1_1),(.int .u64 a1_2),(.int .u64 a1_3)])]) (zqt_q1 Q E) E H) (by kernel_rfl) (vc_seq (K:=(zqt_11_M Q E)) (conv (B:=vc Pr (sA (bodyOf Try.f117)) (argT [(.agg #[(.int .u64 a0_0),(.int .u64 a0_1),(.int .u64 a0_2),(.int .u64 a0_3)]),(.agg #[(.int .u64 a1_0),(.int .u64 a1_1),(.int .u64 a1_2),(.int .u64 a1_3)])]) (xthen (zqt_11_M Q E) (zqt_q1 Q E)) E H) (by kernel_rfl) h) (zqt_14ok Q E))))
end Go.Proofs.Ytaffcoiomggpfaa
