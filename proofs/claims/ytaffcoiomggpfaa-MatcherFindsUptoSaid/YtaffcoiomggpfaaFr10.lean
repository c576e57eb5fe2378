import Derived.Test.YtaffcoiomggpfaaVPr
/- Printed by gen.py: the Go functions of package r10 over a heap view,and that the model does so. -/
namespace Go.Proofs.Ytaffcoiomggpfaa
open Go.V
set_option linter.unusedVariables false
set_option maxRecDepth 100000
variable (Q:QT) (E:ET) (τ:Tau) (H:Heap)
noncomputable def zqn2_q1 (Q:QT) (E:ET) :XT:=(retQ Pr (Try.f34).results.toList Q)
noncomputable def zqn2_p1:Code:=sB (bodyOf Try.f34)
def zqn2_1 (Q:QT) (E:ET) (x0:OA) (l0 c0:Nat) (H:Heap):Prop :=
 sel (decide (((l0:Int):Int) ≥ 1))
 (Q (.bool (decide (((l0:Int):Int)≤513))) H)
 (Q (.bool false) H)
def zqn2_1_M:Prop:=mSl (τ 0) fun x0 l0 c0=>zqn2_1 Q E x0 l0 c0 H
theorem zqn2_2ok :Ok Pr (zqn2_1_M Q E) (sB zqn2_p1) (zqn2_q1 Q E) E:=fun τ H h =>
  wSl 0 h (fun x0 l0 c0 h=>(conv (by kernel_rfl) h))
noncomputable def zqn2_q2 :XT:=(xthen (zqn2_1_M Q E) (zqn2_q1 Q E))
noncomputable def zqn2_q4 (nx15:Int→HP):XT:=(xthen (fun τ H=>mI .i64 (τ 3) fun x3'=>nx15 x3' H) (xblock 0 (zqn2_q2 Q E)))
noncomputable def zqn2_p6:Code:=sI (sI (sB (sA zqn2_p1)))
def zqn2_3 (nx15:Int→HP) (Q:QT) (E:ET) (x0:OA) (l0 c0:Nat) (x3:Int) (H:Heap):Prop :=
 nx15 (IntKind.wrap .i64 (x3+1)) H
def zqn2_3_M (nx15:Int→HP) (τ:Tau) (H:Heap):Prop:=mSl (τ 0) fun x0 l0 c0=>mI .i64 (τ 3) fun x3=>zqn2_3 nx15 Q E x0 l0 c0 x3 H
theorem zqn2_4ok (nx15:Int→HP):Ok Pr (zqn2_3_M Q E nx15) (sB (sB zqn2_p6)) (zqn2_q4 Q E nx15) E:=fun τ H h =>
  wSl 0 h (fun x0 l0 c0 h=>wI 3 h (fun x3 h=>(conv (by kernel_rfl) h)))
noncomputable def zqn2_q6 (nx15:Int→HP):XT:=(xblock 1 (xthen (zqn2_3_M Q E nx15) (zqn2_q4 Q E nx15)))
noncomputable def zqn2_p10:Code:=sI (sA (sB zqn2_p6))
def zqn2_5 (nx15:Int→HP) (Q:QT) (E:ET) (x0:OA) (l0 c0:Nat) (x3:Int) (x65:Bool) (H:Heap):Prop :=
 sel x65
 (Q (.bool false) H)
 (zqn2_3 nx15 Q E x0 l0 c0 x3 H)
def zqn2_5_M (nx15:Int→HP) (τ:Tau) (H:Heap):Prop:=mSl (τ 0) fun x0 l0 c0=>mI .i64 (τ 3) fun x3=>mB (τ 65) fun x65=>zqn2_5 nx15 Q E x0 l0 c0 x3 x65 H
theorem zqn2_6ok (nx15:Int→HP):Ok Pr (zqn2_5_M Q E nx15) (sB (sB zqn2_p10)) (zqn2_q6 Q E nx15) E:=fun τ H h =>
  wSl 0 h (fun x0 l0 c0 h=>wI 3 h (fun x3 h=>wB 65 h (fun x65 h=>(conv (by kernel_rfl) h))))
noncomputable def zqn2_q7 (nx15:Int→HP):XT:=(xthen (zqn2_5_M Q E nx15) (zqn2_q6 Q E nx15))
def zqn2_7 (nx15:Int→HP) (Q:QT) (E:ET) (x0:OA) (l0 c0:Nat) (x3 x4:Int) (H:Heap):Prop :=
 sel (decide (x4 < 1))
 (zqn2_5 nx15 Q E x0 l0 c0 x3 true H)
 (sel (decide (x4 > 5))
 (zqn2_5 nx15 Q E x0 l0 c0 x3 true H)
 (sel (x4 != 5)
 ((0≤x3∧x3 < (l0:Int))∧ptr x0 fun q44 =>
 ldI .i64 (Addr.add (Addr.add q44 (x3.toNat * 7)) 1) H fun n45 =>
 sel (decide (n45 < 0))
 (zqn2_5 nx15 Q E x0 l0 c0 x3 true H)
 ((0≤x3∧x3 < (l0:Int))∧ptr x0 fun q46 =>
 ldI .i64 (Addr.add (Addr.add q46 (x3.toNat * 7)) 1) H fun n47 =>
 sel (decide (n47 ≥ (l0:Int)))
 (zqn2_5 nx15 Q E x0 l0 c0 x3 true H)
 (sel (x4 == 2)
 ((0≤x3∧x3 < (l0:Int))∧ptr x0 fun q48 =>
 ldI .i64 (Addr.add (Addr.add q48 (x3.toNat * 7)) 2) H fun n49 =>
 sel (decide (n49 < 0))
 (zqn2_5 nx15 Q E x0 l0 c0 x3 true H)
 ((0≤x3∧x3 < (l0:Int))∧ptr x0 fun q50 =>
 ldI .i64 (Addr.add (Addr.add q50 (x3.toNat * 7)) 2) H fun n51 =>
 zqn2_5 nx15 Q E x0 l0 c0 x3 (decide (n51 ≥ (l0:Int))) H))
 (zqn2_5 nx15 Q E x0 l0 c0 x3 false H))))
 (sel (x4 == 2)
 ((0≤x3∧x3 < (l0:Int))∧ptr x0 fun q52 =>
 ldI .i64 (Addr.add (Addr.add q52 (x3.toNat * 7)) 2) H fun n53 =>
 sel (decide (n53 < 0))
 (zqn2_5 nx15 Q E x0 l0 c0 x3 true H)
 ((0≤x3∧x3 < (l0:Int))∧ptr x0 fun q54 =>
 ldI .i64 (Addr.add (Addr.add q54 (x3.toNat * 7)) 2) H fun n55 =>
 zqn2_5 nx15 Q E x0 l0 c0 x3 (decide (n55 ≥ (l0:Int))) H))
 (zqn2_5 nx15 Q E x0 l0 c0 x3 false H))))
def zqn2_7_M (nx15:Int→HP) (τ:Tau) (H:Heap):Prop:=mSl (τ 0) fun x0 l0 c0=>mI .i64 (τ 3) fun x3=>mI .i64 (τ 4) fun x4=>zqn2_7 nx15 Q E x0 l0 c0 x3 x4 H
theorem zqn2_8ok (nx15:Int→HP):Ok Pr (zqn2_7_M Q E nx15) (sA (sB zqn2_p10)) (zqn2_q7 Q E nx15) E:=fun τ H h =>
  wSl 0 h (fun x0 l0 c0 h=>wI 3 h (fun x3 h=>wI 4 h (fun x4 h=>(conv (by kernel_rfl) h))))
theorem zqn2_9ok (nx15:Int→HP):Ok Pr (zqn2_7_M Q E nx15) (sB zqn2_p10) (zqn2_q6 Q E nx15) E:=fun τ H h =>
  (conv (by kernel_rfl) (vc_seq (K:=(zqn2_5_M Q E nx15)) (zqn2_8ok Q E nx15 τ H h) (zqn2_6ok Q E nx15)))
def zqn2_10 (nx15:Int→HP) (Q:QT) (E:ET) (x0:OA) (l0 c0:Nat) (x3:Int) (H:Heap):Prop :=
 (0≤x3∧x3 < (l0:Int))∧ptr x0 fun q56 =>
 ldI .i64 (Addr.add q56 (x3.toNat * 7)) H fun n57 =>
 zqn2_7 nx15 Q E x0 l0 c0 x3 n57 H
def zqn2_10_M (nx15:Int→HP) (τ:Tau) (H:Heap):Prop:=mSl (τ 0) fun x0 l0 c0=>mI .i64 (τ 3) fun x3=>zqn2_10 nx15 Q E x0 l0 c0 x3 H
theorem zqn2_11ok (nx15:Int→HP):Ok Pr (zqn2_10_M Q E nx15) (sA zqn2_p10) (xthen (zqn2_7_M Q E nx15) (zqn2_q6 Q E nx15)) E:=fun τ H h =>
  wSl 0 h (fun x0 l0 c0 h=>wI 3 h (fun x3 h=>(conv (by kernel_rfl) h)))
theorem zqn2_12ok (nx15:Int→HP):Ok Pr (zqn2_10_M Q E nx15) zqn2_p10 (zqn2_q6 Q E nx15) E:=fun τ H h =>
  (conv (by kernel_rfl) (vc_seq (K:=(zqn2_7_M Q E nx15)) (zqn2_11ok Q E nx15 τ H h) (zqn2_9ok Q E nx15)))
theorem zqn2_13ok (nx15:Int→HP):Ok Pr (zqn2_10_M Q E nx15) (sA (sB zqn2_p6)) (xthen (zqn2_3_M Q E nx15) (zqn2_q4 Q E nx15)) E:=fun τ H h =>
  (conv (by kernel_rfl) (zqn2_12ok Q E nx15 τ H h))
theorem zqn2_14ok (nx15:Int→HP):Ok Pr (zqn2_10_M Q E nx15) (sB zqn2_p6) (zqn2_q4 Q E nx15) E:=fun τ H h =>
  (conv (by kernel_rfl) (vc_seq (K:=(zqn2_3_M Q E nx15)) (zqn2_13ok Q E nx15 τ H h) (zqn2_4ok Q E nx15)))
def zqn2_15 (nx15:Int→HP) (Q:QT) (E:ET) (x0:OA) (l0 c0:Nat) (x3:Int) (H:Heap):Prop :=
 sel (decide (x3 < (l0:Int)))
 (zqn2_10 nx15 Q E x0 l0 c0 x3 H)
 (zqn2_1 Q E x0 l0 c0 H)
def zqn2_15_M (nx15:Int→HP) (τ:Tau) (H:Heap):Prop:=mSl (τ 0) fun x0 l0 c0=>mI .i64 (τ 3) fun x3=>zqn2_15 nx15 Q E x0 l0 c0 x3 H
theorem zqn2_16ok (nx15:Int→HP):Ok Pr (zqn2_15_M Q E nx15) (sA zqn2_p6) (xthen (zqn2_10_M Q E nx15) (zqn2_q4 Q E nx15)) E:=fun τ H h =>
  wSl 0 h (fun x0 l0 c0 h=>wI 3 h (fun x3 h=>(conv (by kernel_rfl) h)))
theorem zqn2_17ok (nx15:Int→HP):Ok Pr (zqn2_15_M Q E nx15) zqn2_p6 (zqn2_q4 Q E nx15) E:=fun τ H h =>
  (conv (by kernel_rfl) (vc_seq (K:=(zqn2_10_M Q E nx15)) (zqn2_16ok Q E nx15 τ H h) (zqn2_14ok Q E nx15)))
def zqn2_18 (Q:QT) (E:ET) (x0:OA) (l0 c0:Nat) (x3:Int) (H:Heap):Prop :=
 ∃ (I:Int→HP) (μ:Int→Heap→Nat),I x3 H∧∀ (x3:Int) (H:Heap),I x3 H →
 zqn2_15 (fun x3' H1=>I x3' H1∧μ x3' H1 < μ x3 H) Q E x0 l0 c0 x3 H
def zqn2_18_M:Prop:=mSl (τ 0) fun x0 l0 c0=>mI .i64 (τ 3) fun x3=>zqn2_18 Q E x0 l0 c0 x3 H
theorem zqn2_19ok :Ok Pr (zqn2_18_M Q E) (sI (sB (sA zqn2_p1))) (xblock 0 (zqn2_q2 Q E)) E:=fun τ H h =>
  wSl 0 h (fun x0 l0 c0 h=>wI 3 h (fun x3 h=>match h with | ⟨I,μ,h0,hr⟩=>(conv (by kernel_rfl) (vc_loopG (c:=sI (sI (sB (sA zqn2_p1)))) (τ:=(Tau.upd (Tau.upd τ 0 (.slice x0 l0 c0)) 3 (.int .i64 x3))) [0] (fun τ H=>mI .i64 (τ 3) fun x3'=>I x3' H) (fun τ H=>μ (gI (τ 3)) H) (by kernel_rfl) h0 (fun τ1 H1 hf hI=>uF 0 (.slice x0 l0 c0) (hf 0 (by simp)) (uI 3 hI (fun x3r h=>lgx (zqn2_17ok Q E (fun x3' H2=>I x3' H2∧μ x3' H2 < μ x3r H1) (Tau.upd (Tau.upd τ1 0 (.slice x0 l0 c0)) 3 (.int .i64 x3r)) H1 (conv (by kernel_rfl) (hr x3r H1 h))) (fun τ2 H2 hk=>kI 3 hk (fun x3' h=>conv (by kernel_rfl) h)))))))))
theorem zqn2_20ok :Ok Pr (zqn2_18_M Q E) (sB (sA zqn2_p1)) (zqn2_q2 Q E) E:=fun τ H h =>
  (conv (by kernel_rfl) (zqn2_19ok Q E τ H h))
def zqn2_21 (Q:QT) (E:ET) (x0:OA) (l0 c0:Nat) (H:Heap):Prop :=
 zqn2_18 Q E x0 l0 c0 0 H
def zqn2_21_M:Prop:=mSl (τ 0) fun x0 l0 c0=>zqn2_21 Q E x0 l0 c0 H
theorem zqn2_22ok :Ok Pr (zqn2_21_M Q E) (sA (sA zqn2_p1)) (xthen (zqn2_18_M Q E) (zqn2_q2 Q E)) E:=fun τ H h =>
  wSl 0 h (fun x0 l0 c0 h=>(conv (by kernel_rfl) h))
theorem zqn2_23ok :Ok Pr (zqn2_21_M Q E) (sA zqn2_p1) (zqn2_q2 Q E) E:=fun τ H h =>
  (conv (by kernel_rfl) (vc_seq (K:=(zqn2_18_M Q E)) (zqn2_22ok Q E τ H h) (zqn2_20ok Q E)))
theorem zqn2_24ok :Ok Pr (zqn2_21_M Q E) zqn2_p1 (zqn2_q1 Q E) E:=fun τ H h =>
  (conv (by kernel_rfl) (vc_seq (K:=(zqn2_1_M Q E)) (zqn2_23ok Q E τ H h) (zqn2_2ok Q E)))
def zqn2 (Q:QT) (E:ET) (a0:OA) (a0l:Nat) (a0c:Nat) (H:Heap):Prop :=
 zqn2_21 Q E a0 a0l a0c H
theorem zqn2_fn (a0:OA) (a0l:Nat) (a0c:Nat) (Q:QT) (E:ET) (H:Heap) (h:zqn2 Q E a0 a0l a0c H)  :Does Pr 34 #[(.slice a0 a0l a0c)] H Q E :=
  Fn_of_vc (fn:=Try.f34) (c:=(bodyOf Try.f34)) (args:=[(.slice a0 a0l a0c)]) mixed (by kernel_rfl) (by kernel_rfl) (by kernel_rfl) (by kernel_rfl) (by kernel_rfl) ((conv (B:=vc Pr (bodyOf Try.f34) (argT [(.slice a0 a0l a0c)]) (zqn2_q1 Q E) E H) (by kernel_rfl) (vc_seq (K:=(zqn2_21_M Q E)) (conv (B:=vc Pr (sA (bodyOf Try.f34)) (argT [(.slice a0 a0l a0c)]) (xthen (zqn2_21_M Q E) (zqn2_q1 Q E)) E H) (by kernel_rfl) h) (zqn2_24ok Q E))))
noncomputable def zqo2_q1 (Q:QT) (E:ET) :XT:=(retQ Pr (Try.f36).results.toList Q)
def zqo2_1 (Q:QT) (E:ET) (x0:OA) (l0 c0:Nat) (H:Heap):Prop :=
 Does Pr 63 #[(.slice x0 l0 c0),(.int .i64 (IntKind.wrap .i64 ((l0:Int) - 1))),(.int .i64 0)] H (fun v4 H5 =>
 ∃ (p6:OA) (l7 c8:Nat),v4=(.slice p6 l7 c8)∧nw (.cells #[(.int .i64 5),(.int .i64 0),(.int .i64 0),(.int .u64 0),(.int .u64 0),(.int .u64 0),(.int .u64 0)] 91 (0,0)) H5 fun i9 H10 =>
 app Pr 50 p6 l7 c8 (.slice (some ⟨i9,0,none⟩) 1 1) H10 fun p11 l12 c13 H14 =>
 Q (.tuple #[(.slice p11 l12 c13),(.int .i64 0)]) H14) E
def zqo2_1_M:Prop:=mSl (τ 0) fun x0 l0 c0=>zqo2_1 Q E x0 l0 c0 H
theorem zqo2_2ok :Ok Pr (zqo2_1_M Q E) (sB (sB (bodyOf Try.f36))) (zqo2_q1 Q E) E:=fun τ H h =>
  wSl 0 h (fun x0 l0 c0 h=>(conv (by kernel_rfl) h))
def zqo2_3 (Q:QT) (E:ET) (x0:OA) (l0 c0:Nat) (H:Heap):Prop :=
 Does Pr 41 #[(.slice x0 l0 c0)] H (fun v15 H16 =>
 ∃ b17:Bool,v15=(.bool b17)∧sel (!b17)
 (Q (.tuple #[(.slice none 0 0),(.int .i64 3)]) H16)
 (zqo2_1 Q E x0 l0 c0 H16)) E
def zqo2_3_M:Prop:=mSl (τ 0) fun x0 l0 c0=>zqo2_3 Q E x0 l0 c0 H
theorem zqo2_4ok :Ok Pr (zqo2_3_M Q E) (sA (sB (bodyOf Try.f36))) (xthen (zqo2_1_M Q E) (zqo2_q1 Q E)) E:=fun τ H h =>
  wSl 0 h (fun x0 l0 c0 h=>(conv (by kernel_rfl) h))
theorem zqo2_5ok :Ok Pr (zqo2_3_M Q E) (sB (bodyOf Try.f36)) (zqo2_q1 Q E) E:=fun τ H h =>
  (conv (by kernel_rfl) (vc_seq (K:=(zqo2_1_M Q E)) (zqo2_4ok Q E τ H h) (zqo2_2ok Q E)))
def zqo2 (Q:QT) (E:ET) (a0:OA) (a0l:Nat) (a0c:Nat) (H:Heap):Prop :=
 zqo2_3 Q E a0 a0l a0c H
theorem zqo2_fn (a0:OA) (a0l:Nat) (a0c:Nat) (Q:QT) (E:ET) (H:Heap) (h:zqo2 Q E a0 a0l a0c H)  :Does Pr 36 #[(.slice a0 a0l a0c)] H Q E :=
  Fn_of_vc (fn:=Try.f36) (c:=(bodyOf Try.f36)) (args:=[(.slice a0 a0l a0c)]) mixed (by kernel_rfl) (by kernel_rfl) (by kernel_rfl) (by kernel_rfl) (by kernel_rfl) ((conv (B:=vc Pr (bodyOf Try.f36) (argT [(.slice a0 a0l a0c)]) (zqo2_q1 Q E) E H) (by kernel_rfl) (vc_seq (K:=(zqo2_3_M Q E)) (conv (B:=vc Pr (sA (bodyOf Try.f36)) (argT [(.slice a0 a0l a0c)]) (xthen (zqo2_3_M Q E) (zqo2_q1 Q E)) E H) (by kernel_rfl) h) (zqo2_5ok Q E))))
noncomputable def zqp2_q1 (Q:QT) (E:ET) :XT:=(retQ Pr (Try.f39).results.toList Q)
noncomputable def zqp2_p1:Code:=sB (bodyOf Try.f39)
def zqp2_1 (Q:QT) (E:ET)  (H:Heap):Prop :=
 Q (.int .i64 (-1)) H
def zqp2_1_M  (τ:Tau) (H:Heap):Prop:=zqp2_1 Q E  H
theorem zqp2_2ok :Ok Pr (zqp2_1_M Q E) (sB (sB (sB zqp2_p1))) (zqp2_q1 Q E) E:=fun τ H h =>
  (conv (by kernel_rfl) h)
noncomputable def zqp2_q2 :XT:=(xthen (zqp2_1_M Q E) (zqp2_q1 Q E))
noncomputable def zqp2_p5:Code:=sA (sB (sB zqp2_p1))
noncomputable def zqp2_q4 (nx44:OA→Nat→Nat→Int→HP):XT:=(xthen (fun τ H=>mSl (τ 5) fun x5' l5' c5'=>mI .i64 (τ 6) fun x6'=>nx44 x5' l5' c5' x6' H) (xblock 0 (zqp2_q2 Q E)))
noncomputable def zqp2_p8:Code:=sI (sI (sB zqp2_p5))
def zqp2_3 (nx44:OA→Nat→Nat→Int→HP) (Q:QT) (E:ET) (x0:OA) (l0 c0:Nat) (x1:OA) (l1 c1:Nat) (x5:OA) (l5 c5:Nat) (x6:Int) (H:Heap):Prop :=
 nx44 x5 l5 c5 (IntKind.wrap .i64 (x6+1)) H
def zqp2_3_M (nx44:OA→Nat→Nat→Int→HP) (τ:Tau) (H:Heap):Prop:=mSl (τ 0) fun x0 l0 c0=>mSl (τ 1) fun x1 l1 c1=>mSl (τ 5) fun x5 l5 c5=>mI .i64 (τ 6) fun x6=>zqp2_3 nx44 Q E x0 l0 c0 x1 l1 c1 x5 l5 c5 x6 H
theorem zqp2_4ok (nx44:OA→Nat→Nat→Int→HP):Ok Pr (zqp2_3_M Q E nx44) (sB (sB zqp2_p8)) (zqp2_q4 Q E nx44) E:=fun τ H h =>
  wSl 0 h (fun x0 l0 c0 h=>wSl 1 h (fun x1 l1 c1 h=>wSl 5 h (fun x5 l5 c5 h=>wI 6 h (fun x6 h=>(conv (by kernel_rfl) h)))))
noncomputable def zqp2_q6 (nx44:OA→Nat→Nat→Int→HP):XT:=(xblock 1 (xthen (zqp2_3_M Q E nx44) (zqp2_q4 Q E nx44)))
noncomputable def zqp2_p12:Code:=sI (sA (sB zqp2_p8))
noncomputable def zqp2_p14:Code:=sB (sB zqp2_p12)
noncomputable def zqp2_p16:Code:=sB (sB zqp2_p14)
noncomputable def zqp2_p18:Code:=sB (sB zqp2_p16)
def zqp2_5 (nx44:OA→Nat→Nat→Int→HP) (Q:QT) (E:ET) (x0:OA) (l0 c0:Nat) (x1:OA) (l1 c1:Nat) (x6:Int) (x9:OA) (l9 c9:Nat) (H:Heap):Prop :=
 zqp2_3 nx44 Q E x0 l0 c0 x1 l1 c1 x9 l9 c9 x6 H
def zqp2_5_M (nx44:OA→Nat→Nat→Int→HP) (τ:Tau) (H:Heap):Prop:=mSl (τ 0) fun x0 l0 c0=>mSl (τ 1) fun x1 l1 c1=>mI .i64 (τ 6) fun x6=>mSl (τ 9) fun x9 l9 c9=>zqp2_5 nx44 Q E x0 l0 c0 x1 l1 c1 x6 x9 l9 c9 H
theorem zqp2_6ok (nx44:OA→Nat→Nat→Int→HP):Ok Pr (zqp2_5_M Q E nx44) (sB (sB zqp2_p18)) (zqp2_q6 Q E nx44) E:=fun τ H h =>
  wSl 0 h (fun x0 l0 c0 h=>wSl 1 h (fun x1 l1 c1 h=>wI 6 h (fun x6 h=>wSl 9 h (fun x9 l9 c9 h=>(conv (by kernel_rfl) h)))))
noncomputable def zqp2_q7 (nx44:OA→Nat→Nat→Int→HP):XT:=(xthen (zqp2_5_M Q E nx44) (zqp2_q6 Q E nx44))
noncomputable def zqp2_p21:Code:=sA (sB zqp2_p18)
noncomputable def zqp2_q9 (nx44:OA→Nat→Nat→Int→HP) (nx127:Int→HP):XT:=(xthen (fun τ H=>mI .i64 (τ 10) fun x10'=>nx127 x10' H) (xblock 2 (zqp2_q7 Q E nx44)))
noncomputable def zqp2_p24:Code:=sI (sI (sB zqp2_p21))
def zqp2_7 (nx44:OA→Nat→Nat→Int→HP) (nx127:Int→HP) (Q:QT) (E:ET) (x0:OA) (l0 c0:Nat) (x1:OA) (l1 c1:Nat) (x5:OA) (l5 c5:Nat) (x6:Int) (x9:OA) (l9 c9:Nat) (x10:Int) (H:Heap):Prop :=
 nx127 (IntKind.wrap .i64 (x10+1)) H
def zqp2_7_M (nx44:OA→Nat→Nat→Int→HP) (nx127:Int→HP) (τ:Tau) (H:Heap):Prop:=mSl (τ 0) fun x0 l0 c0=>mSl (τ 1) fun x1 l1 c1=>mSl (τ 5) fun x5 l5 c5=>mI .i64 (τ 6) fun x6=>mSl (τ 9) fun x9 l9 c9=>mI .i64 (τ 10) fun x10=>zqp2_7 nx44 nx127 Q E x0 l0 c0 x1 l1 c1 x5 l5 c5 x6 x9 l9 c9 x10 H
theorem zqp2_8ok (nx44:OA→Nat→Nat→Int→HP) (nx127:Int→HP):Ok Pr (zqp2_7_M Q E nx44 nx127) (sB (sB zqp2_p24)) (zqp2_q9 Q E nx44 nx127) E:=fun τ H h =>
  wSl 0 h (fun x0 l0 c0 h=>wSl 1 h (fun x1 l1 c1 h=>wSl 5 h (fun x5 l5 c5 h=>wI 6 h (fun x6 h=>wSl 9 h (fun x9 l9 c9 h=>wI 10 h (fun x10 h=>(conv (by kernel_rfl) h)))))))
noncomputable def zqp2_q10 (nx44:OA→Nat→Nat→Int→HP) (nx127:Int→HP):XT:=(xthen (zqp2_7_M Q E nx44 nx127) (zqp2_q9 Q E nx44 nx127))
noncomputable def zqp2_p28:Code:=sI (sA (sB zqp2_p24))
def zqp2_9 (nx44:OA→Nat→Nat→Int→HP) (nx127:Int→HP) (Q:QT) (E:ET) (x0:OA) (l0 c0:Nat) (x1:OA) (l1 c1:Nat) (x5:OA) (l5 c5:Nat) (x6:Int) (x9:OA) (l9 c9:Nat) (x10:Int) (x101:Bool) (H:Heap):Prop :=
 sel x101
 ((0≤x10∧x10 < (l0:Int))∧ptr x0 fun q160 =>
 ldI .i64 (Addr.add (Addr.add q160 (x10.toNat * 7)) 1) H fun n161 =>
 (0≤n161∧n161 < (l9:Int))∧ptr x9 fun q162 =>
 wr (Addr.add q162 (n161.toNat * 1)) [(.bool true)] H fun H163 =>
 zqp2_7 nx44 nx127 Q E x0 l0 c0 x1 l1 c1 x5 l5 c5 x6 x9 l9 c9 x10 H163)
 (zqp2_7 nx44 nx127 Q E x0 l0 c0 x1 l1 c1 x5 l5 c5 x6 x9 l9 c9 x10 H)
def zqp2_9_M (nx44:OA→Nat→Nat→Int→HP) (nx127:Int→HP) (τ:Tau) (H:Heap):Prop:=mSl (τ 0) fun x0 l0 c0=>mSl (τ 1) fun x1 l1 c1=>mSl (τ 5) fun x5 l5 c5=>mI .i64 (τ 6) fun x6=>mSl (τ 9) fun x9 l9 c9=>mI .i64 (τ 10) fun x10=>mB (τ 101) fun x101=>zqp2_9 nx44 nx127 Q E x0 l0 c0 x1 l1 c1 x5 l5 c5 x6 x9 l9 c9 x10 x101 H
theorem zqp2_10ok (nx44:OA→Nat→Nat→Int→HP) (nx127:Int→HP):Ok Pr (zqp2_9_M Q E nx44 nx127) (sB zqp2_p28) (xblock 3 (zqp2_q10 Q E nx44 nx127)) E:=fun τ H h =>
  wSl 0 h (fun x0 l0 c0 h=>wSl 1 h (fun x1 l1 c1 h=>wSl 5 h (fun x5 l5 c5 h=>wI 6 h (fun x6 h=>wSl 9 h (fun x9 l9 c9 h=>wI 10 h (fun x10 h=>wB 101 h (fun x101 h=>(conv (by kernel_rfl) h))))))))
noncomputable def zqp2_q12 (nx44:OA→Nat→Nat→Int→HP) (nx127:Int→HP):XT:=(xthen (zqp2_9_M Q E nx44 nx127) (xblock 3 (zqp2_q10 Q E nx44 nx127)))
def zqp2_11 (nx44:OA→Nat→Nat→Int→HP) (nx127:Int→HP) (Q:QT) (E:ET) (x0:OA) (l0 c0:Nat) (x1:OA) (l1 c1:Nat) (x5:OA) (l5 c5:Nat) (x6:Int) (x9:OA) (l9 c9:Nat) (x10:Int) (H:Heap):Prop :=
 (0≤x10∧x10 < (l5:Int))∧ptr x5 fun q164 =>
 ldB (Addr.add q164 (x10.toNat * 1)) H fun b165 =>
 sel b165
 ((0≤x10∧x10 < (l0:Int))∧ptr x0 fun q166 =>
 ldI .i64 (Addr.add q166 (x10.toNat * 7)) H fun n167 =>
 sel (n167 == 1)
 ((0≤x10∧x10 < (l0:Int))∧ptr x0 fun q168 =>
 ∃ n169 n170 n171 n172:Int,Heap.rd H (Addr.add (Addr.add q168 (x10.toNat * 7)) 3) 0 [(.int .u64 n169),(.int .u64 n170),(.int .u64 n171),(.int .u64 n172)]∧(0≤x6∧x6 < (l1:Int))∧ptr x1 fun q173 =>
 ldI .u8 (Addr.add q173 (x6.toNat * 1)) H fun n174 =>
 Does Pr 73 #[(.agg #[(.int .u64 n169),(.int .u64 n170),(.int .u64 n171),(.int .u64 n172)]),(.int .u8 n174)] H (fun v175 H176 =>
 ∃ b177:Bool,v175=(.bool b177)∧zqp2_9 nx44 nx127 Q E x0 l0 c0 x1 l1 c1 x5 l5 c5 x6 x9 l9 c9 x10 b177 H176) (fun _ _=>False))
 (zqp2_9 nx44 nx127 Q E x0 l0 c0 x1 l1 c1 x5 l5 c5 x6 x9 l9 c9 x10 false H))
 (zqp2_9 nx44 nx127 Q E x0 l0 c0 x1 l1 c1 x5 l5 c5 x6 x9 l9 c9 x10 false H)
def zqp2_11_M (nx44:OA→Nat→Nat→Int→HP) (nx127:Int→HP) (τ:Tau) (H:Heap):Prop:=mSl (τ 0) fun x0 l0 c0=>mSl (τ 1) fun x1 l1 c1=>mSl (τ 5) fun x5 l5 c5=>mI .i64 (τ 6) fun x6=>mSl (τ 9) fun x9 l9 c9=>mI .i64 (τ 10) fun x10=>zqp2_11 nx44 nx127 Q E x0 l0 c0 x1 l1 c1 x5 l5 c5 x6 x9 l9 c9 x10 H
theorem zqp2_12ok (nx44:OA→Nat→Nat→Int→HP) (nx127:Int→HP):Ok Pr (zqp2_11_M Q E nx44 nx127) (sA zqp2_p28) (zqp2_q12 Q E nx44 nx127) E:=fun τ H h =>
  wSl 0 h (fun x0 l0 c0 h=>wSl 1 h (fun x1 l1 c1 h=>wSl 5 h (fun x5 l5 c5 h=>wI 6 h (fun x6 h=>wSl 9 h (fun x9 l9 c9 h=>wI 10 h (fun x10 h=>(conv (by kernel_rfl) h)))))))
theorem zqp2_13ok (nx44:OA→Nat→Nat→Int→HP) (nx127:Int→HP):Ok Pr (zqp2_11_M Q E nx44 nx127) zqp2_p28 (xblock 3 (zqp2_q10 Q E nx44 nx127)) E:=fun τ H h =>
  (conv (by kernel_rfl) (vc_seq (K:=(zqp2_9_M Q E nx44 nx127)) (zqp2_12ok Q E nx44 nx127 τ H h) (zqp2_10ok Q E nx44 nx127)))
theorem zqp2_14ok (nx44:OA→Nat→Nat→Int→HP) (nx127:Int→HP):Ok Pr (zqp2_11_M Q E nx44 nx127) (sA (sB zqp2_p24)) (zqp2_q10 Q E nx44 nx127) E:=fun τ H h =>
  (conv (by kernel_rfl) (zqp2_13ok Q E nx44 nx127 τ H h))
theorem zqp2_15ok (nx44:OA→Nat→Nat→Int→HP) (nx127:Int→HP):Ok Pr (zqp2_11_M Q E nx44 nx127) (sB zqp2_p24) (zqp2_q9 Q E nx44 nx127) E:=fun τ H h =>
  (conv (by kernel_rfl) (vc_seq (K:=(zqp2_7_M Q E nx44 nx127)) (zqp2_14ok Q E nx44 nx127 τ H h) (zqp2_8ok Q E nx44 nx127)))
noncomputable def zqp2_q13 (nx44:OA→Nat→Nat→Int→HP) (nx127:Int→HP):XT:=(xthen (zqp2_11_M Q E nx44 nx127) (zqp2_q9 Q E nx44 nx127))
noncomputable def zqp2_p31:Code:=sA zqp2_p24
def zqp2_16 (nx44:OA→Nat→Nat→Int→HP) (nx127:Int→HP) (Q:QT) (E:ET) (x0:OA) (l0 c0:Nat) (x1:OA) (l1 c1:Nat) (x5:OA) (l5 c5:Nat) (x6:Int) (x9:OA) (l9 c9:Nat) (x10:Int) (x75:Bool) (H:Heap):Prop :=
 sel x75
 (zqp2_11 nx44 nx127 Q E x0 l0 c0 x1 l1 c1 x5 l5 c5 x6 x9 l9 c9 x10 H)
 (zqp2_5 nx44 Q E x0 l0 c0 x1 l1 c1 x6 x9 l9 c9 H)
def zqp2_16_M (nx44:OA→Nat→Nat→Int→HP) (nx127:Int→HP) (τ:Tau) (H:Heap):Prop:=mSl (τ 0) fun x0 l0 c0=>mSl (τ 1) fun x1 l1 c1=>mSl (τ 5) fun x5 l5 c5=>mI .i64 (τ 6) fun x6=>mSl (τ 9) fun x9 l9 c9=>mI .i64 (τ 10) fun x10=>mB (τ 75) fun x75=>zqp2_16 nx44 nx127 Q E x0 l0 c0 x1 l1 c1 x5 l5 c5 x6 x9 l9 c9 x10 x75 H
theorem zqp2_17ok (nx44:OA→Nat→Nat→Int→HP) (nx127:Int→HP):Ok Pr (zqp2_16_M Q E nx44 nx127) (sB zqp2_p31) (zqp2_q13 Q E nx44 nx127) E:=fun τ H h =>
  wSl 0 h (fun x0 l0 c0 h=>wSl 1 h (fun x1 l1 c1 h=>wSl 5 h (fun x5 l5 c5 h=>wI 6 h (fun x6 h=>wSl 9 h (fun x9 l9 c9 h=>wI 10 h (fun x10 h=>wB 75 h (fun x75 h=>(conv (by kernel_rfl) h))))))))
noncomputable def zqp2_q14 (nx44:OA→Nat→Nat→Int→HP) (nx127:Int→HP):XT:=(xthen (zqp2_16_M Q E nx44 nx127) (zqp2_q13 Q E nx44 nx127))
def zqp2_18 (nx44:OA→Nat→Nat→Int→HP) (nx127:Int→HP) (Q:QT) (E:ET) (x0:OA) (l0 c0:Nat) (x1:OA) (l1 c1:Nat) (x5:OA) (l5 c5:Nat) (x6:Int) (x9:OA) (l9 c9:Nat) (x10:Int) (H:Heap):Prop :=
 sel (decide (x10 < (l0:Int)))
 (zqp2_16 nx44 nx127 Q E x0 l0 c0 x1 l1 c1 x5 l5 c5 x6 x9 l9 c9 x10 (decide (x6 < (l1:Int))) H)
 (zqp2_16 nx44 nx127 Q E x0 l0 c0 x1 l1 c1 x5 l5 c5 x6 x9 l9 c9 x10 false H)
def zqp2_18_M (nx44:OA→Nat→Nat→Int→HP) (nx127:Int→HP) (τ:Tau) (H:Heap):Prop:=mSl (τ 0) fun x0 l0 c0=>mSl (τ 1) fun x1 l1 c1=>mSl (τ 5) fun x5 l5 c5=>mI .i64 (τ 6) fun x6=>mSl (τ 9) fun x9 l9 c9=>mI .i64 (τ 10) fun x10=>zqp2_18 nx44 nx127 Q E x0 l0 c0 x1 l1 c1 x5 l5 c5 x6 x9 l9 c9 x10 H
theorem zqp2_19ok (nx44:OA→Nat→Nat→Int→HP) (nx127:Int→HP):Ok Pr (zqp2_18_M Q E nx44 nx127) (sA zqp2_p31) (zqp2_q14 Q E nx44 nx127) E:=fun τ H h =>
  wSl 0 h (fun x0 l0 c0 h=>wSl 1 h (fun x1 l1 c1 h=>wSl 5 h (fun x5 l5 c5 h=>wI 6 h (fun x6 h=>wSl 9 h (fun x9 l9 c9 h=>wI 10 h (fun x10 h=>(conv (by kernel_rfl) h)))))))
theorem zqp2_20ok (nx44:OA→Nat→Nat→Int→HP) (nx127:Int→HP):Ok Pr (zqp2_18_M Q E nx44 nx127) zqp2_p31 (zqp2_q13 Q E nx44 nx127) E:=fun τ H h =>
  (conv (by kernel_rfl) (vc_seq (K:=(zqp2_16_M Q E nx44 nx127)) (zqp2_19ok Q E nx44 nx127 τ H h) (zqp2_17ok Q E nx44 nx127)))
theorem zqp2_21ok (nx44:OA→Nat→Nat→Int→HP) (nx127:Int→HP):Ok Pr (zqp2_18_M Q E nx44 nx127) zqp2_p24 (zqp2_q9 Q E nx44 nx127) E:=fun τ H h =>
  (conv (by kernel_rfl) (vc_seq (K:=(zqp2_11_M Q E nx44 nx127)) (zqp2_20ok Q E nx44 nx127 τ H h) (zqp2_15ok Q E nx44 nx127)))
def zqp2_22 (nx44:OA→Nat→Nat→Int→HP) (Q:QT) (E:ET) (x0:OA) (l0 c0:Nat) (x1:OA) (l1 c1:Nat) (x5:OA) (l5 c5:Nat) (x6:Int) (x9:OA) (l9 c9:Nat) (x10:Int) (H:Heap):Prop :=
 ∃ (I:Int→HP) (μ:Int→Heap→Nat),I x10 H∧∀ (x10:Int) (H:Heap),I x10 H →
 zqp2_18 nx44 (fun x10' H1=>I x10' H1∧μ x10' H1 < μ x10 H) Q E x0 l0 c0 x1 l1 c1 x5 l5 c5 x6 x9 l9 c9 x10 H
def zqp2_22_M (nx44:OA→Nat→Nat→Int→HP) (τ:Tau) (H:Heap):Prop:=mSl (τ 0) fun x0 l0 c0=>mSl (τ 1) fun x1 l1 c1=>mSl (τ 5) fun x5 l5 c5=>mI .i64 (τ 6) fun x6=>mSl (τ 9) fun x9 l9 c9=>mI .i64 (τ 10) fun x10=>zqp2_22 nx44 Q E x0 l0 c0 x1 l1 c1 x5 l5 c5 x6 x9 l9 c9 x10 H
theorem zqp2_23ok (nx44:OA→Nat→Nat→Int→HP):Ok Pr (zqp2_22_M Q E nx44) (sI (sB zqp2_p21)) (xblock 2 (zqp2_q7 Q E nx44)) E:=fun τ H h =>
  wSl 0 h (fun x0 l0 c0 h=>wSl 1 h (fun x1 l1 c1 h=>wSl 5 h (fun x5 l5 c5 h=>wI 6 h (fun x6 h=>wSl 9 h (fun x9 l9 c9 h=>wI 10 h (fun x10 h=>match h with | ⟨I,μ,h0,hr⟩=>(conv (by kernel_rfl) (vc_loopG (c:=sI (sI (sB zqp2_p21))) (τ:=(Tau.upd (Tau.upd (Tau.upd (Tau.upd (Tau.upd (Tau.upd τ 0 (.slice x0 l0 c0)) 1 (.slice x1 l1 c1)) 5 (.slice x5 l5 c5)) 6 (.int .i64 x6)) 9 (.slice x9 l9 c9)) 10 (.int .i64 x10))) [0,1,5,6,9] (fun τ H=>mI .i64 (τ 10) fun x10'=>I x10' H) (fun τ H=>μ (gI (τ 10)) H) (by kernel_rfl) h0 (fun τ1 H1 hf hI=>uF 0 (.slice x0 l0 c0) (hf 0 (by simp)) (uF 1 (.slice x1 l1 c1) (hf 1 (by simp)) (uF 5 (.slice x5 l5 c5) (hf 5 (by simp)) (uF 6 (.int .i64 x6) (hf 6 (by simp)) (uF 9 (.slice x9 l9 c9) (hf 9 (by simp)) (uI 10 hI (fun x10r h=>lgx (zqp2_21ok Q E nx44 (fun x10' H2=>I x10' H2∧μ x10' H2 < μ x10r H1) (Tau.upd (Tau.upd (Tau.upd (Tau.upd (Tau.upd (Tau.upd τ1 0 (.slice x0 l0 c0)) 1 (.slice x1 l1 c1)) 5 (.slice x5 l5 c5)) 6 (.int .i64 x6)) 9 (.slice x9 l9 c9)) 10 (.int .i64 x10r)) H1 (conv (by kernel_rfl) (hr x10r H1 h))) (fun τ2 H2 hk=>kI 10 hk (fun x10' h=>conv (by kernel_rfl) h)))))))))))))))))
theorem zqp2_24ok (nx44:OA→Nat→Nat→Int→HP):Ok Pr (zqp2_22_M Q E nx44) (sB zqp2_p21) (zqp2_q7 Q E nx44) E:=fun τ H h =>
  (conv (by kernel_rfl) (zqp2_23ok Q E nx44 τ H h))
noncomputable def zqp2_q15 (nx44:OA→Nat→Nat→Int→HP):XT:=(xthen (zqp2_22_M Q E nx44) (zqp2_q7 Q E nx44))
def zqp2_25 (nx44:OA→Nat→Nat→Int→HP) (Q:QT) (E:ET) (x0:OA) (l0 c0:Nat) (x1:OA) (l1 c1:Nat) (x5:OA) (l5 c5:Nat) (x6:Int) (x9:OA) (l9 c9:Nat) (H:Heap):Prop :=
 zqp2_22 nx44 Q E x0 l0 c0 x1 l1 c1 x5 l5 c5 x6 x9 l9 c9 0 H
def zqp2_25_M (nx44:OA→Nat→Nat→Int→HP) (τ:Tau) (H:Heap):Prop:=mSl (τ 0) fun x0 l0 c0=>mSl (τ 1) fun x1 l1 c1=>mSl (τ 5) fun x5 l5 c5=>mI .i64 (τ 6) fun x6=>mSl (τ 9) fun x9 l9 c9=>zqp2_25 nx44 Q E x0 l0 c0 x1 l1 c1 x5 l5 c5 x6 x9 l9 c9 H
theorem zqp2_26ok (nx44:OA→Nat→Nat→Int→HP):Ok Pr (zqp2_25_M Q E nx44) (sA zqp2_p21) (zqp2_q15 Q E nx44) E:=fun τ H h =>
  wSl 0 h (fun x0 l0 c0 h=>wSl 1 h (fun x1 l1 c1 h=>wSl 5 h (fun x5 l5 c5 h=>wI 6 h (fun x6 h=>wSl 9 h (fun x9 l9 c9 h=>(conv (by kernel_rfl) h))))))
theorem zqp2_27ok (nx44:OA→Nat→Nat→Int→HP):Ok Pr (zqp2_25_M Q E nx44) zqp2_p21 (zqp2_q7 Q E nx44) E:=fun τ H h =>
  (conv (by kernel_rfl) (vc_seq (K:=(zqp2_22_M Q E nx44)) (zqp2_26ok Q E nx44 τ H h) (zqp2_24ok Q E nx44)))
theorem zqp2_28ok (nx44:OA→Nat→Nat→Int→HP):Ok Pr (zqp2_25_M Q E nx44) (sB zqp2_p18) (zqp2_q6 Q E nx44) E:=fun τ H h =>
  (conv (by kernel_rfl) (vc_seq (K:=(zqp2_5_M Q E nx44)) (zqp2_27ok Q E nx44 τ H h) (zqp2_6ok Q E nx44)))
noncomputable def zqp2_q16 (nx44:OA→Nat→Nat→Int→HP):XT:=(xthen (zqp2_25_M Q E nx44) (zqp2_q6 Q E nx44))
def zqp2_29 (nx44:OA→Nat→Nat→Int→HP) (Q:QT) (E:ET) (x0:OA) (l0 c0:Nat) (x1:OA) (l1 c1:Nat) (x5:OA) (l5 c5:Nat) (x6:Int) (H:Heap):Prop :=
 (0≤((l0:Int):Int)∧((l0:Int):Int)≤(l0:Int)∧((l0:Int):Int)≤281474976710656∧((1:Nat):Int) * (l0:Int)≤281474976710656)∧nw (.cells (rep ((l0:Int):Int).toNat [(.bool false)]).toArray 4 (0,0)) H fun i178 H179 =>
 zqp2_25 nx44 Q E x0 l0 c0 x1 l1 c1 x5 l5 c5 x6 (some ⟨i178,0,none⟩) (((l0:Int):Int).toNat) (((l0:Int):Int).toNat) H179
def zqp2_29_M (nx44:OA→Nat→Nat→Int→HP) (τ:Tau) (H:Heap):Prop:=mSl (τ 0) fun x0 l0 c0=>mSl (τ 1) fun x1 l1 c1=>mSl (τ 5) fun x5 l5 c5=>mI .i64 (τ 6) fun x6=>zqp2_29 nx44 Q E x0 l0 c0 x1 l1 c1 x5 l5 c5 x6 H
theorem zqp2_30ok (nx44:OA→Nat→Nat→Int→HP):Ok Pr (zqp2_29_M Q E nx44) (sA zqp2_p18) (zqp2_q16 Q E nx44) E:=fun τ H h =>
  wSl 0 h (fun x0 l0 c0 h=>wSl 1 h (fun x1 l1 c1 h=>wSl 5 h (fun x5 l5 c5 h=>wI 6 h (fun x6 h=>(conv (by kernel_rfl) h)))))
theorem zqp2_31ok (nx44:OA→Nat→Nat→Int→HP):Ok Pr (zqp2_29_M Q E nx44) zqp2_p18 (zqp2_q6 Q E nx44) E:=fun τ H h =>
  (conv (by kernel_rfl) (vc_seq (K:=(zqp2_25_M Q E nx44)) (zqp2_30ok Q E nx44 τ H h) (zqp2_28ok Q E nx44)))
noncomputable def zqp2_q17 (nx44:OA→Nat→Nat→Int→HP):XT:=(xthen (zqp2_29_M Q E nx44) (zqp2_q6 Q E nx44))
def zqp2_32 (nx44:OA→Nat→Nat→Int→HP) (Q:QT) (E:ET) (x0:OA) (l0 c0:Nat) (x1:OA) (l1 c1:Nat) (x5:OA) (l5 c5:Nat) (x6:Int) (H:Heap):Prop :=
 Does Pr 71 #[(.slice x0 l0 c0),(.slice x5 l5 c5)] H (fun v180 H181 =>
 ∃ b182:Bool,v180=(.bool b182)∧sel b182
 (Q (.int .i64 (IntKind.wrap .i64 (x6+1))) H181)
 (zqp2_29 nx44 Q E x0 l0 c0 x1 l1 c1 x5 l5 c5 x6 H181)) E
def zqp2_32_M (nx44:OA→Nat→Nat→Int→HP) (τ:Tau) (H:Heap):Prop:=mSl (τ 0) fun x0 l0 c0=>mSl (τ 1) fun x1 l1 c1=>mSl (τ 5) fun x5 l5 c5=>mI .i64 (τ 6) fun x6=>zqp2_32 nx44 Q E x0 l0 c0 x1 l1 c1 x5 l5 c5 x6 H
theorem zqp2_33ok (nx44:OA→Nat→Nat→Int→HP):Ok Pr (zqp2_32_M Q E nx44) (sA (sB zqp2_p16)) (zqp2_q17 Q E nx44) E:=fun τ H h =>
  wSl 0 h (fun x0 l0 c0 h=>wSl 1 h (fun x1 l1 c1 h=>wSl 5 h (fun x5 l5 c5 h=>wI 6 h (fun x6 h=>(conv (by kernel_rfl) h)))))
theorem zqp2_34ok (nx44:OA→Nat→Nat→Int→HP):Ok Pr (zqp2_32_M Q E nx44) (sB zqp2_p16) (zqp2_q6 Q E nx44) E:=fun τ H h =>
  (conv (by kernel_rfl) (vc_seq (K:=(zqp2_29_M Q E nx44)) (zqp2_33ok Q E nx44 τ H h) (zqp2_31ok Q E nx44)))
noncomputable def zqp2_q18 (nx44:OA→Nat→Nat→Int→HP):XT:=(xthen (zqp2_32_M Q E nx44) (zqp2_q6 Q E nx44))
def zqp2_35 (nx44:OA→Nat→Nat→Int→HP) (Q:QT) (E:ET) (x0:OA) (l0 c0:Nat) (x1:OA) (l1 c1:Nat) (x5:OA) (l5 c5:Nat) (x6:Int) (x7 x8:Bool) (H:Heap):Prop :=
 Does Pr 72 #[(.slice x0 l0 c0),(.slice x5 l5 c5),(.bool x7),(.bool x8)] H (fun v183 H184 =>
 ∃ (p185:OA) (l186 c187:Nat),v183=(.slice p185 l186 c187)∧zqp2_32 nx44 Q E x0 l0 c0 x1 l1 c1 p185 l186 c187 x6 H184) E
def zqp2_35_M (nx44:OA→Nat→Nat→Int→HP) (τ:Tau) (H:Heap):Prop:=mSl (τ 0) fun x0 l0 c0=>mSl (τ 1) fun x1 l1 c1=>mSl (τ 5) fun x5 l5 c5=>mI .i64 (τ 6) fun x6=>mB (τ 7) fun x7=>mB (τ 8) fun x8=>zqp2_35 nx44 Q E x0 l0 c0 x1 l1 c1 x5 l5 c5 x6 x7 x8 H
theorem zqp2_36ok (nx44:OA→Nat→Nat→Int→HP):Ok Pr (zqp2_35_M Q E nx44) (sA zqp2_p16) (zqp2_q18 Q E nx44) E:=fun τ H h =>
  wSl 0 h (fun x0 l0 c0 h=>wSl 1 h (fun x1 l1 c1 h=>wSl 5 h (fun x5 l5 c5 h=>wI 6 h (fun x6 h=>wB 7 h (fun x7 h=>wB 8 h (fun x8 h=>(conv (by kernel_rfl) h)))))))
theorem zqp2_37ok (nx44:OA→Nat→Nat→Int→HP):Ok Pr (zqp2_35_M Q E nx44) zqp2_p16 (zqp2_q6 Q E nx44) E:=fun τ H h =>
  (conv (by kernel_rfl) (vc_seq (K:=(zqp2_32_M Q E nx44)) (zqp2_36ok Q E nx44 τ H h) (zqp2_34ok Q E nx44)))
noncomputable def zqp2_q19 (nx44:OA→Nat→Nat→Int→HP):XT:=(xthen (zqp2_35_M Q E nx44) (zqp2_q6 Q E nx44))
def zqp2_38 (nx44:OA→Nat→Nat→Int→HP) (Q:QT) (E:ET) (x0:OA) (l0 c0:Nat) (x1:OA) (l1 c1:Nat) (x5:OA) (l5 c5:Nat) (x6:Int) (x7 x8:Bool) (H:Heap):Prop :=
 Does Pr 72 #[(.slice x0 l0 c0),(.slice x5 l5 c5),(.bool x7),(.bool false)] H (fun v188 H189 =>
 ∃ (p190:OA) (l191 c192:Nat),v188=(.slice p190 l191 c192)∧Does Pr 71 #[(.slice x0 l0 c0),(.slice p190 l191 c192)] H189 (fun v193 H194 =>
 ∃ b195:Bool,v193=(.bool b195)∧sel b195
 (Q (.int .i64 x6) H194)
 (zqp2_35 nx44 Q E x0 l0 c0 x1 l1 c1 x5 l5 c5 x6 x7 x8 H194)) E) E
def zqp2_38_M (nx44:OA→Nat→Nat→Int→HP) (τ:Tau) (H:Heap):Prop:=mSl (τ 0) fun x0 l0 c0=>mSl (τ 1) fun x1 l1 c1=>mSl (τ 5) fun x5 l5 c5=>mI .i64 (τ 6) fun x6=>mB (τ 7) fun x7=>mB (τ 8) fun x8=>zqp2_38 nx44 Q E x0 l0 c0 x1 l1 c1 x5 l5 c5 x6 x7 x8 H
theorem zqp2_39ok (nx44:OA→Nat→Nat→Int→HP):Ok Pr (zqp2_38_M Q E nx44) (sA (sB zqp2_p14)) (zqp2_q19 Q E nx44) E:=fun τ H h =>
  wSl 0 h (fun x0 l0 c0 h=>wSl 1 h (fun x1 l1 c1 h=>wSl 5 h (fun x5 l5 c5 h=>wI 6 h (fun x6 h=>wB 7 h (fun x7 h=>wB 8 h (fun x8 h=>(conv (by kernel_rfl) h)))))))
theorem zqp2_40ok (nx44:OA→Nat→Nat→Int→HP):Ok Pr (zqp2_38_M Q E nx44) (sB zqp2_p14) (zqp2_q6 Q E nx44) E:=fun τ H h =>
  (conv (by kernel_rfl) (vc_seq (K:=(zqp2_35_M Q E nx44)) (zqp2_39ok Q E nx44 τ H h) (zqp2_37ok Q E nx44)))
noncomputable def zqp2_q20 (nx44:OA→Nat→Nat→Int→HP):XT:=(xthen (zqp2_38_M Q E nx44) (zqp2_q6 Q E nx44))
def zqp2_41 (nx44:OA→Nat→Nat→Int→HP) (Q:QT) (E:ET) (x0:OA) (l0 c0:Nat) (x1:OA) (l1 c1:Nat) (x5:OA) (l5 c5:Nat) (x6:Int) (x7:Bool) (H:Heap):Prop :=
 sel (decide (x6 < (l1:Int)))
 ((0≤x6∧x6 < (l1:Int))∧ptr x1 fun q196 =>
 ldI .u8 (Addr.add q196 (x6.toNat * 1)) H fun n197 =>
 zqp2_38 nx44 Q E x0 l0 c0 x1 l1 c1 x5 l5 c5 x6 x7 (n197 == 10) H)
 (zqp2_38 nx44 Q E x0 l0 c0 x1 l1 c1 x5 l5 c5 x6 x7 false H)
def zqp2_41_M (nx44:OA→Nat→Nat→Int→HP) (τ:Tau) (H:Heap):Prop:=mSl (τ 0) fun x0 l0 c0=>mSl (τ 1) fun x1 l1 c1=>mSl (τ 5) fun x5 l5 c5=>mI .i64 (τ 6) fun x6=>mB (τ 7) fun x7=>zqp2_41 nx44 Q E x0 l0 c0 x1 l1 c1 x5 l5 c5 x6 x7 H
theorem zqp2_42ok (nx44:OA→Nat→Nat→Int→HP):Ok Pr (zqp2_41_M Q E nx44) (sA zqp2_p14) (zqp2_q20 Q E nx44) E:=fun τ H h =>
  wSl 0 h (fun x0 l0 c0 h=>wSl 1 h (fun x1 l1 c1 h=>wSl 5 h (fun x5 l5 c5 h=>wI 6 h (fun x6 h=>wB 7 h (fun x7 h=>(conv (by kernel_rfl) h))))))
theorem zqp2_43ok (nx44:OA→Nat→Nat→Int→HP):Ok Pr (zqp2_41_M Q E nx44) zqp2_p14 (zqp2_q6 Q E nx44) E:=fun τ H h =>
  (conv (by kernel_rfl) (vc_seq (K:=(zqp2_38_M Q E nx44)) (zqp2_42ok Q E nx44 τ H h) (zqp2_40ok Q E nx44)))
noncomputable def zqp2_q21 (nx44:OA→Nat→Nat→Int→HP):XT:=(xthen (zqp2_41_M Q E nx44) (zqp2_q6 Q E nx44))
def zqp2_44 (nx44:OA→Nat→Nat→Int→HP) (Q:QT) (E:ET) (x0:OA) (l0 c0:Nat) (x1:OA) (l1 c1:Nat) (x5:OA) (l5 c5:Nat) (x6:Int) (H:Heap):Prop :=
 sel (x6 == 0)
 (zqp2_41 nx44 Q E x0 l0 c0 x1 l1 c1 x5 l5 c5 x6 true H)
 ((0≤((IntKind.wrap .i64 (x6 - 1)):Int)∧((IntKind.wrap .i64 (x6 - 1)):Int) < (l1:Int))∧ptr x1 fun q198 =>
 ldI .u8 (Addr.add q198 (((IntKind.wrap .i64 (x6 - 1)):Int).toNat * 1)) H fun n199 =>
 zqp2_41 nx44 Q E x0 l0 c0 x1 l1 c1 x5 l5 c5 x6 (n199 == 10) H)
def zqp2_44_M (nx44:OA→Nat→Nat→Int→HP) (τ:Tau) (H:Heap):Prop:=mSl (τ 0) fun x0 l0 c0=>mSl (τ 1) fun x1 l1 c1=>mSl (τ 5) fun x5 l5 c5=>mI .i64 (τ 6) fun x6=>zqp2_44 nx44 Q E x0 l0 c0 x1 l1 c1 x5 l5 c5 x6 H
theorem zqp2_45ok (nx44:OA→Nat→Nat→Int→HP):Ok Pr (zqp2_44_M Q E nx44) (sA (sB zqp2_p12)) (zqp2_q21 Q E nx44) E:=fun τ H h =>
  wSl 0 h (fun x0 l0 c0 h=>wSl 1 h (fun x1 l1 c1 h=>wSl 5 h (fun x5 l5 c5 h=>wI 6 h (fun x6 h=>(conv (by kernel_rfl) h)))))
theorem zqp2_46ok (nx44:OA→Nat→Nat→Int→HP):Ok Pr (zqp2_44_M Q E nx44) (sB zqp2_p12) (zqp2_q6 Q E nx44) E:=fun τ H h =>
  (conv (by kernel_rfl) (vc_seq (K:=(zqp2_41_M Q E nx44)) (zqp2_45ok Q E nx44 τ H h) (zqp2_43ok Q E nx44)))
noncomputable def zqp2_q22 (nx44:OA→Nat→Nat→Int→HP):XT:=(xthen (zqp2_44_M Q E nx44) (zqp2_q6 Q E nx44))
def zqp2_47 (nx44:OA→Nat→Nat→Int→HP) (Q:QT) (E:ET) (x0:OA) (l0 c0:Nat) (x1:OA) (l1 c1:Nat) (x5:OA) (l5 c5:Nat) (x6:Int) (H:Heap):Prop :=
 (0≤(0:Int)∧(0:Int) < (l5:Int))∧ptr x5 fun q200 =>
 wr q200 [(.bool true)] H fun H201 =>
 zqp2_44 nx44 Q E x0 l0 c0 x1 l1 c1 x5 l5 c5 x6 H201
def zqp2_47_M (nx44:OA→Nat→Nat→Int→HP) (τ:Tau) (H:Heap):Prop:=mSl (τ 0) fun x0 l0 c0=>mSl (τ 1) fun x1 l1 c1=>mSl (τ 5) fun x5 l5 c5=>mI .i64 (τ 6) fun x6=>zqp2_47 nx44 Q E x0 l0 c0 x1 l1 c1 x5 l5 c5 x6 H
theorem zqp2_48ok (nx44:OA→Nat→Nat→Int→HP):Ok Pr (zqp2_47_M Q E nx44) (sA zqp2_p12) (zqp2_q22 Q E nx44) E:=fun τ H h =>
  wSl 0 h (fun x0 l0 c0 h=>wSl 1 h (fun x1 l1 c1 h=>wSl 5 h (fun x5 l5 c5 h=>wI 6 h (fun x6 h=>(conv (by kernel_rfl) h)))))
theorem zqp2_49ok (nx44:OA→Nat→Nat→Int→HP):Ok Pr (zqp2_47_M Q E nx44) zqp2_p12 (zqp2_q6 Q E nx44) E:=fun τ H h =>
  (conv (by kernel_rfl) (vc_seq (K:=(zqp2_44_M Q E nx44)) (zqp2_48ok Q E nx44 τ H h) (zqp2_46ok Q E nx44)))
theorem zqp2_50ok (nx44:OA→Nat→Nat→Int→HP):Ok Pr (zqp2_47_M Q E nx44) (sA (sB zqp2_p8)) (xthen (zqp2_3_M Q E nx44) (zqp2_q4 Q E nx44)) E:=fun τ H h =>
  (conv (by kernel_rfl) (zqp2_49ok Q E nx44 τ H h))
theorem zqp2_51ok (nx44:OA→Nat→Nat→Int→HP):Ok Pr (zqp2_47_M Q E nx44) (sB zqp2_p8) (zqp2_q4 Q E nx44) E:=fun τ H h =>
  (conv (by kernel_rfl) (vc_seq (K:=(zqp2_3_M Q E nx44)) (zqp2_50ok Q E nx44 τ H h) (zqp2_4ok Q E nx44)))
noncomputable def zqp2_q23 (nx44:OA→Nat→Nat→Int→HP):XT:=(xthen (zqp2_47_M Q E nx44) (zqp2_q4 Q E nx44))
def zqp2_52 (nx44:OA→Nat→Nat→Int→HP) (Q:QT) (E:ET) (x0:OA) (l0 c0:Nat) (x1:OA) (l1 c1:Nat) (x5:OA) (l5 c5:Nat) (x6:Int) (H:Heap):Prop :=
 sel (decide (x6≤(l1:Int)))
 (zqp2_47 nx44 Q E x0 l0 c0 x1 l1 c1 x5 l5 c5 x6 H)
 (zqp2_1 Q E  H)
def zqp2_52_M (nx44:OA→Nat→Nat→Int→HP) (τ:Tau) (H:Heap):Prop:=mSl (τ 0) fun x0 l0 c0=>mSl (τ 1) fun x1 l1 c1=>mSl (τ 5) fun x5 l5 c5=>mI .i64 (τ 6) fun x6=>zqp2_52 nx44 Q E x0 l0 c0 x1 l1 c1 x5 l5 c5 x6 H
theorem zqp2_53ok (nx44:OA→Nat→Nat→Int→HP):Ok Pr (zqp2_52_M Q E nx44) (sA zqp2_p8) (zqp2_q23 Q E nx44) E:=fun τ H h =>
  wSl 0 h (fun x0 l0 c0 h=>wSl 1 h (fun x1 l1 c1 h=>wSl 5 h (fun x5 l5 c5 h=>wI 6 h (fun x6 h=>(conv (by kernel_rfl) h)))))
theorem zqp2_54ok (nx44:OA→Nat→Nat→Int→HP):Ok Pr (zqp2_52_M Q E nx44) zqp2_p8 (zqp2_q4 Q E nx44) E:=fun τ H h =>
  (conv (by kernel_rfl) (vc_seq (K:=(zqp2_47_M Q E nx44)) (zqp2_53ok Q E nx44 τ H h) (zqp2_51ok Q E nx44)))
def zqp2_55 (Q:QT) (E:ET) (x0:OA) (l0 c0:Nat) (x1:OA) (l1 c1:Nat) (x5:OA) (l5 c5:Nat) (x6:Int) (H:Heap):Prop :=
 ∃ (I:OA→Nat→Nat→Int→HP) (μ:OA→Nat→Nat→Int→Heap→Nat),I x5 l5 c5 x6 H∧∀ (x5:OA) (l5 c5:Nat) (x6:Int) (H:Heap),I x5 l5 c5 x6 H →
 zqp2_52 (fun x5' l5' c5' x6' H1=>I x5' l5' c5' x6' H1∧μ x5' l5' c5' x6' H1 < μ x5 l5 c5 x6 H) Q E x0 l0 c0 x1 l1 c1 x5 l5 c5 x6 H
def zqp2_55_M:Prop:=mSl (τ 0) fun x0 l0 c0=>mSl (τ 1) fun x1 l1 c1=>mSl (τ 5) fun x5 l5 c5=>mI .i64 (τ 6) fun x6=>zqp2_55 Q E x0 l0 c0 x1 l1 c1 x5 l5 c5 x6 H
theorem zqp2_56ok :Ok Pr (zqp2_55_M Q E) (sI (sB zqp2_p5)) (xblock 0 (zqp2_q2 Q E)) E:=fun τ H h =>
  wSl 0 h (fun x0 l0 c0 h=>wSl 1 h (fun x1 l1 c1 h=>wSl 5 h (fun x5 l5 c5 h=>wI 6 h (fun x6 h=>match h with | ⟨I,μ,h0,hr⟩=>(conv (by kernel_rfl) (vc_loopG (c:=sI (sI (sB zqp2_p5))) (τ:=(Tau.upd (Tau.upd (Tau.upd (Tau.upd τ 0 (.slice x0 l0 c0)) 1 (.slice x1 l1 c1)) 5 (.slice x5 l5 c5)) 6 (.int .i64 x6))) [0,1] (fun τ H=>mSl (τ 5) fun x5' l5' c5'=>mI .i64 (τ 6) fun x6'=>I x5' l5' c5' x6' H) (fun τ H=>μ (gL1 (τ 5)) (gL2 (τ 5)) (gL3 (τ 5)) (gI (τ 6)) H) (by kernel_rfl) h0 (fun τ1 H1 hf hI=>uF 0 (.slice x0 l0 c0) (hf 0 (by simp)) (uF 1 (.slice x1 l1 c1) (hf 1 (by simp)) (uSl 5 hI (fun x5r l5r c5r h=>uI 6 h (fun x6r h=>lgx (zqp2_54ok Q E (fun x5' l5' c5' x6' H2=>I x5' l5' c5' x6' H2∧μ x5' l5' c5' x6' H2 < μ x5r l5r c5r x6r H1) (Tau.upd (Tau.upd (Tau.upd (Tau.upd τ1 0 (.slice x0 l0 c0)) 1 (.slice x1 l1 c1)) 5 (.slice x5r l5r c5r)) 6 (.int .i64 x6r)) H1 (conv (by kernel_rfl) (hr x5r l5r c5r x6r H1 h))) (fun τ2 H2 hk=>kSl 5 hk (fun x5' l5' c5' h=>kI 6 h (fun x6' h=>conv (by kernel_rfl) h))))))))))))))
theorem zqp2_57ok :Ok Pr (zqp2_55_M Q E) (sB zqp2_p5) (zqp2_q2 Q E) E:=fun τ H h =>
  (conv (by kernel_rfl) (zqp2_56ok Q E τ H h))
noncomputable def zqp2_q24 :XT:=(xthen (zqp2_55_M Q E) (zqp2_q2 Q E))
def zqp2_58 (Q:QT) (E:ET) (x0:OA) (l0 c0:Nat) (x1:OA) (l1 c1:Nat) (x5:OA) (l5 c5:Nat) (H:Heap):Prop :=
 zqp2_55 Q E x0 l0 c0 x1 l1 c1 x5 l5 c5 0 H
def zqp2_58_M:Prop:=mSl (τ 0) fun x0 l0 c0=>mSl (τ 1) fun x1 l1 c1=>mSl (τ 5) fun x5 l5 c5=>zqp2_58 Q E x0 l0 c0 x1 l1 c1 x5 l5 c5 H
theorem zqp2_59ok :Ok Pr (zqp2_58_M Q E) (sA zqp2_p5) (zqp2_q24 Q E) E:=fun τ H h =>
  wSl 0 h (fun x0 l0 c0 h=>wSl 1 h (fun x1 l1 c1 h=>wSl 5 h (fun x5 l5 c5 h=>(conv (by kernel_rfl) h))))
theorem zqp2_60ok :Ok Pr (zqp2_58_M Q E) zqp2_p5 (zqp2_q2 Q E) E:=fun τ H h =>
  (conv (by kernel_rfl) (vc_seq (K:=(zqp2_55_M Q E)) (zqp2_59ok Q E τ H h) (zqp2_57ok Q E)))
theorem zqp2_61ok :Ok Pr (zqp2_58_M Q E) (sB (sB zqp2_p1)) (zqp2_q1 Q E) E:=fun τ H h =>
  (conv (by kernel_rfl) (vc_seq (K:=(zqp2_1_M Q E)) (zqp2_60ok Q E τ H h) (zqp2_2ok Q E)))
noncomputable def zqp2_q25 :XT:=(xthen (zqp2_58_M Q E) (zqp2_q1 Q E))
def zqp2_62 (Q:QT) (E:ET) (x0:OA) (l0 c0:Nat) (x1:OA) (l1 c1:Nat) (H:Heap):Prop :=
 (0≤((l0:Int):Int)∧((l0:Int):Int)≤(l0:Int)∧((l0:Int):Int)≤281474976710656∧((1:Nat):Int) * (l0:Int)≤281474976710656)∧nw (.cells (rep ((l0:Int):Int).toNat [(.bool false)]).toArray 4 (0,0)) H fun i202 H203 =>
 zqp2_58 Q E x0 l0 c0 x1 l1 c1 (some ⟨i202,0,none⟩) (((l0:Int):Int).toNat) (((l0:Int):Int).toNat) H203
def zqp2_62_M:Prop:=mSl (τ 0) fun x0 l0 c0=>mSl (τ 1) fun x1 l1 c1=>zqp2_62 Q E x0 l0 c0 x1 l1 c1 H
theorem zqp2_63ok :Ok Pr (zqp2_62_M Q E) (sA (sB zqp2_p1)) (zqp2_q25 Q E) E:=fun τ H h =>
  wSl 0 h (fun x0 l0 c0 h=>wSl 1 h (fun x1 l1 c1 h=>(conv (by kernel_rfl) h)))
theorem zqp2_64ok :Ok Pr (zqp2_62_M Q E) (sB zqp2_p1) (zqp2_q1 Q E) E:=fun τ H h =>
  (conv (by kernel_rfl) (vc_seq (K:=(zqp2_58_M Q E)) (zqp2_63ok Q E τ H h) (zqp2_61ok Q E)))
noncomputable def zqp2_q26 :XT:=(xthen (zqp2_62_M Q E) (zqp2_q1 Q E))
def zqp2_65 (Q:QT) (E:ET) (x0:OA) (l0 c0:Nat) (x1:OA) (l1 c1:Nat) (H:Heap):Prop :=
 Does Pr 34 #[(.slice x0 l0 c0)] H (fun v204 H205 =>
 ∃ b206:Bool,v204=(.bool b206)∧sel (!b206)
 (Q (.int .i64 (-1)) H205)
 (zqp2_62 Q E x0 l0 c0 x1 l1 c1 H205)) E
def zqp2_65_M:Prop:=mSl (τ 0) fun x0 l0 c0=>mSl (τ 1) fun x1 l1 c1=>zqp2_65 Q E x0 l0 c0 x1 l1 c1 H
theorem zqp2_66ok :Ok Pr (zqp2_65_M Q E) (sA zqp2_p1) (zqp2_q26 Q E) E:=fun τ H h =>
  wSl 0 h (fun x0 l0 c0 h=>wSl 1 h (fun x1 l1 c1 h=>(conv (by kernel_rfl) h)))
theorem zqp2_67ok :Ok Pr (zqp2_65_M Q E) zqp2_p1 (zqp2_q1 Q E) E:=fun τ H h =>
  (conv (by kernel_rfl) (vc_seq (K:=(zqp2_62_M Q E)) (zqp2_66ok Q E τ H h) (zqp2_64ok Q E)))
def zqp2 (Q:QT) (E:ET) (a0:OA) (a0l:Nat) (a0c:Nat) (a1:OA) (a1l:Nat) (a1c:Nat) (H:Heap):Prop :=
 zqp2_65 Q E a0 a0l a0c a1 a1l a1c H
theorem zqp2_fn (a0:OA) (a0l:Nat) (a0c:Nat) (a1:OA) (a1l:Nat) (a1c:Nat) (Q:QT) (E:ET) (H:Heap) (h:zqp2 Q E a0 a0l a0c a1 a1l a1c H)  :Does Pr 39 #[(.slice a0 a0l a0c),(.slice a1 a1l a1c)] H Q E :=
  Fn_of_vc (fn:=Try.f39) (c:=(bodyOf Try.f39)) (args:=[(.slice a0 a0l a0c),(.slice a1 a1l a1c)]) mixed (by kernel_rfl) (by kernel_rfl) (by kernel_rfl) (by kernel_rfl) (by kernel_rfl) ((conv (B:=vc Pr (bodyOf Try.f39) (argT [(.slice a0 a0l a0c),(.slice a1 a1l a1c)]) (zqp2_q1 Q E) E H) (by kernel_rfl) (vc_seq (K:=(zqp2_65_M Q E)) (conv (B:=vc Pr (sA (bodyOf Try.f39)) (argT [(.slice a0 a0l a0c),(.slice a1 a1l a1c)]) (xthen (zqp2_65_M Q E) (zqp2_q1 Q E)) E H) (by kernel_rfl) h) (zqp2_67ok Q E))))
noncomputable def zqq2_q1 (Q:QT) (E:ET) :XT:=(retQ Pr (Try.f63).results.toList Q)
noncomputable def zqq2_p1:Code:=sB (bodyOf Try.f63)
def zqq2_1 (Q:QT) (E:ET) (x0:OA) (l0 c0:Nat) (x2:Int) (x7:OA) (H:Heap):Prop :=
 ptr x7 fun q99 =>
 ldI .i64 (Addr.add q99 1) H fun n100 =>
 Does Pr 63 #[(.slice x0 l0 c0),(.int .i64 n100),(.int .i64 (IntKind.wrap .i64 (x2+1)))] H (fun v101 H102 =>
 ∃ (p103:OA) (l104 c105:Nat),v101=(.slice p103 l104 c105)∧nw (.cells #[(.int .i64 2),(.int .i64 (IntKind.wrap .i64 (x2+1))),(.int .i64 (IntKind.wrap .i64 ((IntKind.wrap .i64 (x2+1))+(l104:Int)))),(.int .u64 0),(.int .u64 0),(.int .u64 0),(.int .u64 0)] 91 (0,0)) H102 fun i106 H107 =>
 app Pr 50 (some ⟨i106,0,none⟩) 1 1 (.slice p103 l104 c105) H107 fun p108 l109 c110 H111 =>
 Q (.slice p108 l109 c110) H111) E
def zqq2_1_M:Prop:=mSl (τ 0) fun x0 l0 c0=>mI .i64 (τ 2) fun x2=>mP (τ 7) fun x7=>zqq2_1 Q E x0 l0 c0 x2 x7 H
theorem zqq2_2ok :Ok Pr (zqq2_1_M Q E) (sB (sB zqq2_p1)) (zqq2_q1 Q E) E:=fun τ H h =>
  wSl 0 h (fun x0 l0 c0 h=>wI 2 h (fun x2 h=>wP 7 h (fun x7 h=>(conv (by kernel_rfl) h))))
noncomputable def zqq2_q2 :XT:=(xthen (zqq2_1_M Q E) (zqq2_q1 Q E))
def zqq2_3 (Q:QT) (E:ET) (x0:OA) (l0 c0:Nat) (x2:Int) (x7:OA) (H:Heap):Prop :=
 ptr x7 fun q112 =>
 ldI .i64 q112 H fun n113 =>
 sel (n113 == 2)
 (ptr x7 fun q114 =>
 ∃ n115 n116 n117 n118:Int,Heap.rd H (Addr.add q114 3) 0 [(.int .u64 n115),(.int .u64 n116),(.int .u64 n117),(.int .u64 n118)]∧nw (.cells #[(.int .i64 1),(.int .i64 (IntKind.wrap .i64 (x2+1))),(.int .i64 0),(.int .u64 n115),(.int .u64 n116),(.int .u64 n117),(.int .u64 n118)] 91 (0,0)) H fun i119 H120 =>
 Q (.slice (some ⟨i119,0,none⟩) 1 1) H120)
 (sel (n113 == 8)
 (nw (.cells #[(.int .i64 3),(.int .i64 (IntKind.wrap .i64 (x2+1))),(.int .i64 0),(.int .u64 0),(.int .u64 0),(.int .u64 0),(.int .u64 0)] 91 (0,0)) H fun i121 H122 =>
 Q (.slice (some ⟨i121,0,none⟩) 1 1) H122)
 (sel (n113 == 9)
 (nw (.cells #[(.int .i64 4),(.int .i64 (IntKind.wrap .i64 (x2+1))),(.int .i64 0),(.int .u64 0),(.int .u64 0),(.int .u64 0),(.int .u64 0)] 91 (0,0)) H fun i123 H124 =>
 Q (.slice (some ⟨i123,0,none⟩) 1 1) H124)
 (sel (n113 == 1)
 (nw (.cells #[(.int .i64 2),(.int .i64 (IntKind.wrap .i64 (x2+1))),(.int .i64 (IntKind.wrap .i64 (x2+1))),(.int .u64 0),(.int .u64 0),(.int .u64 0),(.int .u64 0)] 91 (0,0)) H fun i125 H126 =>
 Q (.slice (some ⟨i125,0,none⟩) 1 1) H126)
 (sel (n113 == 3)
 (ptr x7 fun q127 =>
 ldI .i64 (Addr.add q127 1) H fun n128 =>
 Does Pr 63 #[(.slice x0 l0 c0),(.int .i64 n128),(.int .i64 x2)] H (fun v129 H130 =>
 ∃ (p131:OA) (l132 c133:Nat),v129=(.slice p131 l132 c133)∧ptr x7 fun q134 =>
 ldI .i64 (Addr.add q134 2) H130 fun n135 =>
 Does Pr 63 #[(.slice x0 l0 c0),(.int .i64 n135),(.int .i64 (IntKind.wrap .i64 (x2+(l132:Int))))] H130 (fun v136 H137 =>
 ∃ (p138:OA) (l139 c140:Nat),v136=(.slice p138 l139 c140)∧app Pr 50 p131 l132 c133 (.slice p138 l139 c140) H137 fun p141 l142 c143 H144 =>
 Q (.slice p141 l142 c143) H144) E) E)
 (sel (n113 == 4)
 (ptr x7 fun q145 =>
 ldI .i64 (Addr.add q145 1) H fun n146 =>
 Does Pr 63 #[(.slice x0 l0 c0),(.int .i64 n146),(.int .i64 (IntKind.wrap .i64 (x2+1)))] H (fun v147 H148 =>
 ∃ (p149:OA) (l150 c151:Nat),v147=(.slice p149 l150 c151)∧ptr x7 fun q152 =>
 ldI .i64 (Addr.add q152 2) H148 fun n153 =>
 Does Pr 63 #[(.slice x0 l0 c0),(.int .i64 n153),(.int .i64 (IntKind.wrap .i64 ((IntKind.wrap .i64 (x2+2))+(l150:Int))))] H148 (fun v154 H155 =>
 ∃ (p156:OA) (l157 c158:Nat),v154=(.slice p156 l157 c158)∧nw (.cells #[(.int .i64 2),(.int .i64 (IntKind.wrap .i64 (x2+1))),(.int .i64 (IntKind.wrap .i64 ((IntKind.wrap .i64 (x2+2))+(l150:Int)))),(.int .u64 0),(.int .u64 0),(.int .u64 0),(.int .u64 0)] 91 (0,0)) H155 fun i159 H160 =>
 app Pr 50 (some ⟨i159,0,none⟩) 1 1 (.slice p149 l150 c151) H160 fun p161 l162 c163 H164 =>
 nw (.cells #[(.int .i64 2),(.int .i64 (IntKind.wrap .i64 ((IntKind.wrap .i64 ((IntKind.wrap .i64 (x2+2))+(l150:Int)))+(l157:Int)))),(.int .i64 (IntKind.wrap .i64 ((IntKind.wrap .i64 ((IntKind.wrap .i64 (x2+2))+(l150:Int)))+(l157:Int)))),(.int .u64 0),(.int .u64 0),(.int .u64 0),(.int .u64 0)] 91 (0,0)) H164 fun i165 H166 =>
 app Pr 50 p161 l162 c163 (.slice (some ⟨i165,0,none⟩) 1 1) H166 fun p167 l168 c169 H170 =>
 app Pr 50 p167 l168 c169 (.slice p156 l157 c158) H170 fun p171 l172 c173 H174 =>
 Q (.slice p171 l172 c173) H174) E) E)
 (sel (n113 == 5)
 (ptr x7 fun q175 =>
 ldI .i64 (Addr.add q175 1) H fun n176 =>
 Does Pr 63 #[(.slice x0 l0 c0),(.int .i64 n176),(.int .i64 (IntKind.wrap .i64 (x2+1)))] H (fun v177 H178 =>
 ∃ (p179:OA) (l180 c181:Nat),v177=(.slice p179 l180 c181)∧nw (.cells #[(.int .i64 2),(.int .i64 (IntKind.wrap .i64 (x2+1))),(.int .i64 (IntKind.wrap .i64 ((IntKind.wrap .i64 (x2+2))+(l180:Int)))),(.int .u64 0),(.int .u64 0),(.int .u64 0),(.int .u64 0)] 91 (0,0)) H178 fun i182 H183 =>
 app Pr 50 (some ⟨i182,0,none⟩) 1 1 (.slice p179 l180 c181) H183 fun p184 l185 c186 H187 =>
 nw (.cells #[(.int .i64 2),(.int .i64 x2),(.int .i64 x2),(.int .u64 0),(.int .u64 0),(.int .u64 0),(.int .u64 0)] 91 (0,0)) H187 fun i188 H189 =>
 app Pr 50 p184 l185 c186 (.slice (some ⟨i188,0,none⟩) 1 1) H189 fun p190 l191 c192 H193 =>
 Q (.slice p190 l191 c192) H193) E)
 (sel (n113 == 6)
 (ptr x7 fun q194 =>
 ldI .i64 (Addr.add q194 1) H fun n195 =>
 Does Pr 63 #[(.slice x0 l0 c0),(.int .i64 n195),(.int .i64 x2)] H (fun v196 H197 =>
 ∃ (p198:OA) (l199 c200:Nat),v196=(.slice p198 l199 c200)∧nw (.cells #[(.int .i64 2),(.int .i64 x2),(.int .i64 (IntKind.wrap .i64 ((IntKind.wrap .i64 (x2+1))+(l199:Int)))),(.int .u64 0),(.int .u64 0),(.int .u64 0),(.int .u64 0)] 91 (0,0)) H197 fun i201 H202 =>
 app Pr 50 p198 l199 c200 (.slice (some ⟨i201,0,none⟩) 1 1) H202 fun p203 l204 c205 H206 =>
 Q (.slice p203 l204 c205) H206) E)
 (zqq2_1 Q E x0 l0 c0 x2 x7 H))))))))
def zqq2_3_M:Prop:=mSl (τ 0) fun x0 l0 c0=>mI .i64 (τ 2) fun x2=>mP (τ 7) fun x7=>zqq2_3 Q E x0 l0 c0 x2 x7 H
theorem zqq2_4ok :Ok Pr (zqq2_3_M Q E) (sA (sB zqq2_p1)) (zqq2_q2 Q E) E:=fun τ H h =>
  wSl 0 h (fun x0 l0 c0 h=>wI 2 h (fun x2 h=>wP 7 h (fun x7 h=>(conv (by kernel_rfl) h))))
theorem zqq2_5ok :Ok Pr (zqq2_3_M Q E) (sB zqq2_p1) (zqq2_q1 Q E) E:=fun τ H h =>
  (conv (by kernel_rfl) (vc_seq (K:=(zqq2_1_M Q E)) (zqq2_4ok Q E τ H h) (zqq2_2ok Q E)))
noncomputable def zqq2_q3 :XT:=(xthen (zqq2_3_M Q E) (zqq2_q1 Q E))
def zqq2_6 (Q:QT) (E:ET) (x0:OA) (l0 c0:Nat) (x1 x2:Int) (H:Heap):Prop :=
 (0≤x1∧x1 < (l0:Int))∧ptr x0 fun q207 =>
 ∃ n208 n209 n210 n211 n212 n213 n214:Int,Heap.rd H (Addr.add q207 (x1.toNat * 7)) 0 [(.int .i64 n208),(.int .i64 n209),(.int .i64 n210),(.int .u64 n211),(.int .u64 n212),(.int .u64 n213),(.int .u64 n214)]∧nw (.cells #[(.int .i64 0),(.int .i64 0),(.int .i64 0),(.int .u64 0),(.int .u64 0),(.int .u64 0),(.int .u64 0)] 48 (0,0)) H fun i215 H216 =>
 wr ⟨i215,0,none⟩ [(.int .i64 n208),(.int .i64 n209),(.int .i64 n210),(.int .u64 n211),(.int .u64 n212),(.int .u64 n213),(.int .u64 n214)] H216 fun H217 =>
 zqq2_3 Q E x0 l0 c0 x2 (some ⟨i215,0,none⟩) H217
def zqq2_6_M:Prop:=mSl (τ 0) fun x0 l0 c0=>mI .i64 (τ 1) fun x1=>mI .i64 (τ 2) fun x2=>zqq2_6 Q E x0 l0 c0 x1 x2 H
theorem zqq2_7ok :Ok Pr (zqq2_6_M Q E) (sA zqq2_p1) (zqq2_q3 Q E) E:=fun τ H h =>
  wSl 0 h (fun x0 l0 c0 h=>wI 1 h (fun x1 h=>wI 2 h (fun x2 h=>(conv (by kernel_rfl) h))))
theorem zqq2_8ok :Ok Pr (zqq2_6_M Q E) zqq2_p1 (zqq2_q1 Q E) E:=fun τ H h =>
  (conv (by kernel_rfl) (vc_seq (K:=(zqq2_3_M Q E)) (zqq2_7ok Q E τ H h) (zqq2_5ok Q E)))
def zqq2 (Q:QT) (E:ET) (a0:OA) (a0l:Nat) (a0c:Nat) (a1:Int) (a2:Int) (H:Heap):Prop :=
 zqq2_6 Q E a0 a0l a0c a1 a2 H
theorem zqq2_fn (a0:OA) (a0l:Nat) (a0c:Nat) (a1:Int) (a2:Int) (Q:QT) (E:ET) (H:Heap) (h:zqq2 Q E a0 a0l a0c a1 a2 H)  :Does Pr 63 #[(.slice a0 a0l a0c),(.int .i64 a1),(.int .i64 a2)] H Q E :=
  Fn_of_vc (fn:=Try.f63) (c:=(bodyOf Try.f63)) (args:=[(.slice a0 a0l a0c),(.int .i64 a1),(.int .i64 a2)]) mixed (by kernel_rfl) (by kernel_rfl) (by kernel_rfl) (by kernel_rfl) (by kernel_rfl) ((conv (B:=vc Pr (bodyOf Try.f63) (argT [(.slice a0 a0l a0c),(.int .i64 a1),(.int .i64 a2)]) (zqq2_q1 Q E) E H) (by kernel_rfl) (vc_seq (K:=(zqq2_6_M Q E)) (conv (B:=vc Pr (sA (bodyOf Try.f63)) (argT [(.slice a0 a0l a0c),(.int .i64 a1),(.int .i64 a2)]) (xthen (zqq2_6_M Q E) (zqq2_q1 Q E)) E H) (by kernel_rfl) h) (zqq2_8ok Q E))))
noncomputable def zqr2_q1 (Q:QT) (E:ET) :XT:=(retQ Pr (Try.f71).results.toList Q)
def zqr2_1 (Q:QT) (E:ET)  (H:Heap):Prop :=
 Q (.bool false) H
def zqr2_1_M  (τ:Tau) (H:Heap):Prop:=zqr2_1 Q E  H
theorem zqr2_2ok :Ok Pr (zqr2_1_M Q E) (sB (sB (bodyOf Try.f71))) (zqr2_q1 Q E) E:=fun τ H h =>
  (conv (by kernel_rfl) h)
noncomputable def zqr2_q2 :XT:=(xthen (zqr2_1_M Q E) (zqr2_q1 Q E))
noncomputable def zqr2_p4:Code:=sB (sA (sB (bodyOf Try.f71)))
noncomputable def zqr2_q4 (nx5:Int→HP):XT:=(xthen (fun τ H=>mI .i64 (τ 5) fun x5'=>nx5 x5' H) (xblock 0 (zqr2_q2 Q E)))
noncomputable def zqr2_p7:Code:=sB (sI (sI zqr2_p4))
def zqr2_3 (nx5:Int→HP) (Q:QT) (E:ET) (x0:OA) (l0 c0:Nat) (x1:OA) (l1 c1:Nat) (x5:Int) (H:Heap):Prop :=
 nx5 (IntKind.wrap .i64 (x5+1)) H
def zqr2_3_M (nx5:Int→HP) (τ:Tau) (H:Heap):Prop:=mSl (τ 0) fun x0 l0 c0=>mSl (τ 1) fun x1 l1 c1=>mI .i64 (τ 5) fun x5=>zqr2_3 nx5 Q E x0 l0 c0 x1 l1 c1 x5 H
theorem zqr2_4ok (nx5:Int→HP):Ok Pr (zqr2_3_M Q E nx5) (sB zqr2_p7) (zqr2_q4 Q E nx5) E:=fun τ H h =>
  wSl 0 h (fun x0 l0 c0 h=>wSl 1 h (fun x1 l1 c1 h=>wI 5 h (fun x5 h=>(conv (by kernel_rfl) h))))
noncomputable def zqr2_q5 (nx5:Int→HP):XT:=(xthen (zqr2_3_M Q E nx5) (zqr2_q4 Q E nx5))
def zqr2_5 (nx5:Int→HP) (Q:QT) (E:ET) (x0:OA) (l0 c0:Nat) (x1:OA) (l1 c1:Nat) (x5:Int) (x23:Bool) (H:Heap):Prop :=
 sel x23
 (Q (.bool true) H)
 (zqr2_3 nx5 Q E x0 l0 c0 x1 l1 c1 x5 H)
def zqr2_5_M (nx5:Int→HP) (τ:Tau) (H:Heap):Prop:=mSl (τ 0) fun x0 l0 c0=>mSl (τ 1) fun x1 l1 c1=>mI .i64 (τ 5) fun x5=>mB (τ 23) fun x23=>zqr2_5 nx5 Q E x0 l0 c0 x1 l1 c1 x5 x23 H
theorem zqr2_6ok (nx5:Int→HP):Ok Pr (zqr2_5_M Q E nx5) (sB (sI (sA zqr2_p7))) (xblock 1 (zqr2_q5 Q E nx5)) E:=fun τ H h =>
  wSl 0 h (fun x0 l0 c0 h=>wSl 1 h (fun x1 l1 c1 h=>wI 5 h (fun x5 h=>wB 23 h (fun x23 h=>(conv (by kernel_rfl) h)))))
noncomputable def zqr2_q7 (nx5:Int→HP):XT:=(xthen (zqr2_5_M Q E nx5) (xblock 1 (zqr2_q5 Q E nx5)))
def zqr2_7 (nx5:Int→HP) (Q:QT) (E:ET) (x0:OA) (l0 c0:Nat) (x1:OA) (l1 c1:Nat) (x5:Int) (H:Heap):Prop :=
 (0≤x5∧x5 < (l1:Int))∧ptr x1 fun q14 =>
 ldB (Addr.add q14 (x5.toNat * 1)) H fun b15 =>
 sel b15
 ((0≤x5∧x5 < (l0:Int))∧ptr x0 fun q16 =>
 ldI .i64 (Addr.add q16 (x5.toNat * 7)) H fun n17 =>
 zqr2_5 nx5 Q E x0 l0 c0 x1 l1 c1 x5 (n17 == 5) H)
 (zqr2_5 nx5 Q E x0 l0 c0 x1 l1 c1 x5 false H)
def zqr2_7_M (nx5:Int→HP) (τ:Tau) (H:Heap):Prop:=mSl (τ 0) fun x0 l0 c0=>mSl (τ 1) fun x1 l1 c1=>mI .i64 (τ 5) fun x5=>zqr2_7 nx5 Q E x0 l0 c0 x1 l1 c1 x5 H
theorem zqr2_8ok (nx5:Int→HP):Ok Pr (zqr2_7_M Q E nx5) (sA (sI (sA zqr2_p7))) (zqr2_q7 Q E nx5) E:=fun τ H h =>
  wSl 0 h (fun x0 l0 c0 h=>wSl 1 h (fun x1 l1 c1 h=>wI 5 h (fun x5 h=>(conv (by kernel_rfl) h))))
theorem zqr2_9ok (nx5:Int→HP):Ok Pr (zqr2_7_M Q E nx5) (sI (sA zqr2_p7)) (xblock 1 (zqr2_q5 Q E nx5)) E:=fun τ H h =>
  (conv (by kernel_rfl) (vc_seq (K:=(zqr2_5_M Q E nx5)) (zqr2_8ok Q E nx5 τ H h) (zqr2_6ok Q E nx5)))
theorem zqr2_10ok (nx5:Int→HP):Ok Pr (zqr2_7_M Q E nx5) (sA zqr2_p7) (zqr2_q5 Q E nx5) E:=fun τ H h =>
  (conv (by kernel_rfl) (zqr2_9ok Q E nx5 τ H h))
theorem zqr2_11ok (nx5:Int→HP):Ok Pr (zqr2_7_M Q E nx5) zqr2_p7 (zqr2_q4 Q E nx5) E:=fun τ H h =>
  (conv (by kernel_rfl) (vc_seq (K:=(zqr2_3_M Q E nx5)) (zqr2_10ok Q E nx5 τ H h) (zqr2_4ok Q E nx5)))
noncomputable def zqr2_q8 (nx5:Int→HP):XT:=(xthen (zqr2_7_M Q E nx5) (zqr2_q4 Q E nx5))
def zqr2_12 (nx5:Int→HP) (Q:QT) (E:ET) (x0:OA) (l0 c0:Nat) (x1:OA) (l1 c1:Nat) (x5:Int) (H:Heap):Prop :=
 sel (decide (x5 < (l0:Int)))
 (zqr2_7 nx5 Q E x0 l0 c0 x1 l1 c1 x5 H)
 (zqr2_1 Q E  H)
def zqr2_12_M (nx5:Int→HP) (τ:Tau) (H:Heap):Prop:=mSl (τ 0) fun x0 l0 c0=>mSl (τ 1) fun x1 l1 c1=>mI .i64 (τ 5) fun x5=>zqr2_12 nx5 Q E x0 l0 c0 x1 l1 c1 x5 H
theorem zqr2_13ok (nx5:Int→HP):Ok Pr (zqr2_12_M Q E nx5) (sA (sI (sI zqr2_p4))) (zqr2_q8 Q E nx5) E:=fun τ H h =>
  wSl 0 h (fun x0 l0 c0 h=>wSl 1 h (fun x1 l1 c1 h=>wI 5 h (fun x5 h=>(conv (by kernel_rfl) h))))
theorem zqr2_14ok (nx5:Int→HP):Ok Pr (zqr2_12_M Q E nx5) (sI (sI zqr2_p4)) (zqr2_q4 Q E nx5) E:=fun τ H h =>
  (conv (by kernel_rfl) (vc_seq (K:=(zqr2_7_M Q E nx5)) (zqr2_13ok Q E nx5 τ H h) (zqr2_11ok Q E nx5)))
def zqr2_15 (Q:QT) (E:ET) (x0:OA) (l0 c0:Nat) (x1:OA) (l1 c1:Nat) (x5:Int) (H:Heap):Prop :=
 ∃ (I:Int→HP) (μ:Int→Heap→Nat),I x5 H∧∀ (x5:Int) (H:Heap),I x5 H →
 zqr2_12 (fun x5' H1=>I x5' H1∧μ x5' H1 < μ x5 H) Q E x0 l0 c0 x1 l1 c1 x5 H
def zqr2_15_M:Prop:=mSl (τ 0) fun x0 l0 c0=>mSl (τ 1) fun x1 l1 c1=>mI .i64 (τ 5) fun x5=>zqr2_15 Q E x0 l0 c0 x1 l1 c1 x5 H
theorem zqr2_16ok :Ok Pr (zqr2_15_M Q E) (sI zqr2_p4) (xblock 0 (zqr2_q2 Q E)) E:=fun τ H h =>
  wSl 0 h (fun x0 l0 c0 h=>wSl 1 h (fun x1 l1 c1 h=>wI 5 h (fun x5 h=>match h with | ⟨I,μ,h0,hr⟩=>(conv (by kernel_rfl) (vc_loopG (c:=sI (sI zqr2_p4)) (τ:=(Tau.upd (Tau.upd (Tau.upd τ 0 (.slice x0 l0 c0)) 1 (.slice x1 l1 c1)) 5 (.int .i64 x5))) [0,1] (fun τ H=>mI .i64 (τ 5) fun x5'=>I x5' H) (fun τ H=>μ (gI (τ 5)) H) (by kernel_rfl) h0 (fun τ1 H1 hf hI=>uF 0 (.slice x0 l0 c0) (hf 0 (by simp)) (uF 1 (.slice x1 l1 c1) (hf 1 (by simp)) (uI 5 hI (fun x5r h=>lgx (zqr2_14ok Q E (fun x5' H2=>I x5' H2∧μ x5' H2 < μ x5r H1) (Tau.upd (Tau.upd (Tau.upd τ1 0 (.slice x0 l0 c0)) 1 (.slice x1 l1 c1)) 5 (.int .i64 x5r)) H1 (conv (by kernel_rfl) (hr x5r H1 h))) (fun τ2 H2 hk=>kI 5 hk (fun x5' h=>conv (by kernel_rfl) h)))))))))))
theorem zqr2_17ok :Ok Pr (zqr2_15_M Q E) zqr2_p4 (zqr2_q2 Q E) E:=fun τ H h =>
  (conv (by kernel_rfl) (zqr2_16ok Q E τ H h))
noncomputable def zqr2_q9 :XT:=(xthen (zqr2_15_M Q E) (zqr2_q2 Q E))
def zqr2_18 (Q:QT) (E:ET) (x0:OA) (l0 c0:Nat) (x1:OA) (l1 c1:Nat) (H:Heap):Prop :=
 zqr2_15 Q E x0 l0 c0 x1 l1 c1 0 H
def zqr2_18_M:Prop:=mSl (τ 0) fun x0 l0 c0=>mSl (τ 1) fun x1 l1 c1=>zqr2_18 Q E x0 l0 c0 x1 l1 c1 H
theorem zqr2_19ok :Ok Pr (zqr2_18_M Q E) (sA (sA (sB (bodyOf Try.f71)))) (zqr2_q9 Q E) E:=fun τ H h =>
  wSl 0 h (fun x0 l0 c0 h=>wSl 1 h (fun x1 l1 c1 h=>(conv (by kernel_rfl) h)))
theorem zqr2_20ok :Ok Pr (zqr2_18_M Q E) (sA (sB (bodyOf Try.f71))) (zqr2_q2 Q E) E:=fun τ H h =>
  (conv (by kernel_rfl) (vc_seq (K:=(zqr2_15_M Q E)) (zqr2_19ok Q E τ H h) (zqr2_17ok Q E)))
theorem zqr2_21ok :Ok Pr (zqr2_18_M Q E) (sB (bodyOf Try.f71)) (zqr2_q1 Q E) E:=fun τ H h =>
  (conv (by kernel_rfl) (vc_seq (K:=(zqr2_1_M Q E)) (zqr2_20ok Q E τ H h) (zqr2_2ok Q E)))
def zqr2 (Q:QT) (E:ET) (a0:OA) (a0l:Nat) (a0c:Nat) (a1:OA) (a1l:Nat) (a1c:Nat) (H:Heap):Prop :=
 zqr2_18 Q E a0 a0l a0c a1 a1l a1c H
theorem zqr2_fn (a0:OA) (a0l:Nat) (a0c:Nat) (a1:OA) (a1l:Nat) (a1c:Nat) (Q:QT) (E:ET) (H:Heap) (h:zqr2 Q E a0 a0l a0c a1 a1l a1c H)  :Does Pr 71 #[(.slice a0 a0l a0c),(.slice a1 a1l a1c)] H Q E :=
  Fn_of_vc (fn:=Try.f71) (c:=(bodyOf Try.f71)) (args:=[(.slice a0 a0l a0c),(.slice a1 a1l a1c)]) mixed (by kernel_rfl) (by kernel_rfl) (by kernel_rfl) (by kernel_rfl) (by kernel_rfl) ((conv (B:=vc Pr (bodyOf Try.f71) (argT [(.slice a0 a0l a0c),(.slice a1 a1l a1c)]) (zqr2_q1 Q E) E H) (by kernel_rfl) (vc_seq (K:=(zqr2_18_M Q E)) (conv (B:=vc Pr (sA (bodyOf Try.f71)) (argT [(.slice a0 a0l a0c),(.slice a1 a1l a1c)]) (xthen (zqr2_18_M Q E) (zqr2_q1 Q E)) E H) (by kernel_rfl) h) (zqr2_21ok Q E))))
noncomputable def zqs2_q1 (Q:QT) (E:ET) :XT:=(retQ Pr (Try.f72).results.toList Q)
def zqs2_1 (Q:QT) (E:ET) (x9:OA) (l9 c9:Nat) (H:Heap):Prop :=
 Q (.slice x9 l9 c9) H
def zqs2_1_M:Prop:=mSl (τ 9) fun x9 l9 c9=>zqs2_1 Q E x9 l9 c9 H
theorem zqs2_2ok :Ok Pr (zqs2_1_M Q E) (sB (sB (sB (bodyOf Try.f72)))) (zqs2_q1 Q E) E:=fun τ H h =>
  wSl 9 h (fun x9 l9 c9 h=>(conv (by kernel_rfl) h))
noncomputable def zqs2_q2 :XT:=(xthen (zqs2_1_M Q E) (zqs2_q1 Q E))
noncomputable def zqs2_p4:Code:=sA (sB (sB (bodyOf Try.f72)))
noncomputable def zqs2_q3 :XT:=(xblock 0 (zqs2_q2 Q E))
noncomputable def zqs2_q4 (nx39:Bool→HP):XT:=(xthen (fun τ H=>mB (τ 10) fun x10'=>nx39 x10' H) (zqs2_q3 Q E))
noncomputable def zqs2_p7:Code:=sI (sI (sB zqs2_p4))
noncomputable def zqs2_q5 (nx39:Bool→HP):XT:=(xblock 1 (zqs2_q4 Q E nx39))
noncomputable def zqs2_p10:Code:=sB (sI (sB zqs2_p7))
noncomputable def zqs2_q7 (nx39:Bool→HP) (nx40:Bool→Int→HP):XT:=(xthen (fun τ H=>mB (τ 10) fun x10'=>mI .i64 (τ 11) fun x11'=>nx40 x10' x11' H) (xblock 2 (zqs2_q5 Q E nx39)))
noncomputable def zqs2_p13:Code:=sI (sI (sB zqs2_p10))
def zqs2_3 (nx39:Bool→HP) (nx40:Bool→Int→HP) (Q:QT) (E:ET) (x0:OA) (l0 c0:Nat) (x2 x3:Bool) (x9:OA) (l9 c9:Nat) (x10:Bool) (x11:Int) (H:Heap):Prop :=
 nx40 x10 (IntKind.wrap .i64 (x11+1)) H
def zqs2_3_M (nx39:Bool→HP) (nx40:Bool→Int→HP) (τ:Tau) (H:Heap):Prop:=mSl (τ 0) fun x0 l0 c0=>mB (τ 2) fun x2=>mB (τ 3) fun x3=>mSl (τ 9) fun x9 l9 c9=>mB (τ 10) fun x10=>mI .i64 (τ 11) fun x11=>zqs2_3 nx39 nx40 Q E x0 l0 c0 x2 x3 x9 l9 c9 x10 x11 H
theorem zqs2_4ok (nx39:Bool→HP) (nx40:Bool→Int→HP):Ok Pr (zqs2_3_M Q E nx39 nx40) (sB (sB zqs2_p13)) (zqs2_q7 Q E nx39 nx40) E:=fun τ H h =>
  wSl 0 h (fun x0 l0 c0 h=>wB 2 h (fun x2 h=>wB 3 h (fun x3 h=>wSl 9 h (fun x9 l9 c9 h=>wB 10 h (fun x10 h=>wI 11 h (fun x11 h=>(conv (by kernel_rfl) h)))))))
noncomputable def zqs2_q9 (nx39:Bool→HP) (nx40:Bool→Int→HP):XT:=(xblock 3 (xthen (zqs2_3_M Q E nx39 nx40) (zqs2_q7 Q E nx39 nx40)))
noncomputable def zqs2_p17:Code:=sI (sA (sB zqs2_p13))
noncomputable def zqs2_p20:Code:=sB (sB (sB zqs2_p17))
def zqs2_5 (nx39:Bool→HP) (nx40:Bool→Int→HP) (Q:QT) (E:ET) (x0:OA) (l0 c0:Nat) (x2 x3:Bool) (x9:OA) (l9 c9:Nat) (x10:Bool) (x11:Int) (x79:Bool) (H:Heap):Prop :=
 sel x79
 ((0≤x11∧x11 < (l0:Int))∧ptr x0 fun q101 =>
 ldI .i64 (Addr.add (Addr.add q101 (x11.toNat * 7)) 2) H fun n102 =>
 (0≤n102∧n102 < (l9:Int))∧ptr x9 fun q103 =>
 wr (Addr.add q103 (n102.toNat * 1)) [(.bool true)] H fun H104 =>
 zqs2_3 nx39 nx40 Q E x0 l0 c0 x2 x3 x9 l9 c9 true x11 H104)
 (zqs2_3 nx39 nx40 Q E x0 l0 c0 x2 x3 x9 l9 c9 x10 x11 H)
def zqs2_5_M (nx39:Bool→HP) (nx40:Bool→Int→HP) (τ:Tau) (H:Heap):Prop:=mSl (τ 0) fun x0 l0 c0=>mB (τ 2) fun x2=>mB (τ 3) fun x3=>mSl (τ 9) fun x9 l9 c9=>mB (τ 10) fun x10=>mI .i64 (τ 11) fun x11=>mB (τ 79) fun x79=>zqs2_5 nx39 nx40 Q E x0 l0 c0 x2 x3 x9 l9 c9 x10 x11 x79 H
theorem zqs2_6ok (nx39:Bool→HP) (nx40:Bool→Int→HP):Ok Pr (zqs2_5_M Q E nx39 nx40) (sB zqs2_p20) (zqs2_q9 Q E nx39 nx40) E:=fun τ H h =>
  wSl 0 h (fun x0 l0 c0 h=>wB 2 h (fun x2 h=>wB 3 h (fun x3 h=>wSl 9 h (fun x9 l9 c9 h=>wB 10 h (fun x10 h=>wI 11 h (fun x11 h=>wB 79 h (fun x79 h=>(conv (by kernel_rfl) h))))))))
noncomputable def zqs2_q10 (nx39:Bool→HP) (nx40:Bool→Int→HP):XT:=(xthen (zqs2_5_M Q E nx39 nx40) (zqs2_q9 Q E nx39 nx40))
def zqs2_7 (nx39:Bool→HP) (nx40:Bool→Int→HP) (Q:QT) (E:ET) (x0:OA) (l0 c0:Nat) (x2 x3:Bool) (x9:OA) (l9 c9:Nat) (x10:Bool) (x11 x12:Int) (H:Heap):Prop :=
 sel (x12 == 2)
 ((0≤x11∧x11 < (l0:Int))∧ptr x0 fun q105 =>
 ldI .i64 (Addr.add (Addr.add q105 (x11.toNat * 7)) 2) H fun n106 =>
 (0≤n106∧n106 < (l9:Int))∧ptr x9 fun q107 =>
 ldB (Addr.add q107 (n106.toNat * 1)) H fun b108 =>
 zqs2_5 nx39 nx40 Q E x0 l0 c0 x2 x3 x9 l9 c9 x10 x11 (!b108) H)
 (zqs2_5 nx39 nx40 Q E x0 l0 c0 x2 x3 x9 l9 c9 x10 x11 false H)
def zqs2_7_M (nx39:Bool→HP) (nx40:Bool→Int→HP) (τ:Tau) (H:Heap):Prop:=mSl (τ 0) fun x0 l0 c0=>mB (τ 2) fun x2=>mB (τ 3) fun x3=>mSl (τ 9) fun x9 l9 c9=>mB (τ 10) fun x10=>mI .i64 (τ 11) fun x11=>mI .i64 (τ 12) fun x12=>zqs2_7 nx39 nx40 Q E x0 l0 c0 x2 x3 x9 l9 c9 x10 x11 x12 H
theorem zqs2_8ok (nx39:Bool→HP) (nx40:Bool→Int→HP):Ok Pr (zqs2_7_M Q E nx39 nx40) (sA zqs2_p20) (zqs2_q10 Q E nx39 nx40) E:=fun τ H h =>
  wSl 0 h (fun x0 l0 c0 h=>wB 2 h (fun x2 h=>wB 3 h (fun x3 h=>wSl 9 h (fun x9 l9 c9 h=>wB 10 h (fun x10 h=>wI 11 h (fun x11 h=>wI 12 h (fun x12 h=>(conv (by kernel_rfl) h))))))))
theorem zqs2_9ok (nx39:Bool→HP) (nx40:Bool→Int→HP):Ok Pr (zqs2_7_M Q E nx39 nx40) zqs2_p20 (zqs2_q9 Q E nx39 nx40) E:=fun τ H h =>
  (conv (by kernel_rfl) (vc_seq (K:=(zqs2_5_M Q E nx39 nx40)) (zqs2_8ok Q E nx39 nx40 τ H h) (zqs2_6ok Q E nx39 nx40)))
noncomputable def zqs2_q11 (nx39:Bool→HP) (nx40:Bool→Int→HP):XT:=(xthen (zqs2_7_M Q E nx39 nx40) (zqs2_q9 Q E nx39 nx40))
noncomputable def zqs2_p23:Code:=sA (sB (sB zqs2_p17))
def zqs2_10 (nx39:Bool→HP) (nx40:Bool→Int→HP) (Q:QT) (E:ET) (x0:OA) (l0 c0:Nat) (x2 x3:Bool) (x9:OA) (l9 c9:Nat) (x10:Bool) (x11 x12:Int) (x59:Bool) (H:Heap):Prop :=
 sel x59
 ((0≤x11∧x11 < (l0:Int))∧ptr x0 fun q125 =>
 ldI .i64 (Addr.add (Addr.add q125 (x11.toNat * 7)) 1) H fun n126 =>
 (0≤n126∧n126 < (l9:Int))∧ptr x9 fun q127 =>
 wr (Addr.add q127 (n126.toNat * 1)) [(.bool true)] H fun H128 =>
 zqs2_7 nx39 nx40 Q E x0 l0 c0 x2 x3 x9 l9 c9 true x11 x12 H128)
 (zqs2_7 nx39 nx40 Q E x0 l0 c0 x2 x3 x9 l9 c9 x10 x11 x12 H)
def zqs2_10_M (nx39:Bool→HP) (nx40:Bool→Int→HP) (τ:Tau) (H:Heap):Prop:=mSl (τ 0) fun x0 l0 c0=>mB (τ 2) fun x2=>mB (τ 3) fun x3=>mSl (τ 9) fun x9 l9 c9=>mB (τ 10) fun x10=>mI .i64 (τ 11) fun x11=>mI .i64 (τ 12) fun x12=>mB (τ 59) fun x59=>zqs2_10 nx39 nx40 Q E x0 l0 c0 x2 x3 x9 l9 c9 x10 x11 x12 x59 H
theorem zqs2_11ok (nx39:Bool→HP) (nx40:Bool→Int→HP):Ok Pr (zqs2_10_M Q E nx39 nx40) (sB zqs2_p23) (zqs2_q11 Q E nx39 nx40) E:=fun τ H h =>
  wSl 0 h (fun x0 l0 c0 h=>wB 2 h (fun x2 h=>wB 3 h (fun x3 h=>wSl 9 h (fun x9 l9 c9 h=>wB 10 h (fun x10 h=>wI 11 h (fun x11 h=>wI 12 h (fun x12 h=>wB 59 h (fun x59 h=>(conv (by kernel_rfl) h)))))))))
noncomputable def zqs2_q12 (nx39:Bool→HP) (nx40:Bool→Int→HP):XT:=(xthen (zqs2_10_M Q E nx39 nx40) (zqs2_q11 Q E nx39 nx40))
def zqs2_12 (nx39:Bool→HP) (nx40:Bool→Int→HP) (Q:QT) (E:ET) (x0:OA) (l0 c0:Nat) (x2 x3:Bool) (x9:OA) (l9 c9:Nat) (x10:Bool) (x11 x12:Int) (H:Heap):Prop :=
 sel (x12 == 2)
 ((0≤x11∧x11 < (l0:Int))∧ptr x0 fun q129 =>
 ldI .i64 (Addr.add (Addr.add q129 (x11.toNat * 7)) 1) H fun n130 =>
 (0≤n130∧n130 < (l9:Int))∧ptr x9 fun q131 =>
 ldB (Addr.add q131 (n130.toNat * 1)) H fun b132 =>
 zqs2_10 nx39 nx40 Q E x0 l0 c0 x2 x3 x9 l9 c9 x10 x11 x12 (!b132) H)
 (sel (x12 == 3)
 (sel x2
 ((0≤x11∧x11 < (l0:Int))∧ptr x0 fun q133 =>
 ldI .i64 (Addr.add (Addr.add q133 (x11.toNat * 7)) 1) H fun n134 =>
 (0≤n134∧n134 < (l9:Int))∧ptr x9 fun q135 =>
 ldB (Addr.add q135 (n134.toNat * 1)) H fun b136 =>
 zqs2_10 nx39 nx40 Q E x0 l0 c0 x2 x3 x9 l9 c9 x10 x11 x12 (!b136) H)
 (sel (x12 == 4)
 (sel x3
 ((0≤x11∧x11 < (l0:Int))∧ptr x0 fun q137 =>
 ldI .i64 (Addr.add (Addr.add q137 (x11.toNat * 7)) 1) H fun n138 =>
 (0≤n138∧n138 < (l9:Int))∧ptr x9 fun q139 =>
 ldB (Addr.add q139 (n138.toNat * 1)) H fun b140 =>
 zqs2_10 nx39 nx40 Q E x0 l0 c0 x2 x3 x9 l9 c9 x10 x11 x12 (!b140) H)
 (zqs2_10 nx39 nx40 Q E x0 l0 c0 x2 x3 x9 l9 c9 x10 x11 x12 false H))
 (zqs2_10 nx39 nx40 Q E x0 l0 c0 x2 x3 x9 l9 c9 x10 x11 x12 false H)))
 (sel (x12 == 4)
 (sel x3
 ((0≤x11∧x11 < (l0:Int))∧ptr x0 fun q141 =>
 ldI .i64 (Addr.add (Addr.add q141 (x11.toNat * 7)) 1) H fun n142 =>
 (0≤n142∧n142 < (l9:Int))∧ptr x9 fun q143 =>
 ldB (Addr.add q143 (n142.toNat * 1)) H fun b144 =>
 zqs2_10 nx39 nx40 Q E x0 l0 c0 x2 x3 x9 l9 c9 x10 x11 x12 (!b144) H)
 (zqs2_10 nx39 nx40 Q E x0 l0 c0 x2 x3 x9 l9 c9 x10 x11 x12 false H))
 (zqs2_10 nx39 nx40 Q E x0 l0 c0 x2 x3 x9 l9 c9 x10 x11 x12 false H)))
def zqs2_12_M (nx39:Bool→HP) (nx40:Bool→Int→HP) (τ:Tau) (H:Heap):Prop:=mSl (τ 0) fun x0 l0 c0=>mB (τ 2) fun x2=>mB (τ 3) fun x3=>mSl (τ 9) fun x9 l9 c9=>mB (τ 10) fun x10=>mI .i64 (τ 11) fun x11=>mI .i64 (τ 12) fun x12=>zqs2_12 nx39 nx40 Q E x0 l0 c0 x2 x3 x9 l9 c9 x10 x11 x12 H
theorem zqs2_13ok (nx39:Bool→HP) (nx40:Bool→Int→HP):Ok Pr (zqs2_12_M Q E nx39 nx40) (sA zqs2_p23) (zqs2_q12 Q E nx39 nx40) E:=fun τ H h =>
  wSl 0 h (fun x0 l0 c0 h=>wB 2 h (fun x2 h=>wB 3 h (fun x3 h=>wSl 9 h (fun x9 l9 c9 h=>wB 10 h (fun x10 h=>wI 11 h (fun x11 h=>wI 12 h (fun x12 h=>(conv (by kernel_rfl) h))))))))
theorem zqs2_14ok (nx39:Bool→HP) (nx40:Bool→Int→HP):Ok Pr (zqs2_12_M Q E nx39 nx40) zqs2_p23 (zqs2_q11 Q E nx39 nx40) E:=fun τ H h =>
  (conv (by kernel_rfl) (vc_seq (K:=(zqs2_10_M Q E nx39 nx40)) (zqs2_13ok Q E nx39 nx40 τ H h) (zqs2_11ok Q E nx39 nx40)))
theorem zqs2_15ok (nx39:Bool→HP) (nx40:Bool→Int→HP):Ok Pr (zqs2_12_M Q E nx39 nx40) (sB (sB zqs2_p17)) (zqs2_q9 Q E nx39 nx40) E:=fun τ H h =>
  (conv (by kernel_rfl) (vc_seq (K:=(zqs2_7_M Q E nx39 nx40)) (zqs2_14ok Q E nx39 nx40 τ H h) (zqs2_9ok Q E nx39 nx40)))
noncomputable def zqs2_q13 (nx39:Bool→HP) (nx40:Bool→Int→HP):XT:=(xthen (zqs2_12_M Q E nx39 nx40) (zqs2_q9 Q E nx39 nx40))
def zqs2_16 (nx39:Bool→HP) (nx40:Bool→Int→HP) (Q:QT) (E:ET) (x0:OA) (l0 c0:Nat) (x2 x3:Bool) (x9:OA) (l9 c9:Nat) (x10:Bool) (x11:Int) (H:Heap):Prop :=
 (0≤x11∧x11 < (l0:Int))∧ptr x0 fun q145 =>
 ldI .i64 (Addr.add q145 (x11.toNat * 7)) H fun n146 =>
 zqs2_12 nx39 nx40 Q E x0 l0 c0 x2 x3 x9 l9 c9 x10 x11 n146 H
def zqs2_16_M (nx39:Bool→HP) (nx40:Bool→Int→HP) (τ:Tau) (H:Heap):Prop:=mSl (τ 0) fun x0 l0 c0=>mB (τ 2) fun x2=>mB (τ 3) fun x3=>mSl (τ 9) fun x9 l9 c9=>mB (τ 10) fun x10=>mI .i64 (τ 11) fun x11=>zqs2_16 nx39 nx40 Q E x0 l0 c0 x2 x3 x9 l9 c9 x10 x11 H
theorem zqs2_17ok (nx39:Bool→HP) (nx40:Bool→Int→HP):Ok Pr (zqs2_16_M Q E nx39 nx40) (sA (sB zqs2_p17)) (zqs2_q13 Q E nx39 nx40) E:=fun τ H h =>
  wSl 0 h (fun x0 l0 c0 h=>wB 2 h (fun x2 h=>wB 3 h (fun x3 h=>wSl 9 h (fun x9 l9 c9 h=>wB 10 h (fun x10 h=>wI 11 h (fun x11 h=>(conv (by kernel_rfl) h)))))))
theorem zqs2_18ok (nx39:Bool→HP) (nx40:Bool→Int→HP):Ok Pr (zqs2_16_M Q E nx39 nx40) (sB zqs2_p17) (zqs2_q9 Q E nx39 nx40) E:=fun τ H h =>
  (conv (by kernel_rfl) (vc_seq (K:=(zqs2_12_M Q E nx39 nx40)) (zqs2_17ok Q E nx39 nx40 τ H h) (zqs2_15ok Q E nx39 nx40)))
noncomputable def zqs2_q14 (nx39:Bool→HP) (nx40:Bool→Int→HP):XT:=(xthen (zqs2_16_M Q E nx39 nx40) (zqs2_q9 Q E nx39 nx40))
def zqs2_19 (nx39:Bool→HP) (nx40:Bool→Int→HP) (Q:QT) (E:ET) (x0:OA) (l0 c0:Nat) (x2 x3:Bool) (x9:OA) (l9 c9:Nat) (x10:Bool) (x11:Int) (H:Heap):Prop :=
 (0≤x11∧x11 < (l9:Int))∧ptr x9 fun q147 =>
 ldB (Addr.add q147 (x11.toNat * 1)) H fun b148 =>
 sel (!b148)
 (zqs2_3 nx39 nx40 Q E x0 l0 c0 x2 x3 x9 l9 c9 x10 x11 H)
 (zqs2_16 nx39 nx40 Q E x0 l0 c0 x2 x3 x9 l9 c9 x10 x11 H)
def zqs2_19_M (nx39:Bool→HP) (nx40:Bool→Int→HP) (τ:Tau) (H:Heap):Prop:=mSl (τ 0) fun x0 l0 c0=>mB (τ 2) fun x2=>mB (τ 3) fun x3=>mSl (τ 9) fun x9 l9 c9=>mB (τ 10) fun x10=>mI .i64 (τ 11) fun x11=>zqs2_19 nx39 nx40 Q E x0 l0 c0 x2 x3 x9 l9 c9 x10 x11 H
theorem zqs2_20ok (nx39:Bool→HP) (nx40:Bool→Int→HP):Ok Pr (zqs2_19_M Q E nx39 nx40) (sA zqs2_p17) (zqs2_q14 Q E nx39 nx40) E:=fun τ H h =>
  wSl 0 h (fun x0 l0 c0 h=>wB 2 h (fun x2 h=>wB 3 h (fun x3 h=>wSl 9 h (fun x9 l9 c9 h=>wB 10 h (fun x10 h=>wI 11 h (fun x11 h=>(conv (by kernel_rfl) h)))))))
theorem zqs2_21ok (nx39:Bool→HP) (nx40:Bool→Int→HP):Ok Pr (zqs2_19_M Q E nx39 nx40) zqs2_p17 (zqs2_q9 Q E nx39 nx40) E:=fun τ H h =>
  (conv (by kernel_rfl) (vc_seq (K:=(zqs2_16_M Q E nx39 nx40)) (zqs2_20ok Q E nx39 nx40 τ H h) (zqs2_18ok Q E nx39 nx40)))
theorem zqs2_22ok (nx39:Bool→HP) (nx40:Bool→Int→HP):Ok Pr (zqs2_19_M Q E nx39 nx40) (sA (sB zqs2_p13)) (xthen (zqs2_3_M Q E nx39 nx40) (zqs2_q7 Q E nx39 nx40)) E:=fun τ H h =>
  (conv (by kernel_rfl) (zqs2_21ok Q E nx39 nx40 τ H h))
theorem zqs2_23ok (nx39:Bool→HP) (nx40:Bool→Int→HP):Ok Pr (zqs2_19_M Q E nx39 nx40) (sB zqs2_p13) (zqs2_q7 Q E nx39 nx40) E:=fun τ H h =>
  (conv (by kernel_rfl) (vc_seq (K:=(zqs2_3_M Q E nx39 nx40)) (zqs2_22ok Q E nx39 nx40 τ H h) (zqs2_4ok Q E nx39 nx40)))
noncomputable def zqs2_q15 (nx39:Bool→HP) (nx40:Bool→Int→HP):XT:=(xthen (zqs2_19_M Q E nx39 nx40) (zqs2_q7 Q E nx39 nx40))
def zqs2_24 (nx39:Bool→HP) (nx40:Bool→Int→HP) (Q:QT) (E:ET) (x0:OA) (l0 c0:Nat) (x2 x3:Bool) (x9:OA) (l9 c9:Nat) (x10:Bool) (x11:Int) (H:Heap):Prop :=
 sel (decide (x11 < (l0:Int)))
 (zqs2_19 nx39 nx40 Q E x0 l0 c0 x2 x3 x9 l9 c9 x10 x11 H)
 (nx39 x10 H)
def zqs2_24_M (nx39:Bool→HP) (nx40:Bool→Int→HP) (τ:Tau) (H:Heap):Prop:=mSl (τ 0) fun x0 l0 c0=>mB (τ 2) fun x2=>mB (τ 3) fun x3=>mSl (τ 9) fun x9 l9 c9=>mB (τ 10) fun x10=>mI .i64 (τ 11) fun x11=>zqs2_24 nx39 nx40 Q E x0 l0 c0 x2 x3 x9 l9 c9 x10 x11 H
theorem zqs2_25ok (nx39:Bool→HP) (nx40:Bool→Int→HP):Ok Pr (zqs2_24_M Q E nx39 nx40) (sA zqs2_p13) (zqs2_q15 Q E nx39 nx40) E:=fun τ H h =>
  wSl 0 h (fun x0 l0 c0 h=>wB 2 h (fun x2 h=>wB 3 h (fun x3 h=>wSl 9 h (fun x9 l9 c9 h=>wB 10 h (fun x10 h=>wI 11 h (fun x11 h=>(conv (by kernel_rfl) h)))))))
theorem zqs2_26ok (nx39:Bool→HP) (nx40:Bool→Int→HP):Ok Pr (zqs2_24_M Q E nx39 nx40) zqs2_p13 (zqs2_q7 Q E nx39 nx40) E:=fun τ H h =>
  (conv (by kernel_rfl) (vc_seq (K:=(zqs2_19_M Q E nx39 nx40)) (zqs2_25ok Q E nx39 nx40 τ H h) (zqs2_23ok Q E nx39 nx40)))
def zqs2_27 (nx39:Bool→HP) (Q:QT) (E:ET) (x0:OA) (l0 c0:Nat) (x2 x3:Bool) (x9:OA) (l9 c9:Nat) (x10:Bool) (x11:Int) (H:Heap):Prop :=
 ∃ (I:Bool→Int→HP) (μ:Bool→Int→Heap→Nat),I x10 x11 H∧∀ (x10:Bool) (x11:Int) (H:Heap),I x10 x11 H →
 zqs2_24 nx39 (fun x10' x11' H1=>I x10' x11' H1∧μ x10' x11' H1 < μ x10 x11 H) Q E x0 l0 c0 x2 x3 x9 l9 c9 x10 x11 H
def zqs2_27_M (nx39:Bool→HP) (τ:Tau) (H:Heap):Prop:=mSl (τ 0) fun x0 l0 c0=>mB (τ 2) fun x2=>mB (τ 3) fun x3=>mSl (τ 9) fun x9 l9 c9=>mB (τ 10) fun x10=>mI .i64 (τ 11) fun x11=>zqs2_27 nx39 Q E x0 l0 c0 x2 x3 x9 l9 c9 x10 x11 H
theorem zqs2_28ok (nx39:Bool→HP):Ok Pr (zqs2_27_M Q E nx39) (sI (sB zqs2_p10)) (xblock 2 (zqs2_q5 Q E nx39)) E:=fun τ H h =>
  wSl 0 h (fun x0 l0 c0 h=>wB 2 h (fun x2 h=>wB 3 h (fun x3 h=>wSl 9 h (fun x9 l9 c9 h=>wB 10 h (fun x10 h=>wI 11 h (fun x11 h=>match h with | ⟨I,μ,h0,hr⟩=>(conv (by kernel_rfl) (vc_loopG (c:=sI (sI (sB zqs2_p10))) (τ:=(Tau.upd (Tau.upd (Tau.upd (Tau.upd (Tau.upd (Tau.upd τ 0 (.slice x0 l0 c0)) 2 (.bool x2)) 3 (.bool x3)) 9 (.slice x9 l9 c9)) 10 (.bool x10)) 11 (.int .i64 x11))) [0,2,3,9] (fun τ H=>mB (τ 10) fun x10'=>mI .i64 (τ 11) fun x11'=>I x10' x11' H) (fun τ H=>μ (gB (τ 10)) (gI (τ 11)) H) (by kernel_rfl) h0 (fun τ1 H1 hf hI=>uF 0 (.slice x0 l0 c0) (hf 0 (by simp)) (uF 2 (.bool x2) (hf 2 (by simp)) (uF 3 (.bool x3) (hf 3 (by simp)) (uF 9 (.slice x9 l9 c9) (hf 9 (by simp)) (uB 10 hI (fun x10r h=>uI 11 h (fun x11r h=>lgx (zqs2_26ok Q E nx39 (fun x10' x11' H2=>I x10' x11' H2∧μ x10' x11' H2 < μ x10r x11r H1) (Tau.upd (Tau.upd (Tau.upd (Tau.upd (Tau.upd (Tau.upd τ1 0 (.slice x0 l0 c0)) 2 (.bool x2)) 3 (.bool x3)) 9 (.slice x9 l9 c9)) 10 (.bool x10r)) 11 (.int .i64 x11r)) H1 (conv (by kernel_rfl) (hr x10r x11r H1 h))) (fun τ2 H2 hk=>kB 10 hk (fun x10' h=>kI 11 h (fun x11' h=>conv (by kernel_rfl) h))))))))))))))))))
theorem zqs2_29ok (nx39:Bool→HP):Ok Pr (zqs2_27_M Q E nx39) (sB zqs2_p10) (zqs2_q5 Q E nx39) E:=fun τ H h =>
  (conv (by kernel_rfl) (zqs2_28ok Q E nx39 τ H h))
noncomputable def zqs2_q16 (nx39:Bool→HP):XT:=(xthen (zqs2_27_M Q E nx39) (zqs2_q5 Q E nx39))
def zqs2_30 (nx39:Bool→HP) (Q:QT) (E:ET) (x0:OA) (l0 c0:Nat) (x2 x3:Bool) (x9:OA) (l9 c9:Nat) (x10:Bool) (H:Heap):Prop :=
 zqs2_27 nx39 Q E x0 l0 c0 x2 x3 x9 l9 c9 x10 0 H
def zqs2_30_M (nx39:Bool→HP) (τ:Tau) (H:Heap):Prop:=mSl (τ 0) fun x0 l0 c0=>mB (τ 2) fun x2=>mB (τ 3) fun x3=>mSl (τ 9) fun x9 l9 c9=>mB (τ 10) fun x10=>zqs2_30 nx39 Q E x0 l0 c0 x2 x3 x9 l9 c9 x10 H
theorem zqs2_31ok (nx39:Bool→HP):Ok Pr (zqs2_30_M Q E nx39) (sA zqs2_p10) (zqs2_q16 Q E nx39) E:=fun τ H h =>
  wSl 0 h (fun x0 l0 c0 h=>wB 2 h (fun x2 h=>wB 3 h (fun x3 h=>wSl 9 h (fun x9 l9 c9 h=>wB 10 h (fun x10 h=>(conv (by kernel_rfl) h))))))
theorem zqs2_32ok (nx39:Bool→HP):Ok Pr (zqs2_30_M Q E nx39) zqs2_p10 (zqs2_q5 Q E nx39) E:=fun τ H h =>
  (conv (by kernel_rfl) (vc_seq (K:=(zqs2_27_M Q E nx39)) (zqs2_31ok Q E nx39 τ H h) (zqs2_29ok Q E nx39)))
noncomputable def zqs2_q17 (nx39:Bool→HP):XT:=(xthen (zqs2_30_M Q E nx39) (zqs2_q5 Q E nx39))
def zqs2_33 (nx39:Bool→HP) (Q:QT) (E:ET) (x0:OA) (l0 c0:Nat) (x2 x3:Bool) (x9:OA) (l9 c9:Nat) (H:Heap):Prop :=
 zqs2_30 nx39 Q E x0 l0 c0 x2 x3 x9 l9 c9 false H
def zqs2_33_M (nx39:Bool→HP) (τ:Tau) (H:Heap):Prop:=mSl (τ 0) fun x0 l0 c0=>mB (τ 2) fun x2=>mB (τ 3) fun x3=>mSl (τ 9) fun x9 l9 c9=>zqs2_33 nx39 Q E x0 l0 c0 x2 x3 x9 l9 c9 H
theorem zqs2_34ok (nx39:Bool→HP):Ok Pr (zqs2_33_M Q E nx39) (sA (sI (sB zqs2_p7))) (zqs2_q17 Q E nx39) E:=fun τ H h =>
  wSl 0 h (fun x0 l0 c0 h=>wB 2 h (fun x2 h=>wB 3 h (fun x3 h=>wSl 9 h (fun x9 l9 c9 h=>(conv (by kernel_rfl) h)))))
theorem zqs2_35ok (nx39:Bool→HP):Ok Pr (zqs2_33_M Q E nx39) (sI (sB zqs2_p7)) (zqs2_q5 Q E nx39) E:=fun τ H h =>
  (conv (by kernel_rfl) (vc_seq (K:=(zqs2_30_M Q E nx39)) (zqs2_34ok Q E nx39 τ H h) (zqs2_32ok Q E nx39)))
theorem zqs2_36ok (nx39:Bool→HP):Ok Pr (zqs2_33_M Q E nx39) (sB zqs2_p7) (zqs2_q4 Q E nx39) E:=fun τ H h =>
  (conv (by kernel_rfl) (zqs2_35ok Q E nx39 τ H h))
noncomputable def zqs2_q18 (nx39:Bool→HP):XT:=(xthen (zqs2_33_M Q E nx39) (zqs2_q4 Q E nx39))
def zqs2_37 (nx39:Bool→HP) (Q:QT) (E:ET) (x0:OA) (l0 c0:Nat) (x2 x3:Bool) (x9:OA) (l9 c9:Nat) (x10:Bool) (H:Heap):Prop :=
 sel x10
 (zqs2_33 nx39 Q E x0 l0 c0 x2 x3 x9 l9 c9 H)
 (zqs2_1 Q E x9 l9 c9 H)
def zqs2_37_M (nx39:Bool→HP) (τ:Tau) (H:Heap):Prop:=mSl (τ 0) fun x0 l0 c0=>mB (τ 2) fun x2=>mB (τ 3) fun x3=>mSl (τ 9) fun x9 l9 c9=>mB (τ 10) fun x10=>zqs2_37 nx39 Q E x0 l0 c0 x2 x3 x9 l9 c9 x10 H
theorem zqs2_38ok (nx39:Bool→HP):Ok Pr (zqs2_37_M Q E nx39) (sA zqs2_p7) (zqs2_q18 Q E nx39) E:=fun τ H h =>
  wSl 0 h (fun x0 l0 c0 h=>wB 2 h (fun x2 h=>wB 3 h (fun x3 h=>wSl 9 h (fun x9 l9 c9 h=>wB 10 h (fun x10 h=>(conv (by kernel_rfl) h))))))
theorem zqs2_39ok (nx39:Bool→HP):Ok Pr (zqs2_37_M Q E nx39) zqs2_p7 (zqs2_q4 Q E nx39) E:=fun τ H h =>
  (conv (by kernel_rfl) (vc_seq (K:=(zqs2_33_M Q E nx39)) (zqs2_38ok Q E nx39 τ H h) (zqs2_36ok Q E nx39)))
def zqs2_40 (Q:QT) (E:ET) (x0:OA) (l0 c0:Nat) (x2 x3:Bool) (x9:OA) (l9 c9:Nat) (x10:Bool) (H:Heap):Prop :=
 ∃ (I:Bool→HP) (μ:Bool→Heap→Nat),I x10 H∧∀ (x10:Bool) (H:Heap),I x10 H →
 zqs2_37 (fun x10' H1=>I x10' H1∧μ x10' H1 < μ x10 H) Q E x0 l0 c0 x2 x3 x9 l9 c9 x10 H
def zqs2_40_M:Prop:=mSl (τ 0) fun x0 l0 c0=>mB (τ 2) fun x2=>mB (τ 3) fun x3=>mSl (τ 9) fun x9 l9 c9=>mB (τ 10) fun x10=>zqs2_40 Q E x0 l0 c0 x2 x3 x9 l9 c9 x10 H
theorem zqs2_41ok :Ok Pr (zqs2_40_M Q E) (sI (sB zqs2_p4)) (zqs2_q3 Q E) E:=fun τ H h =>
  wSl 0 h (fun x0 l0 c0 h=>wB 2 h (fun x2 h=>wB 3 h (fun x3 h=>wSl 9 h (fun x9 l9 c9 h=>wB 10 h (fun x10 h=>match h with | ⟨I,μ,h0,hr⟩=>(conv (by kernel_rfl) (vc_loopG (c:=sI (sI (sB zqs2_p4))) (τ:=(Tau.upd (Tau.upd (Tau.upd (Tau.upd (Tau.upd τ 0 (.slice x0 l0 c0)) 2 (.bool x2)) 3 (.bool x3)) 9 (.slice x9 l9 c9)) 10 (.bool x10))) [0,2,3,9] (fun τ H=>mB (τ 10) fun x10'=>I x10' H) (fun τ H=>μ (gB (τ 10)) H) (by kernel_rfl) h0 (fun τ1 H1 hf hI=>uF 0 (.slice x0 l0 c0) (hf 0 (by simp)) (uF 2 (.bool x2) (hf 2 (by simp)) (uF 3 (.bool x3) (hf 3 (by simp)) (uF 9 (.slice x9 l9 c9) (hf 9 (by simp)) (uB 10 hI (fun x10r h=>lgx (zqs2_39ok Q E (fun x10' H2=>I x10' H2∧μ x10' H2 < μ x10r H1) (Tau.upd (Tau.upd (Tau.upd (Tau.upd (Tau.upd τ1 0 (.slice x0 l0 c0)) 2 (.bool x2)) 3 (.bool x3)) 9 (.slice x9 l9 c9)) 10 (.bool x10r)) H1 (conv (by kernel_rfl) (hr x10r H1 h))) (fun τ2 H2 hk=>kB 10 hk (fun x10' h=>conv (by kernel_rfl) h)))))))))))))))
theorem zqs2_42ok :Ok Pr (zqs2_40_M Q E) (sB zqs2_p4) (zqs2_q2 Q E) E:=fun τ H h =>
  (conv (by kernel_rfl) (zqs2_41ok Q E τ H h))
noncomputable def zqs2_q19 :XT:=(xthen (zqs2_40_M Q E) (zqs2_q2 Q E))
def zqs2_43 (Q:QT) (E:ET) (x0:OA) (l0 c0:Nat) (x2 x3:Bool) (x9:OA) (l9 c9:Nat) (H:Heap):Prop :=
 zqs2_40 Q E x0 l0 c0 x2 x3 x9 l9 c9 true H
def zqs2_43_M:Prop:=mSl (τ 0) fun x0 l0 c0=>mB (τ 2) fun x2=>mB (τ 3) fun x3=>mSl (τ 9) fun x9 l9 c9=>zqs2_43 Q E x0 l0 c0 x2 x3 x9 l9 c9 H
theorem zqs2_44ok :Ok Pr (zqs2_43_M Q E) (sA zqs2_p4) (zqs2_q19 Q E) E:=fun τ H h =>
  wSl 0 h (fun x0 l0 c0 h=>wB 2 h (fun x2 h=>wB 3 h (fun x3 h=>wSl 9 h (fun x9 l9 c9 h=>(conv (by kernel_rfl) h)))))
theorem zqs2_45ok :Ok Pr (zqs2_43_M Q E) zqs2_p4 (zqs2_q2 Q E) E:=fun τ H h =>
  (conv (by kernel_rfl) (vc_seq (K:=(zqs2_40_M Q E)) (zqs2_44ok Q E τ H h) (zqs2_42ok Q E)))
theorem zqs2_46ok :Ok Pr (zqs2_43_M Q E) (sB (sB (bodyOf Try.f72))) (zqs2_q1 Q E) E:=fun τ H h =>
  (conv (by kernel_rfl) (vc_seq (K:=(zqs2_1_M Q E)) (zqs2_45ok Q E τ H h) (zqs2_2ok Q E)))
noncomputable def zqs2_q20 :XT:=(xthen (zqs2_43_M Q E) (zqs2_q1 Q E))
def zqs2_47 (Q:QT) (E:ET) (x0:OA) (l0 c0:Nat) (x1:OA) (l1 c1:Nat) (x2 x3:Bool) (H:Heap):Prop :=
 nw (.cells #[] 4 (0,0)) H fun i149 H150 =>
 app Pr 111 (some ⟨i149,0,none⟩) 0 0 (.slice x1 l1 c1) H150 fun p151 l152 c153 H154 =>
 zqs2_43 Q E x0 l0 c0 x2 x3 p151 l152 c153 H154
def zqs2_47_M:Prop:=mSl (τ 0) fun x0 l0 c0=>mSl (τ 1) fun x1 l1 c1=>mB (τ 2) fun x2=>mB (τ 3) fun x3=>zqs2_47 Q E x0 l0 c0 x1 l1 c1 x2 x3 H
theorem zqs2_48ok :Ok Pr (zqs2_47_M Q E) (sA (sB (bodyOf Try.f72))) (zqs2_q20 Q E) E:=fun τ H h =>
  wSl 0 h (fun x0 l0 c0 h=>wSl 1 h (fun x1 l1 c1 h=>wB 2 h (fun x2 h=>wB 3 h (fun x3 h=>(conv (by kernel_rfl) h)))))
theorem zqs2_49ok :Ok Pr (zqs2_47_M Q E) (sB (bodyOf Try.f72)) (zqs2_q1 Q E) E:=fun τ H h =>
  (conv (by kernel_rfl) (vc_seq (K:=(zqs2_43_M Q E)) (zqs2_48ok Q E τ H h) (zqs2_46ok Q E)))
def zqs2 (Q:QT) (E:ET) (a0:OA) (a0l:Nat) (a0c:Nat) (a1:OA) (a1l:Nat) (a1c:Nat) (a2:Bool) (a3:Bool) (H:Heap):Prop :=
 zqs2_47 Q E a0 a0l a0c a1 a1l a1c a2 a3 H
theorem zqs2_fn (a0:OA) (a0l:Nat) (a0c:Nat) (a1:OA) (a1l:Nat) (a1c:Nat) (a2:Bool) (a3:Bool) (Q:QT) (E:ET) (H:Heap) (h:zqs2 Q E a0 a0l a0c a1 a1l a1c a2 a3 H)  :Does Pr 72 #[(.slice a0 a0l a0c),(.slice a1 a1l a1c),(.bool a2),(.bool a3)] H Q E :=
  Fn_of_vc (fn:=Try.f72) (c:=(bodyOf Try.f72)) (args:=[(.slice a0 a0l a0c),(.slice a1 a1l a1c),(.bool a2),(.bool a3)]) mixed (by kernel_rfl) (by kernel_rfl) (by kernel_rfl) (by kernel_rfl) (by kernel_rfl) ((conv (B:=vc Pr (bodyOf Try.f72) (argT [(.slice a0 a0l a0c),(.slice a1 a1l a1c),(.bool a2),(.bool a3)]) (zqs2_q1 Q E) E H) (by kernel_rfl) (vc_seq (K:=(zqs2_47_M Q E)) (conv (B:=vc Pr (sA (bodyOf Try.f72)) (argT [(.slice a0 a0l a0c),(.slice a1 a1l a1c),(.bool a2),(.bool a3)]) (xthen (zqs2_47_M Q E) (zqs2_q1 Q E)) E H) (by kernel_rfl) h) (zqs2_49ok Q E))))
end Go.Proofs.Ytaffcoiomggpfaa
