import Derived.Test.YtaffcoiomggpfaaVPr
/- Printed by gen.py: the Go functions of package auto over a heap view,and that the model does so. -/
namespace Go.Proofs.Ytaffcoiomggpfaa
open Go.V
set_option linter.unusedVariables false
set_option maxRecDepth 100000
variable (Q:QT) (E:ET) (τ:Tau) (H:Heap)
noncomputable def zqb1_q1 (Q:QT) (E:ET) :XT:=(retQ Pr (Try.f50).results.toList Q)
def zqb1 (Q:QT) (E:ET) (a0:OA) (a0l:Nat) (a0c:Nat) (a1:Bool) (a2:Bool) (H:Heap):Prop :=
 (0≤((a0l:Int):Int)∧((a0l:Int):Int)≤(a0l:Int)∧((a0l:Int):Int)≤281474976710656∧((1:Nat):Int) * (a0l:Int)≤281474976710656)∧nw (.cells (rep ((a0l:Int):Int).toNat [(.bool false)]).toArray 4 (0,0)) H fun i1 H2 =>
 (0≤((a0l:Int):Int)∧((a0l:Int):Int)≤(a0l:Int)∧((a0l:Int):Int)≤281474976710656∧((1:Nat):Int) * (a0l:Int)≤281474976710656)∧nw (.cells (rep ((a0l:Int):Int).toNat [(.bool false)]).toArray 4 (0,0)) H2 fun i3 H4 =>
 nw (.cells #[(.slice a0 a0l a0c),(.slice none 0 0),(.slice (some ⟨i1,0,none⟩) ((a0l:Int):Int).toNat ((a0l:Int):Int).toNat),(.slice none 0 0),(.slice (some ⟨i3,0,none⟩) ((a0l:Int):Int).toNat ((a0l:Int):Int).toNat),(.bool a1),(.bool a2),(.int .i64 0),(.int .i64 (-1))] 127 (0,0)) H4 fun i5 H6 =>
 Does Pr 80 #[(.pointer (some ⟨i5,1,none⟩)),(.int .i64 0)] H6 (fun v7 H8 =>
 Does Pr 81 #[(.pointer (some ⟨i5,0,none⟩)),(.bool false)] H8 (fun v9 H10 =>
 ∃ b11:Bool,v9=(.bool b11)∧Q (.pointer (some ⟨i5,0,none⟩)) H10) E) E
theorem zqb1_fn (a0:OA) (a0l:Nat) (a0c:Nat) (a1:Bool) (a2:Bool) (Q:QT) (E:ET) (H:Heap) (h:zqb1 Q E a0 a0l a0c a1 a2 H)  :Does Pr 50 #[(.slice a0 a0l a0c),(.bool a1),(.bool a2)] H Q E :=
  Fn_of_vc (fn:=Try.f50) (c:=(bodyOf Try.f50)) (args:=[(.slice a0 a0l a0c),(.bool a1),(.bool a2)]) mixed (by kernel_rfl) (by kernel_rfl) (by kernel_rfl) (by kernel_rfl) (by kernel_rfl) ((conv (B:=vc Pr (bodyOf Try.f50) (argT [(.slice a0 a0l a0c),(.bool a1),(.bool a2)]) (zqb1_q1 Q E) E H) (by kernel_rfl) h))
noncomputable def zqc1_q1 (Q:QT) (E:ET) :XT:=(retQ Pr (Try.f51).results.toList Q)
def zqc1 (Q:QT) (E:ET) (a0:OA) (a0l:Nat) (a0c:Nat) (H:Heap):Prop :=
 nw (.cells #[(.slice a0 a0l a0c),(.slice none 0 0)] 132 (0,0)) H fun i1 H2 =>
 Does Pr 82 #[(.pointer (some ⟨i1,0,none⟩)),(.agg #[(.int .i64 2),(.int .i64 0),(.int .i64 0),(.int .u64 0),(.int .u64 0),(.int .u64 0),(.int .u64 0)])] H2 (fun v3 H4 =>
 ∃ n5:Int,v3=(.int .i64 n5)∧Does Pr 82 #[(.pointer (some ⟨i1,0,none⟩)),(.agg #[(.int .i64 5),(.int .i64 0),(.int .i64 0),(.int .u64 0),(.int .u64 0),(.int .u64 0),(.int .u64 0)])] H4 (fun v6 H7 =>
 ∃ n8:Int,v6=(.int .i64 n8)∧Does Pr 83 #[(.pointer (some ⟨i1,0,none⟩)),(.int .i64 (IntKind.wrap .i64 ((a0l:Int) - 1))),(.int .i64 n8)] H7 (fun v9 H10 =>
 ∃ n11:Int,v9=(.int .i64 n11)∧ldSl ⟨i1,1,none⟩ H10 fun p12 l13 c14 =>
 ldSl ⟨i1,1,none⟩ H10 fun p15 l16 c17 =>
 (0≤(0:Int)∧(0:Int) < (l13:Int))∧ptr p12 fun q18 =>
 wr (Addr.add q18 1) [(.int .i64 n11)] H10 fun H19 =>
 (0≤(0:Int)∧(0:Int) < (l16:Int))∧ptr p15 fun q20 =>
 wr (Addr.add q20 2) [(.int .i64 n11)] H19 fun H21 =>
 ldSl ⟨i1,1,none⟩ H21 fun p22 l23 c24 =>
 Q (.slice p22 l23 c24) H21) E) E) E
theorem zqc1_fn (a0:OA) (a0l:Nat) (a0c:Nat) (Q:QT) (E:ET) (H:Heap) (h:zqc1 Q E a0 a0l a0c H)  :Does Pr 51 #[(.slice a0 a0l a0c)] H Q E :=
  Fn_of_vc (fn:=Try.f51) (c:=(bodyOf Try.f51)) (args:=[(.slice a0 a0l a0c)]) mixed (by kernel_rfl) (by kernel_rfl) (by kernel_rfl) (by kernel_rfl) (by kernel_rfl) ((conv (B:=vc Pr (bodyOf Try.f51) (argT [(.slice a0 a0l a0c)]) (zqc1_q1 Q E) E H) (by kernel_rfl) h))
noncomputable def zqd1_q1 (Q:QT) (E:ET) :XT:=(retQ Pr (Try.f52).results.toList Q)
def zqd1_1 (Q:QT) (E:ET) (x0:OA) (H:Heap):Prop :=
 Does Pr 79 #[(.pointer x0)] H (fun v15 H16 =>
 ∃ b17:Bool,v15=(.bool b17)∧Q (.bool b17) H16) E
def zqd1_1_M:Prop:=mP (τ 0) fun x0=>zqd1_1 Q E x0 H
theorem zqd1_2ok :Ok Pr (zqd1_1_M Q E) (sB (sB (bodyOf Try.f52))) (zqd1_q1 Q E) E:=fun τ H h =>
  wP 0 h (fun x0 h=>(conv (by kernel_rfl) h))
noncomputable def zqd1_q2 :XT:=(xthen (zqd1_1_M Q E) (zqd1_q1 Q E))
noncomputable def zqd1_p4:Code:=sB (sA (sB (bodyOf Try.f52)))
noncomputable def zqd1_q4 (nx18:Int→HP):XT:=(xthen (fun τ H=>mI .i64 (τ 9) fun x9'=>nx18 x9' H) (xblock 0 (zqd1_q2 Q E)))
noncomputable def zqd1_p7:Code:=sB (sI (sI zqd1_p4))
def zqd1_3 (nx18:Int→HP) (Q:QT) (E:ET) (x0 x7:OA) (l7 c7:Nat) (x8 x9:Int) (H:Heap):Prop :=
 nx18 (IntKind.wrap .i64 (x9+1)) H
def zqd1_3_M (nx18:Int→HP) (τ:Tau) (H:Heap):Prop:=mP (τ 0) fun x0=>mSl (τ 7) fun x7 l7 c7=>mI .i64 (τ 8) fun x8=>mI .i64 (τ 9) fun x9=>zqd1_3 nx18 Q E x0 x7 l7 c7 x8 x9 H
theorem zqd1_4ok (nx18:Int→HP):Ok Pr (zqd1_3_M Q E nx18) (sB (sB zqd1_p7)) (zqd1_q4 Q E nx18) E:=fun τ H h =>
  wP 0 h (fun x0 h=>wSl 7 h (fun x7 l7 c7 h=>wI 8 h (fun x8 h=>wI 9 h (fun x9 h=>(conv (by kernel_rfl) h)))))
noncomputable def zqd1_q6 (nx18:Int→HP):XT:=(xblock 1 (xthen (zqd1_3_M Q E nx18) (zqd1_q4 Q E nx18)))
noncomputable def zqd1_p11:Code:=sI (sA (sB zqd1_p7))
noncomputable def zqd1_p13:Code:=sB (sB zqd1_p11)
def zqd1_5 (nx18:Int→HP) (Q:QT) (E:ET) (x0:OA) (x6:Int) (x7:OA) (l7 c7:Nat) (x8 x9:Int) (H:Heap):Prop :=
 Does Pr 59 #[(.pointer x0),(.int .u8 x6)] H (fun v45 H46 =>
 zqd1_3 nx18 Q E x0 x7 l7 c7 x8 x9 H46) E
def zqd1_5_M (nx18:Int→HP) (τ:Tau) (H:Heap):Prop:=mP (τ 0) fun x0=>mI .u8 (τ 6) fun x6=>mSl (τ 7) fun x7 l7 c7=>mI .i64 (τ 8) fun x8=>mI .i64 (τ 9) fun x9=>zqd1_5 nx18 Q E x0 x6 x7 l7 c7 x8 x9 H
theorem zqd1_6ok (nx18:Int→HP):Ok Pr (zqd1_5_M Q E nx18) (sB zqd1_p13) (zqd1_q6 Q E nx18) E:=fun τ H h =>
  wP 0 h (fun x0 h=>wI 6 h (fun x6 h=>wSl 7 h (fun x7 l7 c7 h=>wI 8 h (fun x8 h=>wI 9 h (fun x9 h=>(conv (by kernel_rfl) h))))))
noncomputable def zqd1_q7 (nx18:Int→HP):XT:=(xthen (zqd1_5_M Q E nx18) (zqd1_q6 Q E nx18))
def zqd1_7 (nx18:Int→HP) (Q:QT) (E:ET) (x0:OA) (x6:Int) (x7:OA) (l7 c7:Nat) (x8 x9:Int) (x20:Bool) (H:Heap):Prop :=
 sel x20
 (ptr x0 fun q50 =>
 ldI .i64 (Addr.add q50 7) H fun n51 =>
 ptr x0 fun q52 =>
 wr (Addr.add q52 8) [(.int .i64 (IntKind.wrap .i64 (n51+1)))] H fun H53 =>
 zqd1_1 Q E x0 H53)
 (zqd1_5 nx18 Q E x0 x6 x7 l7 c7 x8 x9 H)
def zqd1_7_M (nx18:Int→HP) (τ:Tau) (H:Heap):Prop:=mP (τ 0) fun x0=>mI .u8 (τ 6) fun x6=>mSl (τ 7) fun x7 l7 c7=>mI .i64 (τ 8) fun x8=>mI .i64 (τ 9) fun x9=>mB (τ 20) fun x20=>zqd1_7 nx18 Q E x0 x6 x7 l7 c7 x8 x9 x20 H
theorem zqd1_8ok (nx18:Int→HP):Ok Pr (zqd1_7_M Q E nx18) (sB (sA zqd1_p13)) (zqd1_q7 Q E nx18) E:=fun τ H h =>
  wP 0 h (fun x0 h=>wI 6 h (fun x6 h=>wSl 7 h (fun x7 l7 c7 h=>wI 8 h (fun x8 h=>wI 9 h (fun x9 h=>wB 20 h (fun x20 h=>(conv (by kernel_rfl) h)))))))
noncomputable def zqd1_q8 (nx18:Int→HP):XT:=(xthen (zqd1_7_M Q E nx18) (zqd1_q7 Q E nx18))
def zqd1_9 (nx18:Int→HP) (Q:QT) (E:ET) (x0:OA) (x6:Int) (x7:OA) (l7 c7:Nat) (x8 x9:Int) (H:Heap):Prop :=
 sel (x6 == 10)
 (Does Pr 81 #[(.pointer x0),(.bool true)] H (fun v54 H55 =>
 ∃ b56:Bool,v54=(.bool b56)∧zqd1_7 nx18 Q E x0 x6 x7 l7 c7 x8 x9 b56 H55) E)
 (zqd1_7 nx18 Q E x0 x6 x7 l7 c7 x8 x9 false H)
def zqd1_9_M (nx18:Int→HP) (τ:Tau) (H:Heap):Prop:=mP (τ 0) fun x0=>mI .u8 (τ 6) fun x6=>mSl (τ 7) fun x7 l7 c7=>mI .i64 (τ 8) fun x8=>mI .i64 (τ 9) fun x9=>zqd1_9 nx18 Q E x0 x6 x7 l7 c7 x8 x9 H
theorem zqd1_10ok (nx18:Int→HP):Ok Pr (zqd1_9_M Q E nx18) (sA (sA zqd1_p13)) (zqd1_q8 Q E nx18) E:=fun τ H h =>
  wP 0 h (fun x0 h=>wI 6 h (fun x6 h=>wSl 7 h (fun x7 l7 c7 h=>wI 8 h (fun x8 h=>wI 9 h (fun x9 h=>(conv (by kernel_rfl) h))))))
theorem zqd1_11ok (nx18:Int→HP):Ok Pr (zqd1_9_M Q E nx18) (sA zqd1_p13) (zqd1_q7 Q E nx18) E:=fun τ H h =>
  (conv (by kernel_rfl) (vc_seq (K:=(zqd1_7_M Q E nx18)) (zqd1_10ok Q E nx18 τ H h) (zqd1_8ok Q E nx18)))
theorem zqd1_12ok (nx18:Int→HP):Ok Pr (zqd1_9_M Q E nx18) zqd1_p13 (zqd1_q6 Q E nx18) E:=fun τ H h =>
  (conv (by kernel_rfl) (vc_seq (K:=(zqd1_5_M Q E nx18)) (zqd1_11ok Q E nx18 τ H h) (zqd1_6ok Q E nx18)))
noncomputable def zqd1_q9 (nx18:Int→HP):XT:=(xthen (zqd1_9_M Q E nx18) (zqd1_q6 Q E nx18))
def zqd1_13 (nx18:Int→HP) (Q:QT) (E:ET) (x0:OA) (x6:Int) (x7:OA) (l7 c7:Nat) (x8 x9:Int) (H:Heap):Prop :=
 Does Pr 79 #[(.pointer x0)] H (fun v57 H58 =>
 ∃ b59:Bool,v57=(.bool b59)∧sel b59
 (zqd1_1 Q E x0 H58)
 (zqd1_9 nx18 Q E x0 x6 x7 l7 c7 x8 x9 H58)) E
def zqd1_13_M (nx18:Int→HP) (τ:Tau) (H:Heap):Prop:=mP (τ 0) fun x0=>mI .u8 (τ 6) fun x6=>mSl (τ 7) fun x7 l7 c7=>mI .i64 (τ 8) fun x8=>mI .i64 (τ 9) fun x9=>zqd1_13 nx18 Q E x0 x6 x7 l7 c7 x8 x9 H
theorem zqd1_14ok (nx18:Int→HP):Ok Pr (zqd1_13_M Q E nx18) (sA (sB zqd1_p11)) (zqd1_q9 Q E nx18) E:=fun τ H h =>
  wP 0 h (fun x0 h=>wI 6 h (fun x6 h=>wSl 7 h (fun x7 l7 c7 h=>wI 8 h (fun x8 h=>wI 9 h (fun x9 h=>(conv (by kernel_rfl) h))))))
theorem zqd1_15ok (nx18:Int→HP):Ok Pr (zqd1_13_M Q E nx18) (sB zqd1_p11) (zqd1_q6 Q E nx18) E:=fun τ H h =>
  (conv (by kernel_rfl) (vc_seq (K:=(zqd1_9_M Q E nx18)) (zqd1_14ok Q E nx18 τ H h) (zqd1_12ok Q E nx18)))
noncomputable def zqd1_q10 (nx18:Int→HP):XT:=(xthen (zqd1_13_M Q E nx18) (zqd1_q6 Q E nx18))
def zqd1_16 (nx18:Int→HP) (Q:QT) (E:ET) (x0 x7:OA) (l7 c7:Nat) (x8 x9:Int) (H:Heap):Prop :=
 (0≤x9∧x9 < (l7:Int))∧ptr x7 fun q60 =>
 ldI .u8 (Addr.add q60 (x9.toNat * 1)) H fun n61 =>
 zqd1_13 nx18 Q E x0 n61 x7 l7 c7 x8 x9 H
def zqd1_16_M (nx18:Int→HP) (τ:Tau) (H:Heap):Prop:=mP (τ 0) fun x0=>mSl (τ 7) fun x7 l7 c7=>mI .i64 (τ 8) fun x8=>mI .i64 (τ 9) fun x9=>zqd1_16 nx18 Q E x0 x7 l7 c7 x8 x9 H
theorem zqd1_17ok (nx18:Int→HP):Ok Pr (zqd1_16_M Q E nx18) (sA zqd1_p11) (zqd1_q10 Q E nx18) E:=fun τ H h =>
  wP 0 h (fun x0 h=>wSl 7 h (fun x7 l7 c7 h=>wI 8 h (fun x8 h=>wI 9 h (fun x9 h=>(conv (by kernel_rfl) h)))))
theorem zqd1_18ok (nx18:Int→HP):Ok Pr (zqd1_16_M Q E nx18) zqd1_p11 (zqd1_q6 Q E nx18) E:=fun τ H h =>
  (conv (by kernel_rfl) (vc_seq (K:=(zqd1_13_M Q E nx18)) (zqd1_17ok Q E nx18 τ H h) (zqd1_15ok Q E nx18)))
theorem zqd1_19ok (nx18:Int→HP):Ok Pr (zqd1_16_M Q E nx18) (sA (sB zqd1_p7)) (xthen (zqd1_3_M Q E nx18) (zqd1_q4 Q E nx18)) E:=fun τ H h =>
  (conv (by kernel_rfl) (zqd1_18ok Q E nx18 τ H h))
theorem zqd1_20ok (nx18:Int→HP):Ok Pr (zqd1_16_M Q E nx18) (sB zqd1_p7) (zqd1_q4 Q E nx18) E:=fun τ H h =>
  (conv (by kernel_rfl) (vc_seq (K:=(zqd1_3_M Q E nx18)) (zqd1_19ok Q E nx18 τ H h) (zqd1_4ok Q E nx18)))
noncomputable def zqd1_q11 (nx18:Int→HP):XT:=(xthen (zqd1_16_M Q E nx18) (zqd1_q4 Q E nx18))
def zqd1_21 (nx18:Int→HP) (Q:QT) (E:ET) (x0 x7:OA) (l7 c7:Nat) (x8 x9:Int) (x10:Bool) (H:Heap):Prop :=
 sel x10
 (zqd1_16 nx18 Q E x0 x7 l7 c7 x8 x9 H)
 (zqd1_1 Q E x0 H)
def zqd1_21_M (nx18:Int→HP) (τ:Tau) (H:Heap):Prop:=mP (τ 0) fun x0=>mSl (τ 7) fun x7 l7 c7=>mI .i64 (τ 8) fun x8=>mI .i64 (τ 9) fun x9=>mB (τ 10) fun x10=>zqd1_21 nx18 Q E x0 x7 l7 c7 x8 x9 x10 H
theorem zqd1_22ok (nx18:Int→HP):Ok Pr (zqd1_21_M Q E nx18) (sA zqd1_p7) (zqd1_q11 Q E nx18) E:=fun τ H h =>
  wP 0 h (fun x0 h=>wSl 7 h (fun x7 l7 c7 h=>wI 8 h (fun x8 h=>wI 9 h (fun x9 h=>wB 10 h (fun x10 h=>(conv (by kernel_rfl) h))))))
theorem zqd1_23ok (nx18:Int→HP):Ok Pr (zqd1_21_M Q E nx18) zqd1_p7 (zqd1_q4 Q E nx18) E:=fun τ H h =>
  (conv (by kernel_rfl) (vc_seq (K:=(zqd1_16_M Q E nx18)) (zqd1_22ok Q E nx18 τ H h) (zqd1_20ok Q E nx18)))
noncomputable def zqd1_q12 (nx18:Int→HP):XT:=(xthen (zqd1_21_M Q E nx18) (zqd1_q4 Q E nx18))
def zqd1_24 (nx18:Int→HP) (Q:QT) (E:ET) (x0 x7:OA) (l7 c7:Nat) (x8 x9:Int) (H:Heap):Prop :=
 zqd1_21 nx18 Q E x0 x7 l7 c7 x8 x9 (decide (x9 < x8)) H
def zqd1_24_M (nx18:Int→HP) (τ:Tau) (H:Heap):Prop:=mP (τ 0) fun x0=>mSl (τ 7) fun x7 l7 c7=>mI .i64 (τ 8) fun x8=>mI .i64 (τ 9) fun x9=>zqd1_24 nx18 Q E x0 x7 l7 c7 x8 x9 H
theorem zqd1_25ok (nx18:Int→HP):Ok Pr (zqd1_24_M Q E nx18) (sA (sI (sI zqd1_p4))) (zqd1_q12 Q E nx18) E:=fun τ H h =>
  wP 0 h (fun x0 h=>wSl 7 h (fun x7 l7 c7 h=>wI 8 h (fun x8 h=>wI 9 h (fun x9 h=>(conv (by kernel_rfl) h)))))
theorem zqd1_26ok (nx18:Int→HP):Ok Pr (zqd1_24_M Q E nx18) (sI (sI zqd1_p4)) (zqd1_q4 Q E nx18) E:=fun τ H h =>
  (conv (by kernel_rfl) (vc_seq (K:=(zqd1_21_M Q E nx18)) (zqd1_25ok Q E nx18 τ H h) (zqd1_23ok Q E nx18)))
def zqd1_27 (Q:QT) (E:ET) (x0 x7:OA) (l7 c7:Nat) (x8 x9:Int) (H:Heap):Prop :=
 ∃ (I:Int→HP) (μ:Int→Heap→Nat),I x9 H∧∀ (x9:Int) (H:Heap),I x9 H →
 zqd1_24 (fun x9' H1=>I x9' H1∧μ x9' H1 < μ x9 H) Q E x0 x7 l7 c7 x8 x9 H
def zqd1_27_M:Prop:=mP (τ 0) fun x0=>mSl (τ 7) fun x7 l7 c7=>mI .i64 (τ 8) fun x8=>mI .i64 (τ 9) fun x9=>zqd1_27 Q E x0 x7 l7 c7 x8 x9 H
theorem zqd1_28ok :Ok Pr (zqd1_27_M Q E) (sI zqd1_p4) (xblock 0 (zqd1_q2 Q E)) E:=fun τ H h =>
  wP 0 h (fun x0 h=>wSl 7 h (fun x7 l7 c7 h=>wI 8 h (fun x8 h=>wI 9 h (fun x9 h=>match h with | ⟨I,μ,h0,hr⟩=>(conv (by kernel_rfl) (vc_loopG (c:=sI (sI zqd1_p4)) (τ:=(Tau.upd (Tau.upd (Tau.upd (Tau.upd τ 0 (.pointer x0)) 7 (.slice x7 l7 c7)) 8 (.int .i64 x8)) 9 (.int .i64 x9))) [0,7,8] (fun τ H=>mI .i64 (τ 9) fun x9'=>I x9' H) (fun τ H=>μ (gI (τ 9)) H) (by kernel_rfl) h0 (fun τ1 H1 hf hI=>uF 0 (.pointer x0) (hf 0 (by simp)) (uF 7 (.slice x7 l7 c7) (hf 7 (by simp)) (uF 8 (.int .i64 x8) (hf 8 (by simp)) (uI 9 hI (fun x9r h=>lgx (zqd1_26ok Q E (fun x9' H2=>I x9' H2∧μ x9' H2 < μ x9r H1) (Tau.upd (Tau.upd (Tau.upd (Tau.upd τ1 0 (.pointer x0)) 7 (.slice x7 l7 c7)) 8 (.int .i64 x8)) 9 (.int .i64 x9r)) H1 (conv (by kernel_rfl) (hr x9r H1 h))) (fun τ2 H2 hk=>kI 9 hk (fun x9' h=>conv (by kernel_rfl) h)))))))))))))
theorem zqd1_29ok :Ok Pr (zqd1_27_M Q E) zqd1_p4 (zqd1_q2 Q E) E:=fun τ H h =>
  (conv (by kernel_rfl) (zqd1_28ok Q E τ H h))
noncomputable def zqd1_q13 :XT:=(xthen (zqd1_27_M Q E) (zqd1_q2 Q E))
def zqd1_30 (Q:QT) (E:ET) (x0 x1:OA) (l1 c1:Nat) (H:Heap):Prop :=
 zqd1_27 Q E x0 x1 l1 c1 (l1:Int) 0 H
def zqd1_30_M:Prop:=mP (τ 0) fun x0=>mSl (τ 1) fun x1 l1 c1=>zqd1_30 Q E x0 x1 l1 c1 H
theorem zqd1_31ok :Ok Pr (zqd1_30_M Q E) (sA (sA (sB (bodyOf Try.f52)))) (zqd1_q13 Q E) E:=fun τ H h =>
  wP 0 h (fun x0 h=>wSl 1 h (fun x1 l1 c1 h=>(conv (by kernel_rfl) h)))
theorem zqd1_32ok :Ok Pr (zqd1_30_M Q E) (sA (sB (bodyOf Try.f52))) (zqd1_q2 Q E) E:=fun τ H h =>
  (conv (by kernel_rfl) (vc_seq (K:=(zqd1_27_M Q E)) (zqd1_31ok Q E τ H h) (zqd1_29ok Q E)))
theorem zqd1_33ok :Ok Pr (zqd1_30_M Q E) (sB (bodyOf Try.f52)) (zqd1_q1 Q E) E:=fun τ H h =>
  (conv (by kernel_rfl) (vc_seq (K:=(zqd1_1_M Q E)) (zqd1_32ok Q E τ H h) (zqd1_2ok Q E)))
def zqd1 (Q:QT) (E:ET) (a0:OA) (a1:OA) (a1l:Nat) (a1c:Nat) (H:Heap):Prop :=
 zqd1_30 Q E a0 a1 a1l a1c H
theorem zqd1_fn (a0:OA) (a1:OA) (a1l:Nat) (a1c:Nat) (Q:QT) (E:ET) (H:Heap) (h:zqd1 Q E a0 a1 a1l a1c H)  :Does Pr 52 #[(.pointer a0),(.slice a1 a1l a1c)] H Q E :=
  Fn_of_vc (fn:=Try.f52) (c:=(bodyOf Try.f52)) (args:=[(.pointer a0),(.slice a1 a1l a1c)]) mixed (by kernel_rfl) (by kernel_rfl) (by kernel_rfl) (by kernel_rfl) (by kernel_rfl) ((conv (B:=vc Pr (bodyOf Try.f52) (argT [(.pointer a0),(.slice a1 a1l a1c)]) (zqd1_q1 Q E) E H) (by kernel_rfl) (vc_seq (K:=(zqd1_30_M Q E)) (conv (B:=vc Pr (sA (bodyOf Try.f52)) (argT [(.pointer a0),(.slice a1 a1l a1c)]) (xthen (zqd1_30_M Q E) (zqd1_q1 Q E)) E H) (by kernel_rfl) h) (zqd1_33ok Q E))))
noncomputable def zqe1_q1 (Q:QT) (E:ET) :XT:=(retQ Pr (Try.f53).results.toList Q)
def zqe1 (Q:QT) (E:ET) (a0:OA) (H:Heap):Prop :=
 Does Pr 79 #[(.pointer a0)] H (fun v1 H2 =>
 ∃ b3:Bool,v1=(.bool b3)∧ptr a0 fun q4 =>
 ldI .i64 (Addr.add q4 8) H2 fun n5 =>
 Q (.int .i64 n5) H2) E
theorem zqe1_fn (a0:OA) (Q:QT) (E:ET) (H:Heap) (h:zqe1 Q E a0 H)  :Does Pr 53 #[(.pointer a0)] H Q E :=
  Fn_of_vc (fn:=Try.f53) (c:=(bodyOf Try.f53)) (args:=[(.pointer a0)]) mixed (by kernel_rfl) (by kernel_rfl) (by kernel_rfl) (by kernel_rfl) (by kernel_rfl) ((conv (B:=vc Pr (bodyOf Try.f53) (argT [(.pointer a0)]) (zqe1_q1 Q E) E H) (by kernel_rfl) h))
noncomputable def zqf1_q1 (Q:QT) (E:ET) :XT:=(retQ Pr (Try.f59).results.toList Q)
noncomputable def zqf1_p1:Code:=sB (bodyOf Try.f59)
noncomputable def zqf1_p3:Code:=sB (sB zqf1_p1)
def zqf1_1 (Q:QT) (E:ET) (x0:OA) (H:Heap):Prop :=
 Does Pr 81 #[(.pointer x0),(.bool false)] H (fun v60 H61 =>
 ∃ b62:Bool,v60=(.bool b62)∧Q (.tuple #[]) H61) E
def zqf1_1_M:Prop:=mP (τ 0) fun x0=>zqf1_1 Q E x0 H
theorem zqf1_2ok :Ok Pr (zqf1_1_M Q E) (sB (sB (sB zqf1_p3))) (zqf1_q1 Q E) E:=fun τ H h =>
  wP 0 h (fun x0 h=>(conv (by kernel_rfl) h))
def zqf1_3 (Q:QT) (E:ET) (x0:OA) (H:Heap):Prop :=
 ptr x0 fun q63 =>
 ldB (Addr.add q63 5) H fun b64 =>
 sel (!b64)
 (ptr x0 fun q65 =>
 Does Pr 80 #[(.pointer (some (Addr.add q65 1))),(.int .i64 0)] H (fun v66 H67 =>
 zqf1_1 Q E x0 H67) E)
 (zqf1_1 Q E x0 H)
def zqf1_3_M:Prop:=mP (τ 0) fun x0=>zqf1_3 Q E x0 H
theorem zqf1_4ok :Ok Pr (zqf1_3_M Q E) (sA (sB (sB zqf1_p3))) (xthen (zqf1_1_M Q E) (zqf1_q1 Q E)) E:=fun τ H h =>
  wP 0 h (fun x0 h=>(conv (by kernel_rfl) h))
theorem zqf1_5ok :Ok Pr (zqf1_3_M Q E) (sB (sB zqf1_p3)) (zqf1_q1 Q E) E:=fun τ H h =>
  (conv (by kernel_rfl) (vc_seq (K:=(zqf1_1_M Q E)) (zqf1_4ok Q E τ H h) (zqf1_2ok Q E)))
noncomputable def zqf1_q3 :XT:=(xthen (zqf1_3_M Q E) (zqf1_q1 Q E))
def zqf1_6 (Q:QT) (E:ET) (x0:OA) (x1:Int) (H:Heap):Prop :=
 ptr x0 fun q68 =>
 wr (Addr.add q68 6) [(.bool (x1 == 10))] H fun H69 =>
 zqf1_3 Q E x0 H69
def zqf1_6_M:Prop:=mP (τ 0) fun x0=>mI .u8 (τ 1) fun x1=>zqf1_6 Q E x0 x1 H
theorem zqf1_7ok :Ok Pr (zqf1_6_M Q E) (sA (sB zqf1_p3)) (zqf1_q3 Q E) E:=fun τ H h =>
  wP 0 h (fun x0 h=>wI 1 h (fun x1 h=>(conv (by kernel_rfl) h)))
theorem zqf1_8ok :Ok Pr (zqf1_6_M Q E) (sB zqf1_p3) (zqf1_q1 Q E) E:=fun τ H h =>
  (conv (by kernel_rfl) (vc_seq (K:=(zqf1_3_M Q E)) (zqf1_7ok Q E τ H h) (zqf1_5ok Q E)))
noncomputable def zqf1_q4 :XT:=(xthen (zqf1_6_M Q E) (zqf1_q1 Q E))
def zqf1_9 (Q:QT) (E:ET) (x0:OA) (x1:Int) (H:Heap):Prop :=
 ptr x0 fun q70 =>
 ldI .i64 (Addr.add q70 7) H fun n71 =>
 ptr x0 fun q72 =>
 wr (Addr.add q72 7) [(.int .i64 (IntKind.wrap .i64 (n71+1)))] H fun H73 =>
 zqf1_6 Q E x0 x1 H73
def zqf1_9_M:Prop:=mP (τ 0) fun x0=>mI .u8 (τ 1) fun x1=>zqf1_9 Q E x0 x1 H
theorem zqf1_10ok :Ok Pr (zqf1_9_M Q E) (sA zqf1_p3) (zqf1_q4 Q E) E:=fun τ H h =>
  wP 0 h (fun x0 h=>wI 1 h (fun x1 h=>(conv (by kernel_rfl) h)))
theorem zqf1_11ok :Ok Pr (zqf1_9_M Q E) zqf1_p3 (zqf1_q1 Q E) E:=fun τ H h =>
  (conv (by kernel_rfl) (vc_seq (K:=(zqf1_6_M Q E)) (zqf1_10ok Q E τ H h) (zqf1_8ok Q E)))
noncomputable def zqf1_q5 :XT:=(xthen (zqf1_9_M Q E) (zqf1_q1 Q E))
def zqf1_12 (Q:QT) (E:ET) (x0:OA) (x1:Int) (H:Heap):Prop :=
 ptr x0 fun q74 =>
 ∃ (p75:OA) (l76 c77:Nat),∃ (p78:OA) (l79 c80:Nat),Heap.rd H (Addr.add q74 3) 0 [(.slice p75 l76 c77),(.slice p78 l79 c80)]∧ptr x0 fun q81 =>
 ∃ (p82:OA) (l83 c84:Nat),∃ (p85:OA) (l86 c87:Nat),Heap.rd H (Addr.add q81 1) 0 [(.slice p82 l83 c84),(.slice p85 l86 c87)]∧ptr x0 fun q88 =>
 wr (Addr.add q88 1) [(.slice p75 l76 c77),(.slice p78 l79 c80)] H fun H89 =>
 ptr x0 fun q90 =>
 wr (Addr.add q90 3) [(.slice p82 l83 c84),(.slice p85 l86 c87)] H89 fun H91 =>
 zqf1_9 Q E x0 x1 H91
def zqf1_12_M:Prop:=mP (τ 0) fun x0=>mI .u8 (τ 1) fun x1=>zqf1_12 Q E x0 x1 H
theorem zqf1_13ok :Ok Pr (zqf1_12_M Q E) (sA (sB zqf1_p1)) (zqf1_q5 Q E) E:=fun τ H h =>
  wP 0 h (fun x0 h=>wI 1 h (fun x1 h=>(conv (by kernel_rfl) h)))
theorem zqf1_14ok :Ok Pr (zqf1_12_M Q E) (sB zqf1_p1) (zqf1_q1 Q E) E:=fun τ H h =>
  (conv (by kernel_rfl) (vc_seq (K:=(zqf1_9_M Q E)) (zqf1_13ok Q E τ H h) (zqf1_11ok Q E)))
noncomputable def zqf1_q6 :XT:=(xthen (zqf1_12_M Q E) (zqf1_q1 Q E))
noncomputable def zqf1_p13:Code:=sI (sB (sA zqf1_p1))
noncomputable def zqf1_q8 (nx96:Int→HP):XT:=(xthen (fun τ H=>mI .i64 (τ 17) fun x17'=>nx96 x17' H) (xblock 0 (zqf1_q6 Q E)))
noncomputable def zqf1_p15:Code:=sB (sI zqf1_p13)
def zqf1_15 (nx96:Int→HP) (Q:QT) (E:ET) (x0:OA) (x1:Int) (x15:OA) (l15 c15:Nat) (x16 x17:Int) (H:Heap):Prop :=
 nx96 (IntKind.wrap .i64 (x17+1)) H
def zqf1_15_M (nx96:Int→HP) (τ:Tau) (H:Heap):Prop:=mP (τ 0) fun x0=>mI .u8 (τ 1) fun x1=>mSl (τ 15) fun x15 l15 c15=>mI .i64 (τ 16) fun x16=>mI .i64 (τ 17) fun x17=>zqf1_15 nx96 Q E x0 x1 x15 l15 c15 x16 x17 H
theorem zqf1_16ok (nx96:Int→HP):Ok Pr (zqf1_15_M Q E nx96) (sB (sB zqf1_p15)) (zqf1_q8 Q E nx96) E:=fun τ H h =>
  wP 0 h (fun x0 h=>wI 1 h (fun x1 h=>wSl 15 h (fun x15 l15 c15 h=>wI 16 h (fun x16 h=>wI 17 h (fun x17 h=>(conv (by kernel_rfl) h))))))
noncomputable def zqf1_q10 (nx96:Int→HP):XT:=(xblock 1 (xthen (zqf1_15_M Q E nx96) (zqf1_q8 Q E nx96)))
noncomputable def zqf1_p19:Code:=sI (sA (sB zqf1_p15))
noncomputable def zqf1_p21:Code:=sB (sB zqf1_p19)
def zqf1_17 (nx96:Int→HP) (Q:QT) (E:ET) (x0:OA) (x1:Int) (x6 x15:OA) (l15 c15:Nat) (x16 x17:Int) (x42:Bool) (H:Heap):Prop :=
 sel x42
 (ptr x0 fun q139 =>
 ptr x6 fun q140 =>
 ldI .i64 (Addr.add q140 1) H fun n141 =>
 Does Pr 80 #[(.pointer (some (Addr.add q139 3))),(.int .i64 n141)] H (fun v142 H143 =>
 zqf1_15 nx96 Q E x0 x1 x15 l15 c15 x16 x17 H143) (fun _ _=>False))
 (zqf1_15 nx96 Q E x0 x1 x15 l15 c15 x16 x17 H)
def zqf1_17_M (nx96:Int→HP) (τ:Tau) (H:Heap):Prop:=mP (τ 0) fun x0=>mI .u8 (τ 1) fun x1=>mP (τ 6) fun x6=>mSl (τ 15) fun x15 l15 c15=>mI .i64 (τ 16) fun x16=>mI .i64 (τ 17) fun x17=>mB (τ 42) fun x42=>zqf1_17 nx96 Q E x0 x1 x6 x15 l15 c15 x16 x17 x42 H
theorem zqf1_18ok (nx96:Int→HP):Ok Pr (zqf1_17_M Q E nx96) (sB zqf1_p21) (zqf1_q10 Q E nx96) E:=fun τ H h =>
  wP 0 h (fun x0 h=>wI 1 h (fun x1 h=>wP 6 h (fun x6 h=>wSl 15 h (fun x15 l15 c15 h=>wI 16 h (fun x16 h=>wI 17 h (fun x17 h=>wB 42 h (fun x42 h=>(conv (by kernel_rfl) h))))))))
noncomputable def zqf1_q11 (nx96:Int→HP):XT:=(xthen (zqf1_17_M Q E nx96) (zqf1_q10 Q E nx96))
def zqf1_19 (nx96:Int→HP) (Q:QT) (E:ET) (x0:OA) (x1:Int) (x6 x15:OA) (l15 c15:Nat) (x16 x17:Int) (H:Heap):Prop :=
 ptr x6 fun q144 =>
 ldI .i64 q144 H fun n145 =>
 sel (n145 == 1)
 ((64:Int) ≠ 0∧ptr x6 fun q146 =>
 (0≤((IntKind.wrap .u8 (Int.tdiv x1 64)):Int)∧((IntKind.wrap .u8 (Int.tdiv x1 64)):Int) < ((4:Nat):Int))∧ldI .u64 (Addr.add (Addr.add q146 3) (((IntKind.wrap .u8 (Int.tdiv x1 64)):Int).toNat * 1)) H fun n147 =>
 (64:Int) ≠ 0∧0≤((Int.tmod x1 64):Int)∧zqf1_17 nx96 Q E x0 x1 x6 x15 l15 c15 x16 x17 (((IntKind.wrap .u64 (BitVec.ofInt (IntKind.bits .u64) (Int.fdiv n147 (2 ^ min ((Int.tmod x1 64):Int).toNat (IntKind.bits .u64))) &&& BitVec.ofInt (IntKind.bits .u64) 1).toNat):Int) == 1) H)
 (zqf1_17 nx96 Q E x0 x1 x6 x15 l15 c15 x16 x17 false H)
def zqf1_19_M (nx96:Int→HP) (τ:Tau) (H:Heap):Prop:=mP (τ 0) fun x0=>mI .u8 (τ 1) fun x1=>mP (τ 6) fun x6=>mSl (τ 15) fun x15 l15 c15=>mI .i64 (τ 16) fun x16=>mI .i64 (τ 17) fun x17=>zqf1_19 nx96 Q E x0 x1 x6 x15 l15 c15 x16 x17 H
theorem zqf1_20ok (nx96:Int→HP):Ok Pr (zqf1_19_M Q E nx96) (sA zqf1_p21) (zqf1_q11 Q E nx96) E:=fun τ H h =>
  wP 0 h (fun x0 h=>wI 1 h (fun x1 h=>wP 6 h (fun x6 h=>wSl 15 h (fun x15 l15 c15 h=>wI 16 h (fun x16 h=>wI 17 h (fun x17 h=>(conv (by kernel_rfl) h)))))))
theorem zqf1_21ok (nx96:Int→HP):Ok Pr (zqf1_19_M Q E nx96) zqf1_p21 (zqf1_q10 Q E nx96) E:=fun τ H h =>
  (conv (by kernel_rfl) (vc_seq (K:=(zqf1_17_M Q E nx96)) (zqf1_20ok Q E nx96 τ H h) (zqf1_18ok Q E nx96)))
noncomputable def zqf1_q12 (nx96:Int→HP):XT:=(xthen (zqf1_19_M Q E nx96) (zqf1_q10 Q E nx96))
def zqf1_22 (nx96:Int→HP) (Q:QT) (E:ET) (x0:OA) (x1 x5:Int) (x15:OA) (l15 c15:Nat) (x16 x17:Int) (H:Heap):Prop :=
 ptr x0 fun q148 =>
 ldSl q148 H fun p149 l150 c151 =>
 (0≤x5∧x5 < (l150:Int))∧ptr p149 fun q152 =>
 ∃ n153 n154 n155 n156 n157 n158 n159:Int,Heap.rd H (Addr.add q152 (x5.toNat * 7)) 0 [(.int .i64 n153),(.int .i64 n154),(.int .i64 n155),(.int .u64 n156),(.int .u64 n157),(.int .u64 n158),(.int .u64 n159)]∧nw (.cells #[(.int .i64 0),(.int .i64 0),(.int .i64 0),(.int .u64 0),(.int .u64 0),(.int .u64 0),(.int .u64 0)] 91 (0,0)) H fun i160 H161 =>
 wr ⟨i160,0,none⟩ [(.int .i64 n153),(.int .i64 n154),(.int .i64 n155),(.int .u64 n156),(.int .u64 n157),(.int .u64 n158),(.int .u64 n159)] H161 fun H162 =>
 zqf1_19 nx96 Q E x0 x1 (some ⟨i160,0,none⟩) x15 l15 c15 x16 x17 H162
def zqf1_22_M (nx96:Int→HP) (τ:Tau) (H:Heap):Prop:=mP (τ 0) fun x0=>mI .u8 (τ 1) fun x1=>mI .i64 (τ 5) fun x5=>mSl (τ 15) fun x15 l15 c15=>mI .i64 (τ 16) fun x16=>mI .i64 (τ 17) fun x17=>zqf1_22 nx96 Q E x0 x1 x5 x15 l15 c15 x16 x17 H
theorem zqf1_23ok (nx96:Int→HP):Ok Pr (zqf1_22_M Q E nx96) (sA (sB zqf1_p19)) (zqf1_q12 Q E nx96) E:=fun τ H h =>
  wP 0 h (fun x0 h=>wI 1 h (fun x1 h=>wI 5 h (fun x5 h=>wSl 15 h (fun x15 l15 c15 h=>wI 16 h (fun x16 h=>wI 17 h (fun x17 h=>(conv (by kernel_rfl) h)))))))
theorem zqf1_24ok (nx96:Int→HP):Ok Pr (zqf1_22_M Q E nx96) (sB zqf1_p19) (zqf1_q10 Q E nx96) E:=fun τ H h =>
  (conv (by kernel_rfl) (vc_seq (K:=(zqf1_19_M Q E nx96)) (zqf1_23ok Q E nx96 τ H h) (zqf1_21ok Q E nx96)))
noncomputable def zqf1_q13 (nx96:Int→HP):XT:=(xthen (zqf1_22_M Q E nx96) (zqf1_q10 Q E nx96))
def zqf1_25 (nx96:Int→HP) (Q:QT) (E:ET) (x0:OA) (x1:Int) (x15:OA) (l15 c15:Nat) (x16 x17:Int) (H:Heap):Prop :=
 (0≤x17∧x17 < (l15:Int))∧ptr x15 fun q163 =>
 ldI .i64 (Addr.add q163 (x17.toNat * 1)) H fun n164 =>
 zqf1_22 nx96 Q E x0 x1 n164 x15 l15 c15 x16 x17 H
def zqf1_25_M (nx96:Int→HP) (τ:Tau) (H:Heap):Prop:=mP (τ 0) fun x0=>mI .u8 (τ 1) fun x1=>mSl (τ 15) fun x15 l15 c15=>mI .i64 (τ 16) fun x16=>mI .i64 (τ 17) fun x17=>zqf1_25 nx96 Q E x0 x1 x15 l15 c15 x16 x17 H
theorem zqf1_26ok (nx96:Int→HP):Ok Pr (zqf1_25_M Q E nx96) (sA zqf1_p19) (zqf1_q13 Q E nx96) E:=fun τ H h =>
  wP 0 h (fun x0 h=>wI 1 h (fun x1 h=>wSl 15 h (fun x15 l15 c15 h=>wI 16 h (fun x16 h=>wI 17 h (fun x17 h=>(conv (by kernel_rfl) h))))))
theorem zqf1_27ok (nx96:Int→HP):Ok Pr (zqf1_25_M Q E nx96) zqf1_p19 (zqf1_q10 Q E nx96) E:=fun τ H h =>
  (conv (by kernel_rfl) (vc_seq (K:=(zqf1_22_M Q E nx96)) (zqf1_26ok Q E nx96 τ H h) (zqf1_24ok Q E nx96)))
theorem zqf1_28ok (nx96:Int→HP):Ok Pr (zqf1_25_M Q E nx96) (sA (sB zqf1_p15)) (xthen (zqf1_15_M Q E nx96) (zqf1_q8 Q E nx96)) E:=fun τ H h =>
  (conv (by kernel_rfl) (zqf1_27ok Q E nx96 τ H h))
theorem zqf1_29ok (nx96:Int→HP):Ok Pr (zqf1_25_M Q E nx96) (sB zqf1_p15) (zqf1_q8 Q E nx96) E:=fun τ H h =>
  (conv (by kernel_rfl) (vc_seq (K:=(zqf1_15_M Q E nx96)) (zqf1_28ok Q E nx96 τ H h) (zqf1_16ok Q E nx96)))
noncomputable def zqf1_q14 (nx96:Int→HP):XT:=(xthen (zqf1_25_M Q E nx96) (zqf1_q8 Q E nx96))
def zqf1_30 (nx96:Int→HP) (Q:QT) (E:ET) (x0:OA) (x1:Int) (x15:OA) (l15 c15:Nat) (x16 x17:Int) (x18:Bool) (H:Heap):Prop :=
 sel x18
 (zqf1_25 nx96 Q E x0 x1 x15 l15 c15 x16 x17 H)
 (zqf1_12 Q E x0 x1 H)
def zqf1_30_M (nx96:Int→HP) (τ:Tau) (H:Heap):Prop:=mP (τ 0) fun x0=>mI .u8 (τ 1) fun x1=>mSl (τ 15) fun x15 l15 c15=>mI .i64 (τ 16) fun x16=>mI .i64 (τ 17) fun x17=>mB (τ 18) fun x18=>zqf1_30 nx96 Q E x0 x1 x15 l15 c15 x16 x17 x18 H
theorem zqf1_31ok (nx96:Int→HP):Ok Pr (zqf1_30_M Q E nx96) (sA zqf1_p15) (zqf1_q14 Q E nx96) E:=fun τ H h =>
  wP 0 h (fun x0 h=>wI 1 h (fun x1 h=>wSl 15 h (fun x15 l15 c15 h=>wI 16 h (fun x16 h=>wI 17 h (fun x17 h=>wB 18 h (fun x18 h=>(conv (by kernel_rfl) h)))))))
theorem zqf1_32ok (nx96:Int→HP):Ok Pr (zqf1_30_M Q E nx96) zqf1_p15 (zqf1_q8 Q E nx96) E:=fun τ H h =>
  (conv (by kernel_rfl) (vc_seq (K:=(zqf1_25_M Q E nx96)) (zqf1_31ok Q E nx96 τ H h) (zqf1_29ok Q E nx96)))
noncomputable def zqf1_q15 (nx96:Int→HP):XT:=(xthen (zqf1_30_M Q E nx96) (zqf1_q8 Q E nx96))
def zqf1_33 (nx96:Int→HP) (Q:QT) (E:ET) (x0:OA) (x1:Int) (x15:OA) (l15 c15:Nat) (x16 x17:Int) (H:Heap):Prop :=
 zqf1_30 nx96 Q E x0 x1 x15 l15 c15 x16 x17 (decide (x17 < x16)) H
def zqf1_33_M (nx96:Int→HP) (τ:Tau) (H:Heap):Prop:=mP (τ 0) fun x0=>mI .u8 (τ 1) fun x1=>mSl (τ 15) fun x15 l15 c15=>mI .i64 (τ 16) fun x16=>mI .i64 (τ 17) fun x17=>zqf1_33 nx96 Q E x0 x1 x15 l15 c15 x16 x17 H
theorem zqf1_34ok (nx96:Int→HP):Ok Pr (zqf1_33_M Q E nx96) (sA (sI zqf1_p13)) (zqf1_q15 Q E nx96) E:=fun τ H h =>
  wP 0 h (fun x0 h=>wI 1 h (fun x1 h=>wSl 15 h (fun x15 l15 c15 h=>wI 16 h (fun x16 h=>wI 17 h (fun x17 h=>(conv (by kernel_rfl) h))))))
theorem zqf1_35ok (nx96:Int→HP):Ok Pr (zqf1_33_M Q E nx96) (sI zqf1_p13) (zqf1_q8 Q E nx96) E:=fun τ H h =>
  (conv (by kernel_rfl) (vc_seq (K:=(zqf1_30_M Q E nx96)) (zqf1_34ok Q E nx96 τ H h) (zqf1_32ok Q E nx96)))
def zqf1_36 (Q:QT) (E:ET) (x0:OA) (x1:Int) (x15:OA) (l15 c15:Nat) (x16 x17:Int) (H:Heap):Prop :=
 ∃ (I:Int→HP) (μ:Int→Heap→Nat),I x17 H∧∀ (x17:Int) (H:Heap),I x17 H →
 zqf1_33 (fun x17' H1=>I x17' H1∧μ x17' H1 < μ x17 H) Q E x0 x1 x15 l15 c15 x16 x17 H
def zqf1_36_M:Prop:=mP (τ 0) fun x0=>mI .u8 (τ 1) fun x1=>mSl (τ 15) fun x15 l15 c15=>mI .i64 (τ 16) fun x16=>mI .i64 (τ 17) fun x17=>zqf1_36 Q E x0 x1 x15 l15 c15 x16 x17 H
theorem zqf1_37ok :Ok Pr (zqf1_36_M Q E) zqf1_p13 (xblock 0 (zqf1_q6 Q E)) E:=fun τ H h =>
  wP 0 h (fun x0 h=>wI 1 h (fun x1 h=>wSl 15 h (fun x15 l15 c15 h=>wI 16 h (fun x16 h=>wI 17 h (fun x17 h=>match h with | ⟨I,μ,h0,hr⟩=>(conv (by kernel_rfl) (vc_loopG (c:=sI zqf1_p13) (τ:=(Tau.upd (Tau.upd (Tau.upd (Tau.upd (Tau.upd τ 0 (.pointer x0)) 1 (.int .u8 x1)) 15 (.slice x15 l15 c15)) 16 (.int .i64 x16)) 17 (.int .i64 x17))) [0,1,15,16] (fun τ H=>mI .i64 (τ 17) fun x17'=>I x17' H) (fun τ H=>μ (gI (τ 17)) H) (by kernel_rfl) h0 (fun τ1 H1 hf hI=>uF 0 (.pointer x0) (hf 0 (by simp)) (uF 1 (.int .u8 x1) (hf 1 (by simp)) (uF 15 (.slice x15 l15 c15) (hf 15 (by simp)) (uF 16 (.int .i64 x16) (hf 16 (by simp)) (uI 17 hI (fun x17r h=>lgx (zqf1_35ok Q E (fun x17' H2=>I x17' H2∧μ x17' H2 < μ x17r H1) (Tau.upd (Tau.upd (Tau.upd (Tau.upd (Tau.upd τ1 0 (.pointer x0)) 1 (.int .u8 x1)) 15 (.slice x15 l15 c15)) 16 (.int .i64 x16)) 17 (.int .i64 x17r)) H1 (conv (by kernel_rfl) (hr x17r H1 h))) (fun τ2 H2 hk=>kI 17 hk (fun x17' h=>conv (by kernel_rfl) h)))))))))))))))
theorem zqf1_38ok :Ok Pr (zqf1_36_M Q E) (sB (sA zqf1_p1)) (zqf1_q6 Q E) E:=fun τ H h =>
  (conv (by kernel_rfl) (zqf1_37ok Q E τ H h))
noncomputable def zqf1_q16 :XT:=(xthen (zqf1_36_M Q E) (zqf1_q6 Q E))
def zqf1_39 (Q:QT) (E:ET) (x0:OA) (x1:Int) (H:Heap):Prop :=
 ptr x0 fun q165 =>
 ldSl (Addr.add q165 1) H fun p166 l167 c168 =>
 zqf1_36 Q E x0 x1 p166 l167 c168 (l167:Int) 0 H
def zqf1_39_M:Prop:=mP (τ 0) fun x0=>mI .u8 (τ 1) fun x1=>zqf1_39 Q E x0 x1 H
theorem zqf1_40ok :Ok Pr (zqf1_39_M Q E) (sA (sA zqf1_p1)) (zqf1_q16 Q E) E:=fun τ H h =>
  wP 0 h (fun x0 h=>wI 1 h (fun x1 h=>(conv (by kernel_rfl) h)))
theorem zqf1_41ok :Ok Pr (zqf1_39_M Q E) (sA zqf1_p1) (zqf1_q6 Q E) E:=fun τ H h =>
  (conv (by kernel_rfl) (vc_seq (K:=(zqf1_36_M Q E)) (zqf1_40ok Q E τ H h) (zqf1_38ok Q E)))
theorem zqf1_42ok :Ok Pr (zqf1_39_M Q E) zqf1_p1 (zqf1_q1 Q E) E:=fun τ H h =>
  (conv (by kernel_rfl) (vc_seq (K:=(zqf1_12_M Q E)) (zqf1_41ok Q E τ H h) (zqf1_14ok Q E)))
def zqf1 (Q:QT) (E:ET) (a0:OA) (a1:Int) (H:Heap):Prop :=
 ptr a0 fun q169 =>
 Does Pr 92 #[(.pointer (some (Addr.add q169 3)))] H (fun v170 H171 =>
 zqf1_39 Q E a0 a1 H171) E
theorem zqf1_fn (a0:OA) (a1:Int) (Q:QT) (E:ET) (H:Heap) (h:zqf1 Q E a0 a1 H)  :Does Pr 59 #[(.pointer a0),(.int .u8 a1)] H Q E :=
  Fn_of_vc (fn:=Try.f59) (c:=(bodyOf Try.f59)) (args:=[(.pointer a0),(.int .u8 a1)]) mixed (by kernel_rfl) (by kernel_rfl) (by kernel_rfl) (by kernel_rfl) (by kernel_rfl) ((conv (B:=vc Pr (bodyOf Try.f59) (argT [(.pointer a0),(.int .u8 a1)]) (zqf1_q1 Q E) E H) (by kernel_rfl) (vc_seq (K:=(zqf1_39_M Q E)) (conv (B:=vc Pr (sA (bodyOf Try.f59)) (argT [(.pointer a0),(.int .u8 a1)]) (xthen (zqf1_39_M Q E) (zqf1_q1 Q E)) E H) (by kernel_rfl) h) (zqf1_42ok Q E))))
noncomputable def zqg1_q1 (Q:QT) (E:ET) :XT:=(retQ Pr (Try.f79).results.toList Q)
def zqg1_1 (Q:QT) (E:ET) (x0:OA) (H:Heap):Prop :=
 ptr x0 fun q10 =>
 ldI .i64 (Addr.add q10 8) H fun n11 =>
 Q (.bool (decide (n11 ≥ 0))) H
def zqg1_1_M:Prop:=mP (τ 0) fun x0=>zqg1_1 Q E x0 H
theorem zqg1_2ok :Ok Pr (zqg1_1_M Q E) (sB (sB (bodyOf Try.f79))) (zqg1_q1 Q E) E:=fun τ H h =>
  wP 0 h (fun x0 h=>(conv (by kernel_rfl) h))
noncomputable def zqg1_q2 :XT:=(xthen (zqg1_1_M Q E) (zqg1_q1 Q E))
def zqg1_3 (Q:QT) (E:ET) (x0:OA) (x11:Bool) (H:Heap):Prop :=
 sel x11
 (ptr x0 fun q17 =>
 ldI .i64 (Addr.add q17 7) H fun n18 =>
 ptr x0 fun q19 =>
 wr (Addr.add q19 8) [(.int .i64 n18)] H fun H20 =>
 zqg1_1 Q E x0 H20)
 (zqg1_1 Q E x0 H)
def zqg1_3_M:Prop:=mP (τ 0) fun x0=>mB (τ 11) fun x11=>zqg1_3 Q E x0 x11 H
theorem zqg1_4ok :Ok Pr (zqg1_3_M Q E) (sB (sA (sB (bodyOf Try.f79)))) (zqg1_q2 Q E) E:=fun τ H h =>
  wP 0 h (fun x0 h=>wB 11 h (fun x11 h=>(conv (by kernel_rfl) h)))
def zqg1_5 (Q:QT) (E:ET) (x0:OA) (H:Heap):Prop :=
 ptr x0 fun q21 =>
 ldI .i64 (Addr.add q21 8) H fun n22 =>
 sel (decide (n22 < 0))
 (Does Pr 81 #[(.pointer x0),(.bool false)] H (fun v23 H24 =>
 ∃ b25:Bool,v23=(.bool b25)∧zqg1_3 Q E x0 b25 H24) E)
 (zqg1_3 Q E x0 false H)
def zqg1_5_M:Prop:=mP (τ 0) fun x0=>zqg1_5 Q E x0 H
theorem zqg1_6ok :Ok Pr (zqg1_5_M Q E) (sA (sA (sB (bodyOf Try.f79)))) (xthen (zqg1_3_M Q E) (zqg1_q2 Q E)) E:=fun τ H h =>
  wP 0 h (fun x0 h=>(conv (by kernel_rfl) h))
theorem zqg1_7ok :Ok Pr (zqg1_5_M Q E) (sA (sB (bodyOf Try.f79))) (zqg1_q2 Q E) E:=fun τ H h =>
  (conv (by kernel_rfl) (vc_seq (K:=(zqg1_3_M Q E)) (zqg1_6ok Q E τ H h) (zqg1_4ok Q E)))
theorem zqg1_8ok :Ok Pr (zqg1_5_M Q E) (sB (bodyOf Try.f79)) (zqg1_q1 Q E) E:=fun τ H h =>
  (conv (by kernel_rfl) (vc_seq (K:=(zqg1_1_M Q E)) (zqg1_7ok Q E τ H h) (zqg1_2ok Q E)))
def zqg1 (Q:QT) (E:ET) (a0:OA) (H:Heap):Prop :=
 zqg1_5 Q E a0 H
theorem zqg1_fn (a0:OA) (Q:QT) (E:ET) (H:Heap) (h:zqg1 Q E a0 H)  :Does Pr 79 #[(.pointer a0)] H Q E :=
  Fn_of_vc (fn:=Try.f79) (c:=(bodyOf Try.f79)) (args:=[(.pointer a0)]) mixed (by kernel_rfl) (by kernel_rfl) (by kernel_rfl) (by kernel_rfl) (by kernel_rfl) ((conv (B:=vc Pr (bodyOf Try.f79) (argT [(.pointer a0)]) (zqg1_q1 Q E) E H) (by kernel_rfl) (vc_seq (K:=(zqg1_5_M Q E)) (conv (B:=vc Pr (sA (bodyOf Try.f79)) (argT [(.pointer a0)]) (xthen (zqg1_5_M Q E) (zqg1_q1 Q E)) E H) (by kernel_rfl) h) (zqg1_8ok Q E))))
noncomputable def zqh1_q1 (Q:QT) (E:ET) :XT:=(retQ Pr (Try.f80).results.toList Q)
def zqh1 (Q:QT) (E:ET) (a0:OA) (a1:Int) (H:Heap):Prop :=
 ptr a0 fun q1 =>
 ldSl (Addr.add q1 1) H fun p2 l3 c4 =>
 (0≤(a1:Int)∧(a1:Int) < (l3:Int))∧ptr p2 fun q5 =>
 ldB (Addr.add q5 ((a1:Int).toNat * 1)) H fun b6 =>
 sel (!b6)
 (ptr a0 fun q7 =>
 ldSl (Addr.add q7 1) H fun p8 l9 c10 =>
 (0≤(a1:Int)∧(a1:Int) < (l9:Int))∧ptr p8 fun q11 =>
 wr (Addr.add q11 ((a1:Int).toNat * 1)) [(.bool true)] H fun H12 =>
 ptr a0 fun q13 =>
 ldSl q13 H12 fun p14 l15 c16 =>
 nw (.cells #[(.int .i64 a1)] 3 (0,0)) H12 fun i17 H18 =>
 app Pr 22 p14 l15 c16 (.slice (some ⟨i17,0,none⟩) 1 1) H18 fun p19 l20 c21 H22 =>
 ptr a0 fun q23 =>
 wr q23 [(.slice p19 l20 c21)] H22 fun H24 =>
 Q (.tuple #[]) H24)
 (Q (.tuple #[]) H)
theorem zqh1_fn (a0:OA) (a1:Int) (Q:QT) (E:ET) (H:Heap) (h:zqh1 Q E a0 a1 H)  :Does Pr 80 #[(.pointer a0),(.int .i64 a1)] H Q E :=
  Fn_of_vc (fn:=Try.f80) (c:=(bodyOf Try.f80)) (args:=[(.pointer a0),(.int .i64 a1)]) mixed (by kernel_rfl) (by kernel_rfl) (by kernel_rfl) (by kernel_rfl) (by kernel_rfl) ((conv (B:=vc Pr (bodyOf Try.f80) (argT [(.pointer a0),(.int .i64 a1)]) (zqh1_q1 Q E) E H) (by kernel_rfl) h))
noncomputable def zqi1_q1 (Q:QT) (E:ET) :XT:=(retQ Pr (Try.f81).results.toList Q)
noncomputable def zqi1_p2:Code:=sB (sB (bodyOf Try.f81))
def zqi1_1 (Q:QT) (E:ET) (x5:Bool) (H:Heap):Prop :=
 Q (.bool x5) H
def zqi1_1_M:Prop:=mB (τ 5) fun x5=>zqi1_1 Q E x5 H
theorem zqi1_2ok :Ok Pr (zqi1_1_M Q E) (sB zqi1_p2) (zqi1_q1 Q E) E:=fun τ H h =>
  wB 5 h (fun x5 h=>(conv (by kernel_rfl) h))
noncomputable def zqi1_q2 :XT:=(xthen (zqi1_1_M Q E) (zqi1_q1 Q E))
noncomputable def zqi1_q4 (nx40:Bool→Int→HP):XT:=(xthen (fun τ H=>mB (τ 5) fun x5'=>mI .i64 (τ 6) fun x6'=>nx40 x5' x6' H) (xblock 0 (zqi1_q2 Q E)))
noncomputable def zqi1_p7:Code:=sI (sI (sB (sA zqi1_p2)))
def zqi1_3 (nx40:Bool→Int→HP) (Q:QT) (E:ET) (x0:OA) (x1 x5:Bool) (x6:Int) (H:Heap):Prop :=
 nx40 x5 (IntKind.wrap .i64 (x6+1)) H
def zqi1_3_M (nx40:Bool→Int→HP) (τ:Tau) (H:Heap):Prop:=mP (τ 0) fun x0=>mB (τ 1) fun x1=>mB (τ 5) fun x5=>mI .i64 (τ 6) fun x6=>zqi1_3 nx40 Q E x0 x1 x5 x6 H
theorem zqi1_4ok (nx40:Bool→Int→HP):Ok Pr (zqi1_3_M Q E nx40) (sB (sB zqi1_p7)) (zqi1_q4 Q E nx40) E:=fun τ H h =>
  wP 0 h (fun x0 h=>wB 1 h (fun x1 h=>wB 5 h (fun x5 h=>wI 6 h (fun x6 h=>(conv (by kernel_rfl) h)))))
noncomputable def zqi1_q6 (nx40:Bool→Int→HP):XT:=(xblock 1 (xthen (zqi1_3_M Q E nx40) (zqi1_q4 Q E nx40)))
noncomputable def zqi1_p11:Code:=sI (sA (sB zqi1_p7))
def zqi1_5 (nx40:Bool→Int→HP) (Q:QT) (E:ET) (x0:OA) (x1:Bool) (x6:Int) (H:Heap):Prop :=
 zqi1_3 nx40 Q E x0 x1 true x6 H
def zqi1_5_M (nx40:Bool→Int→HP) (τ:Tau) (H:Heap):Prop:=mP (τ 0) fun x0=>mB (τ 1) fun x1=>mI .i64 (τ 6) fun x6=>zqi1_5 nx40 Q E x0 x1 x6 H
theorem zqi1_6ok (nx40:Bool→Int→HP):Ok Pr (zqi1_5_M Q E nx40) (sB (sI (sB zqi1_p11))) (xblock 2 (zqi1_q6 Q E nx40)) E:=fun τ H h =>
  wP 0 h (fun x0 h=>wB 1 h (fun x1 h=>wI 6 h (fun x6 h=>(conv (by kernel_rfl) h))))
noncomputable def zqi1_q8 (nx40:Bool→Int→HP):XT:=(xthen (zqi1_5_M Q E nx40) (xblock 2 (zqi1_q6 Q E nx40)))
noncomputable def zqi1_p16:Code:=sI (sA (sI (sB zqi1_p11)))
def zqi1_7 (nx40:Bool→Int→HP) (Q:QT) (E:ET) (x0:OA) (x1 x5:Bool) (x6:Int) (x7:OA) (H:Heap):Prop :=
 ptr x0 fun q125 =>
 ptr x7 fun q126 =>
 ldI .i64 (Addr.add q126 1) H fun n127 =>
 Does Pr 80 #[(.pointer (some (Addr.add q125 1))),(.int .i64 n127)] H (fun v128 H129 =>
 zqi1_3 nx40 Q E x0 x1 x5 x6 H129) (fun _ _=>False)
def zqi1_7_M (nx40:Bool→Int→HP) (τ:Tau) (H:Heap):Prop:=mP (τ 0) fun x0=>mB (τ 1) fun x1=>mB (τ 5) fun x5=>mI .i64 (τ 6) fun x6=>mP (τ 7) fun x7=>zqi1_7 nx40 Q E x0 x1 x5 x6 x7 H
theorem zqi1_8ok (nx40:Bool→Int→HP):Ok Pr (zqi1_7_M Q E nx40) (sB zqi1_p16) (xblock 5 (zqi1_q8 Q E nx40)) E:=fun τ H h =>
  wP 0 h (fun x0 h=>wB 1 h (fun x1 h=>wB 5 h (fun x5 h=>wI 6 h (fun x6 h=>wP 7 h (fun x7 h=>(conv (by kernel_rfl) h))))))
noncomputable def zqi1_q10 (nx40:Bool→Int→HP):XT:=(xthen (zqi1_7_M Q E nx40) (xblock 5 (zqi1_q8 Q E nx40)))
def zqi1_9 (nx40:Bool→Int→HP) (Q:QT) (E:ET) (x0:OA) (x1 x5:Bool) (x6:Int) (x7:OA) (H:Heap):Prop :=
 ptr x0 fun q136 =>
 ptr x7 fun q137 =>
 ldI .i64 (Addr.add q137 2) H fun n138 =>
 Does Pr 80 #[(.pointer (some (Addr.add q136 1))),(.int .i64 n138)] H (fun v139 H140 =>
 zqi1_7 nx40 Q E x0 x1 x5 x6 x7 H140) (fun _ _=>False)
def zqi1_9_M (nx40:Bool→Int→HP) (τ:Tau) (H:Heap):Prop:=mP (τ 0) fun x0=>mB (τ 1) fun x1=>mB (τ 5) fun x5=>mI .i64 (τ 6) fun x6=>mP (τ 7) fun x7=>zqi1_9 nx40 Q E x0 x1 x5 x6 x7 H
theorem zqi1_10ok (nx40:Bool→Int→HP):Ok Pr (zqi1_9_M Q E nx40) (sB (sI (sA zqi1_p16))) (xblock 4 (zqi1_q10 Q E nx40)) E:=fun τ H h =>
  wP 0 h (fun x0 h=>wB 1 h (fun x1 h=>wB 5 h (fun x5 h=>wI 6 h (fun x6 h=>wP 7 h (fun x7 h=>(conv (by kernel_rfl) h))))))
noncomputable def zqi1_q12 (nx40:Bool→Int→HP):XT:=(xthen (zqi1_9_M Q E nx40) (xblock 4 (zqi1_q10 Q E nx40)))
noncomputable def zqi1_q14 (nx40:Bool→Int→HP):XT:=(xthen (fun τ H=>vc Pr (sB (sI (sA (sI (sA zqi1_p16))))) τ (xblock 3 (zqi1_q12 Q E nx40)) E H) (xblock 3 (zqi1_q12 Q E nx40)))
noncomputable def zqi1_p23:Code:=sA (sI (sA (sI (sA zqi1_p16))))
def zqi1_11 (nx40:Bool→Int→HP) (Q:QT) (E:ET) (x0:OA) (x1 x5:Bool) (x6:Int) (x7:OA) (H:Heap):Prop :=
 ptr x7 fun q152 =>
 ldI .i64 q152 H fun n153 =>
 sel (n153 == 5)
 (zqi1_5 nx40 Q E x0 x1 x6 H)
 (zqi1_3 nx40 Q E x0 x1 x5 x6 H)
def zqi1_11_M (nx40:Bool→Int→HP) (τ:Tau) (H:Heap):Prop:=mP (τ 0) fun x0=>mB (τ 1) fun x1=>mB (τ 5) fun x5=>mI .i64 (τ 6) fun x6=>mP (τ 7) fun x7=>zqi1_11 nx40 Q E x0 x1 x5 x6 x7 H
theorem zqi1_12ok (nx40:Bool→Int→HP):Ok Pr (zqi1_11_M Q E nx40) (sB (sB zqi1_p23)) (zqi1_q14 Q E nx40) E:=fun τ H h =>
  wP 0 h (fun x0 h=>wB 1 h (fun x1 h=>wB 5 h (fun x5 h=>wI 6 h (fun x6 h=>wP 7 h (fun x7 h=>(conv (by kernel_rfl) h))))))
noncomputable def zqi1_q15 (nx40:Bool→Int→HP):XT:=(xthen (zqi1_11_M Q E nx40) (zqi1_q14 Q E nx40))
noncomputable def zqi1_p26:Code:=sA (sB zqi1_p23)
def zqi1_13 (nx40:Bool→Int→HP) (Q:QT) (E:ET) (x0:OA) (x1 x5:Bool) (x6:Int) (x7:OA) (x36:Bool) (H:Heap):Prop :=
 sel x36
 (zqi1_7 nx40 Q E x0 x1 x5 x6 x7 H)
 (zqi1_11 nx40 Q E x0 x1 x5 x6 x7 H)
def zqi1_13_M (nx40:Bool→Int→HP) (τ:Tau) (H:Heap):Prop:=mP (τ 0) fun x0=>mB (τ 1) fun x1=>mB (τ 5) fun x5=>mI .i64 (τ 6) fun x6=>mP (τ 7) fun x7=>mB (τ 36) fun x36=>zqi1_13 nx40 Q E x0 x1 x5 x6 x7 x36 H
theorem zqi1_14ok (nx40:Bool→Int→HP):Ok Pr (zqi1_13_M Q E nx40) (sB zqi1_p26) (zqi1_q15 Q E nx40) E:=fun τ H h =>
  wP 0 h (fun x0 h=>wB 1 h (fun x1 h=>wB 5 h (fun x5 h=>wI 6 h (fun x6 h=>wP 7 h (fun x7 h=>wB 36 h (fun x36 h=>(conv (by kernel_rfl) h)))))))
noncomputable def zqi1_q16 (nx40:Bool→Int→HP):XT:=(xthen (zqi1_13_M Q E nx40) (zqi1_q15 Q E nx40))
def zqi1_15 (nx40:Bool→Int→HP) (Q:QT) (E:ET) (x0:OA) (x1 x5:Bool) (x6:Int) (x7:OA) (x36:Bool) (H:Heap):Prop :=
 sel x36
 (zqi1_13 nx40 Q E x0 x1 x5 x6 x7 x36 H)
 (ptr x7 fun q161 =>
 ldI .i64 q161 H fun n162 =>
 sel (n162 == 4)
 (zqi1_13 nx40 Q E x0 x1 x5 x6 x7 x1 H)
 (zqi1_13 nx40 Q E x0 x1 x5 x6 x7 false H))
def zqi1_15_M (nx40:Bool→Int→HP) (τ:Tau) (H:Heap):Prop:=mP (τ 0) fun x0=>mB (τ 1) fun x1=>mB (τ 5) fun x5=>mI .i64 (τ 6) fun x6=>mP (τ 7) fun x7=>mB (τ 36) fun x36=>zqi1_15 nx40 Q E x0 x1 x5 x6 x7 x36 H
theorem zqi1_16ok (nx40:Bool→Int→HP):Ok Pr (zqi1_15_M Q E nx40) (sB (sA zqi1_p26)) (zqi1_q16 Q E nx40) E:=fun τ H h =>
  wP 0 h (fun x0 h=>wB 1 h (fun x1 h=>wB 5 h (fun x5 h=>wI 6 h (fun x6 h=>wP 7 h (fun x7 h=>wB 36 h (fun x36 h=>(conv (by kernel_rfl) h)))))))
noncomputable def zqi1_q17 (nx40:Bool→Int→HP):XT:=(xthen (zqi1_15_M Q E nx40) (zqi1_q16 Q E nx40))
def zqi1_17 (nx40:Bool→Int→HP) (Q:QT) (E:ET) (x0:OA) (x1 x5:Bool) (x6:Int) (x7:OA) (H:Heap):Prop :=
 ptr x7 fun q163 =>
 ldI .i64 q163 H fun n164 =>
 sel (n164 == 3)
 (ptr x0 fun q165 =>
 ldB (Addr.add q165 6) H fun b166 =>
 zqi1_15 nx40 Q E x0 x1 x5 x6 x7 b166 H)
 (zqi1_15 nx40 Q E x0 x1 x5 x6 x7 false H)
def zqi1_17_M (nx40:Bool→Int→HP) (τ:Tau) (H:Heap):Prop:=mP (τ 0) fun x0=>mB (τ 1) fun x1=>mB (τ 5) fun x5=>mI .i64 (τ 6) fun x6=>mP (τ 7) fun x7=>zqi1_17 nx40 Q E x0 x1 x5 x6 x7 H
theorem zqi1_18ok (nx40:Bool→Int→HP):Ok Pr (zqi1_17_M Q E nx40) (sA (sA zqi1_p26)) (zqi1_q17 Q E nx40) E:=fun τ H h =>
  wP 0 h (fun x0 h=>wB 1 h (fun x1 h=>wB 5 h (fun x5 h=>wI 6 h (fun x6 h=>wP 7 h (fun x7 h=>(conv (by kernel_rfl) h))))))
theorem zqi1_19ok (nx40:Bool→Int→HP):Ok Pr (zqi1_17_M Q E nx40) (sA zqi1_p26) (zqi1_q16 Q E nx40) E:=fun τ H h =>
  (conv (by kernel_rfl) (vc_seq (K:=(zqi1_15_M Q E nx40)) (zqi1_18ok Q E nx40 τ H h) (zqi1_16ok Q E nx40)))
theorem zqi1_20ok (nx40:Bool→Int→HP):Ok Pr (zqi1_17_M Q E nx40) zqi1_p26 (zqi1_q15 Q E nx40) E:=fun τ H h =>
  (conv (by kernel_rfl) (vc_seq (K:=(zqi1_13_M Q E nx40)) (zqi1_19ok Q E nx40 τ H h) (zqi1_14ok Q E nx40)))
theorem zqi1_21ok (nx40:Bool→Int→HP):Ok Pr (zqi1_17_M Q E nx40) (sB zqi1_p23) (zqi1_q14 Q E nx40) E:=fun τ H h =>
  (conv (by kernel_rfl) (vc_seq (K:=(zqi1_11_M Q E nx40)) (zqi1_20ok Q E nx40 τ H h) (zqi1_12ok Q E nx40)))
noncomputable def zqi1_q18 (nx40:Bool→Int→HP):XT:=(xthen (zqi1_17_M Q E nx40) (zqi1_q14 Q E nx40))
def zqi1_22 (nx40:Bool→Int→HP) (Q:QT) (E:ET) (x0:OA) (x1 x5:Bool) (x6:Int) (x7:OA) (H:Heap):Prop :=
 ptr x7 fun q167 =>
 ldI .i64 q167 H fun n168 =>
 sel (n168 == 2)
 (zqi1_9 nx40 Q E x0 x1 x5 x6 x7 H)
 (zqi1_17 nx40 Q E x0 x1 x5 x6 x7 H)
def zqi1_22_M (nx40:Bool→Int→HP) (τ:Tau) (H:Heap):Prop:=mP (τ 0) fun x0=>mB (τ 1) fun x1=>mB (τ 5) fun x5=>mI .i64 (τ 6) fun x6=>mP (τ 7) fun x7=>zqi1_22 nx40 Q E x0 x1 x5 x6 x7 H
theorem zqi1_23ok (nx40:Bool→Int→HP):Ok Pr (zqi1_22_M Q E nx40) (sA zqi1_p23) (zqi1_q18 Q E nx40) E:=fun τ H h =>
  wP 0 h (fun x0 h=>wB 1 h (fun x1 h=>wB 5 h (fun x5 h=>wI 6 h (fun x6 h=>wP 7 h (fun x7 h=>(conv (by kernel_rfl) h))))))
theorem zqi1_24ok (nx40:Bool→Int→HP):Ok Pr (zqi1_22_M Q E nx40) zqi1_p23 (zqi1_q14 Q E nx40) E:=fun τ H h =>
  (conv (by kernel_rfl) (vc_seq (K:=(zqi1_17_M Q E nx40)) (zqi1_23ok Q E nx40 τ H h) (zqi1_21ok Q E nx40)))
theorem zqi1_25ok (nx40:Bool→Int→HP):Ok Pr (zqi1_22_M Q E nx40) (sI (sA (sI (sA zqi1_p16)))) (xblock 3 (zqi1_q12 Q E nx40)) E:=fun τ H h =>
  (conv (by kernel_rfl) (zqi1_24ok Q E nx40 τ H h))
theorem zqi1_26ok (nx40:Bool→Int→HP):Ok Pr (zqi1_22_M Q E nx40) (sA (sI (sA zqi1_p16))) (zqi1_q12 Q E nx40) E:=fun τ H h =>
  (conv (by kernel_rfl) (zqi1_25ok Q E nx40 τ H h))
theorem zqi1_27ok (nx40:Bool→Int→HP):Ok Pr (zqi1_22_M Q E nx40) (sI (sA zqi1_p16)) (xblock 4 (zqi1_q10 Q E nx40)) E:=fun τ H h =>
  (conv (by kernel_rfl) (vc_seq (K:=(zqi1_9_M Q E nx40)) (zqi1_26ok Q E nx40 τ H h) (zqi1_10ok Q E nx40)))
theorem zqi1_28ok (nx40:Bool→Int→HP):Ok Pr (zqi1_22_M Q E nx40) (sA zqi1_p16) (zqi1_q10 Q E nx40) E:=fun τ H h =>
  (conv (by kernel_rfl) (zqi1_27ok Q E nx40 τ H h))
theorem zqi1_29ok (nx40:Bool→Int→HP):Ok Pr (zqi1_22_M Q E nx40) zqi1_p16 (xblock 5 (zqi1_q8 Q E nx40)) E:=fun τ H h =>
  (conv (by kernel_rfl) (vc_seq (K:=(zqi1_7_M Q E nx40)) (zqi1_28ok Q E nx40 τ H h) (zqi1_8ok Q E nx40)))
theorem zqi1_30ok (nx40:Bool→Int→HP):Ok Pr (zqi1_22_M Q E nx40) (sA (sI (sB zqi1_p11))) (zqi1_q8 Q E nx40) E:=fun τ H h =>
  (conv (by kernel_rfl) (zqi1_29ok Q E nx40 τ H h))
theorem zqi1_31ok (nx40:Bool→Int→HP):Ok Pr (zqi1_22_M Q E nx40) (sI (sB zqi1_p11)) (xblock 2 (zqi1_q6 Q E nx40)) E:=fun τ H h =>
  (conv (by kernel_rfl) (vc_seq (K:=(zqi1_5_M Q E nx40)) (zqi1_30ok Q E nx40 τ H h) (zqi1_6ok Q E nx40)))
theorem zqi1_32ok (nx40:Bool→Int→HP):Ok Pr (zqi1_22_M Q E nx40) (sB zqi1_p11) (zqi1_q6 Q E nx40) E:=fun τ H h =>
  (conv (by kernel_rfl) (zqi1_31ok Q E nx40 τ H h))
noncomputable def zqi1_q19 (nx40:Bool→Int→HP):XT:=(xthen (zqi1_22_M Q E nx40) (zqi1_q6 Q E nx40))
def zqi1_33 (nx40:Bool→Int→HP) (Q:QT) (E:ET) (x0:OA) (x1 x5:Bool) (x6:Int) (H:Heap):Prop :=
 ptr x0 fun q169 =>
 ldSl q169 H fun p170 l171 c172 =>
 ptr x0 fun q173 =>
 ldSl (Addr.add q173 1) H fun p174 l175 c176 =>
 (0≤x6∧x6 < (l175:Int))∧ptr p174 fun q177 =>
 ldI .i64 (Addr.add q177 (x6.toNat * 1)) H fun n178 =>
 (0≤n178∧n178 < (l171:Int))∧ptr p170 fun q179 =>
 ∃ n180 n181 n182 n183 n184 n185 n186:Int,Heap.rd H (Addr.add q179 (n178.toNat * 7)) 0 [(.int .i64 n180),(.int .i64 n181),(.int .i64 n182),(.int .u64 n183),(.int .u64 n184),(.int .u64 n185),(.int .u64 n186)]∧nw (.cells #[(.int .i64 0),(.int .i64 0),(.int .i64 0),(.int .u64 0),(.int .u64 0),(.int .u64 0),(.int .u64 0)] 91 (0,0)) H fun i187 H188 =>
 wr ⟨i187,0,none⟩ [(.int .i64 n180),(.int .i64 n181),(.int .i64 n182),(.int .u64 n183),(.int .u64 n184),(.int .u64 n185),(.int .u64 n186)] H188 fun H189 =>
 zqi1_22 nx40 Q E x0 x1 x5 x6 (some ⟨i187,0,none⟩) H189
def zqi1_33_M (nx40:Bool→Int→HP) (τ:Tau) (H:Heap):Prop:=mP (τ 0) fun x0=>mB (τ 1) fun x1=>mB (τ 5) fun x5=>mI .i64 (τ 6) fun x6=>zqi1_33 nx40 Q E x0 x1 x5 x6 H
theorem zqi1_34ok (nx40:Bool→Int→HP):Ok Pr (zqi1_33_M Q E nx40) (sA zqi1_p11) (zqi1_q19 Q E nx40) E:=fun τ H h =>
  wP 0 h (fun x0 h=>wB 1 h (fun x1 h=>wB 5 h (fun x5 h=>wI 6 h (fun x6 h=>(conv (by kernel_rfl) h)))))
theorem zqi1_35ok (nx40:Bool→Int→HP):Ok Pr (zqi1_33_M Q E nx40) zqi1_p11 (zqi1_q6 Q E nx40) E:=fun τ H h =>
  (conv (by kernel_rfl) (vc_seq (K:=(zqi1_22_M Q E nx40)) (zqi1_34ok Q E nx40 τ H h) (zqi1_32ok Q E nx40)))
theorem zqi1_36ok (nx40:Bool→Int→HP):Ok Pr (zqi1_33_M Q E nx40) (sA (sB zqi1_p7)) (xthen (zqi1_3_M Q E nx40) (zqi1_q4 Q E nx40)) E:=fun τ H h =>
  (conv (by kernel_rfl) (zqi1_35ok Q E nx40 τ H h))
theorem zqi1_37ok (nx40:Bool→Int→HP):Ok Pr (zqi1_33_M Q E nx40) (sB zqi1_p7) (zqi1_q4 Q E nx40) E:=fun τ H h =>
  (conv (by kernel_rfl) (vc_seq (K:=(zqi1_3_M Q E nx40)) (zqi1_36ok Q E nx40 τ H h) (zqi1_4ok Q E nx40)))
noncomputable def zqi1_q20 (nx40:Bool→Int→HP):XT:=(xthen (zqi1_33_M Q E nx40) (zqi1_q4 Q E nx40))
def zqi1_38 (nx40:Bool→Int→HP) (Q:QT) (E:ET) (x0:OA) (x1 x5:Bool) (x6:Int) (H:Heap):Prop :=
 ptr x0 fun q190 =>
 ldSl (Addr.add q190 1) H fun p191 l192 c193 =>
 sel (decide (x6 < (l192:Int)))
 (zqi1_33 nx40 Q E x0 x1 x5 x6 H)
 (zqi1_1 Q E x5 H)
def zqi1_38_M (nx40:Bool→Int→HP) (τ:Tau) (H:Heap):Prop:=mP (τ 0) fun x0=>mB (τ 1) fun x1=>mB (τ 5) fun x5=>mI .i64 (τ 6) fun x6=>zqi1_38 nx40 Q E x0 x1 x5 x6 H
theorem zqi1_39ok (nx40:Bool→Int→HP):Ok Pr (zqi1_38_M Q E nx40) (sA zqi1_p7) (zqi1_q20 Q E nx40) E:=fun τ H h =>
  wP 0 h (fun x0 h=>wB 1 h (fun x1 h=>wB 5 h (fun x5 h=>wI 6 h (fun x6 h=>(conv (by kernel_rfl) h)))))
theorem zqi1_40ok (nx40:Bool→Int→HP):Ok Pr (zqi1_38_M Q E nx40) zqi1_p7 (zqi1_q4 Q E nx40) E:=fun τ H h =>
  (conv (by kernel_rfl) (vc_seq (K:=(zqi1_33_M Q E nx40)) (zqi1_39ok Q E nx40 τ H h) (zqi1_37ok Q E nx40)))
def zqi1_41 (Q:QT) (E:ET) (x0:OA) (x1 x5:Bool) (x6:Int) (H:Heap):Prop :=
 ∃ (I:Bool→Int→HP) (μ:Bool→Int→Heap→Nat),I x5 x6 H∧∀ (x5:Bool) (x6:Int) (H:Heap),I x5 x6 H →
 zqi1_38 (fun x5' x6' H1=>I x5' x6' H1∧μ x5' x6' H1 < μ x5 x6 H) Q E x0 x1 x5 x6 H
def zqi1_41_M:Prop:=mP (τ 0) fun x0=>mB (τ 1) fun x1=>mB (τ 5) fun x5=>mI .i64 (τ 6) fun x6=>zqi1_41 Q E x0 x1 x5 x6 H
theorem zqi1_42ok :Ok Pr (zqi1_41_M Q E) (sI (sB (sA zqi1_p2))) (xblock 0 (zqi1_q2 Q E)) E:=fun τ H h =>
  wP 0 h (fun x0 h=>wB 1 h (fun x1 h=>wB 5 h (fun x5 h=>wI 6 h (fun x6 h=>match h with | ⟨I,μ,h0,hr⟩=>(conv (by kernel_rfl) (vc_loopG (c:=sI (sI (sB (sA zqi1_p2)))) (τ:=(Tau.upd (Tau.upd (Tau.upd (Tau.upd τ 0 (.pointer x0)) 1 (.bool x1)) 5 (.bool x5)) 6 (.int .i64 x6))) [0,1] (fun τ H=>mB (τ 5) fun x5'=>mI .i64 (τ 6) fun x6'=>I x5' x6' H) (fun τ H=>μ (gB (τ 5)) (gI (τ 6)) H) (by kernel_rfl) h0 (fun τ1 H1 hf hI=>uF 0 (.pointer x0) (hf 0 (by simp)) (uF 1 (.bool x1) (hf 1 (by simp)) (uB 5 hI (fun x5r h=>uI 6 h (fun x6r h=>lgx (zqi1_40ok Q E (fun x5' x6' H2=>I x5' x6' H2∧μ x5' x6' H2 < μ x5r x6r H1) (Tau.upd (Tau.upd (Tau.upd (Tau.upd τ1 0 (.pointer x0)) 1 (.bool x1)) 5 (.bool x5r)) 6 (.int .i64 x6r)) H1 (conv (by kernel_rfl) (hr x5r x6r H1 h))) (fun τ2 H2 hk=>kB 5 hk (fun x5' h=>kI 6 h (fun x6' h=>conv (by kernel_rfl) h))))))))))))))
theorem zqi1_43ok :Ok Pr (zqi1_41_M Q E) (sB (sA zqi1_p2)) (zqi1_q2 Q E) E:=fun τ H h =>
  (conv (by kernel_rfl) (zqi1_42ok Q E τ H h))
noncomputable def zqi1_q21 :XT:=(xthen (zqi1_41_M Q E) (zqi1_q2 Q E))
def zqi1_44 (Q:QT) (E:ET) (x0:OA) (x1 x5:Bool) (H:Heap):Prop :=
 zqi1_41 Q E x0 x1 x5 0 H
def zqi1_44_M:Prop:=mP (τ 0) fun x0=>mB (τ 1) fun x1=>mB (τ 5) fun x5=>zqi1_44 Q E x0 x1 x5 H
theorem zqi1_45ok :Ok Pr (zqi1_44_M Q E) (sA (sA zqi1_p2)) (zqi1_q21 Q E) E:=fun τ H h =>
  wP 0 h (fun x0 h=>wB 1 h (fun x1 h=>wB 5 h (fun x5 h=>(conv (by kernel_rfl) h))))
theorem zqi1_46ok :Ok Pr (zqi1_44_M Q E) (sA zqi1_p2) (zqi1_q2 Q E) E:=fun τ H h =>
  (conv (by kernel_rfl) (vc_seq (K:=(zqi1_41_M Q E)) (zqi1_45ok Q E τ H h) (zqi1_43ok Q E)))
theorem zqi1_47ok :Ok Pr (zqi1_44_M Q E) zqi1_p2 (zqi1_q1 Q E) E:=fun τ H h =>
  (conv (by kernel_rfl) (vc_seq (K:=(zqi1_1_M Q E)) (zqi1_46ok Q E τ H h) (zqi1_2ok Q E)))
noncomputable def zqi1_q22 :XT:=(xthen (zqi1_44_M Q E) (zqi1_q1 Q E))
def zqi1_48 (Q:QT) (E:ET) (x0:OA) (x1:Bool) (H:Heap):Prop :=
 zqi1_44 Q E x0 x1 false H
def zqi1_48_M:Prop:=mP (τ 0) fun x0=>mB (τ 1) fun x1=>zqi1_48 Q E x0 x1 H
theorem zqi1_49ok :Ok Pr (zqi1_48_M Q E) (sA (sB (bodyOf Try.f81))) (zqi1_q22 Q E) E:=fun τ H h =>
  wP 0 h (fun x0 h=>wB 1 h (fun x1 h=>(conv (by kernel_rfl) h)))
theorem zqi1_50ok :Ok Pr (zqi1_48_M Q E) (sB (bodyOf Try.f81)) (zqi1_q1 Q E) E:=fun τ H h =>
  (conv (by kernel_rfl) (vc_seq (K:=(zqi1_44_M Q E)) (zqi1_49ok Q E τ H h) (zqi1_47ok Q E)))
def zqi1 (Q:QT) (E:ET) (a0:OA) (a1:Bool) (H:Heap):Prop :=
 zqi1_48 Q E a0 a1 H
theorem zqi1_fn (a0:OA) (a1:Bool) (Q:QT) (E:ET) (H:Heap) (h:zqi1 Q E a0 a1 H)  :Does Pr 81 #[(.pointer a0),(.bool a1)] H Q E :=
  Fn_of_vc (fn:=Try.f81) (c:=(bodyOf Try.f81)) (args:=[(.pointer a0),(.bool a1)]) mixed (by kernel_rfl) (by kernel_rfl) (by kernel_rfl) (by kernel_rfl) (by kernel_rfl) ((conv (B:=vc Pr (bodyOf Try.f81) (argT [(.pointer a0),(.bool a1)]) (zqi1_q1 Q E) E H) (by kernel_rfl) (vc_seq (K:=(zqi1_48_M Q E)) (conv (B:=vc Pr (sA (bodyOf Try.f81)) (argT [(.pointer a0),(.bool a1)]) (xthen (zqi1_48_M Q E) (zqi1_q1 Q E)) E H) (by kernel_rfl) h) (zqi1_50ok Q E))))
noncomputable def zqj1_q1 (Q:QT) (E:ET) :XT:=(retQ Pr (Try.f82).results.toList Q)
def zqj1 (Q:QT) (E:ET) (a0:OA) (a1_0:Int) (a1_1:Int) (a1_2:Int) (a1_3:Int) (a1_4:Int) (a1_5:Int) (a1_6:Int) (H:Heap):Prop :=
 nw (.cells #[(.int .i64 a1_0),(.int .i64 a1_1),(.int .i64 a1_2),(.int .u64 a1_3),(.int .u64 a1_4),(.int .u64 a1_5),(.int .u64 a1_6)] 91 (0,0)) H fun i1 H2 =>
 ptr a0 fun q3 =>
 ldSl (Addr.add q3 1) H2 fun p4 l5 c6 =>
 ∃ n7 n8 n9 n10 n11 n12 n13:Int,Heap.rd H2 ⟨i1,0,none⟩ 0 [(.int .i64 n7),(.int .i64 n8),(.int .i64 n9),(.int .u64 n10),(.int .u64 n11),(.int .u64 n12),(.int .u64 n13)]∧nw (.cells #[(.int .i64 n7),(.int .i64 n8),(.int .i64 n9),(.int .u64 n10),(.int .u64 n11),(.int .u64 n12),(.int .u64 n13)] 91 (0,0)) H2 fun i14 H15 =>
 app Pr 50 p4 l5 c6 (.slice (some ⟨i14,0,none⟩) 1 1) H15 fun p16 l17 c18 H19 =>
 ptr a0 fun q20 =>
 wr (Addr.add q20 1) [(.slice p16 l17 c18)] H19 fun H21 =>
 ptr a0 fun q22 =>
 ldSl (Addr.add q22 1) H21 fun p23 l24 c25 =>
 Q (.int .i64 (IntKind.wrap .i64 ((l24:Int) - 1))) H21
theorem zqj1_fn (a0:OA) (a1_0:Int) (a1_1:Int) (a1_2:Int) (a1_3:Int) (a1_4:Int) (a1_5:Int) (a1_6:Int) (Q:QT) (E:ET) (H:Heap) (h:zqj1 Q E a0 a1_0 a1_1 a1_2 a1_3 a1_4 a1_5 a1_6 H)  :Does Pr 82 #[(.pointer a0),(.agg #[(.int .i64 a1_0),(.int .i64 a1_1),(.int .i64 a1_2),(.int .u64 a1_3),(.int .u64 a1_4),(.int .u64 a1_5),(.int .u64 a1_6)])] H Q E :=
  Fn_of_vc (fn:=Try.f82) (c:=(bodyOf Try.f82)) (args:=[(.pointer a0),(.agg #[(.int .i64 a1_0),(.int .i64 a1_1),(.int .i64 a1_2),(.int .u64 a1_3),(.int .u64 a1_4),(.int .u64 a1_5),(.int .u64 a1_6)])]) mixed (by kernel_rfl) (by kernel_rfl) (by kernel_rfl) (by kernel_rfl) (by kernel_rfl) ((conv (B:=vc Pr (bodyOf Try.f82) (argT [(.pointer a0),(.agg #[(.int .i64 a1_0),(.int .i64 a1_1),(.int .i64 a1_2),(.int .u64 a1_3),(.int .u64 a1_4),(.int .u64 a1_5),(.int .u64 a1_6)])]) (zqj1_q1 Q E) E H) (by kernel_rfl) h))
noncomputable def zqk1_q1 (Q:QT) (E:ET) :XT:=(retQ Pr (Try.f83).results.toList Q)
noncomputable def zqk1_p1:Code:=sB (bodyOf Try.f83)
def zqk1_1 (Q:QT) (E:ET) (x2:Int) (H:Heap):Prop :=
 Q (.int .i64 x2) H
def zqk1_1_M:Prop:=mI .i64 (τ 2) fun x2=>zqk1_1 Q E x2 H
theorem zqk1_2ok :Ok Pr (zqk1_1_M Q E) (sB (sB zqk1_p1)) (zqk1_q1 Q E) E:=fun τ H h =>
  wI 2 h (fun x2 h=>(conv (by kernel_rfl) h))
noncomputable def zqk1_q2 :XT:=(xthen (zqk1_1_M Q E) (zqk1_q1 Q E))
noncomputable def zqk1_q3 :XT:=(xblock 0 (zqk1_q2 Q E))
noncomputable def zqk1_p6:Code:=sI (sB (sA (sB zqk1_p1)))
def zqk1_3 (Q:QT) (E:ET) (x0:OA) (x2:Int) (x7:OA) (H:Heap):Prop :=
 ptr x7 fun q73 =>
 ∃ n74 n75 n76 n77:Int,Heap.rd H (Addr.add q73 3) 0 [(.int .u64 n74),(.int .u64 n75),(.int .u64 n76),(.int .u64 n77)]∧Does Pr 82 #[(.pointer x0),(.agg #[(.int .i64 1),(.int .i64 x2),(.int .i64 0),(.int .u64 n74),(.int .u64 n75),(.int .u64 n76),(.int .u64 n77)])] H (fun v78 H79 =>
 ∃ n80:Int,v78=(.int .i64 n80)∧Q (.int .i64 n80) H79) E
def zqk1_3_M:Prop:=mP (τ 0) fun x0=>mI .i64 (τ 2) fun x2=>mP (τ 7) fun x7=>zqk1_3 Q E x0 x2 x7 H
theorem zqk1_4ok :Ok Pr (zqk1_3_M Q E) (sT (sB zqk1_p6)) (zqk1_q3 Q E) E:=fun τ H h =>
  wP 0 h (fun x0 h=>wI 2 h (fun x2 h=>wP 7 h (fun x7 h=>(conv (by kernel_rfl) h))))
noncomputable def zqk1_p9:Code:=sE (sB zqk1_p6)
def zqk1_5 (Q:QT) (E:ET) (x0:OA) (x2:Int) (H:Heap):Prop :=
 Does Pr 82 #[(.pointer x0),(.agg #[(.int .i64 3),(.int .i64 x2),(.int .i64 0),(.int .u64 0),(.int .u64 0),(.int .u64 0),(.int .u64 0)])] H (fun v81 H82 =>
 ∃ n83:Int,v81=(.int .i64 n83)∧Q (.int .i64 n83) H82) E
def zqk1_5_M:Prop:=mP (τ 0) fun x0=>mI .i64 (τ 2) fun x2=>zqk1_5 Q E x0 x2 H
theorem zqk1_6ok :Ok Pr (zqk1_5_M Q E) (sT (sB zqk1_p9)) (zqk1_q3 Q E) E:=fun τ H h =>
  wP 0 h (fun x0 h=>wI 2 h (fun x2 h=>(conv (by kernel_rfl) h)))
noncomputable def zqk1_p12:Code:=sE (sB zqk1_p9)
def zqk1_7 (Q:QT) (E:ET) (x0:OA) (x2:Int) (H:Heap):Prop :=
 Does Pr 82 #[(.pointer x0),(.agg #[(.int .i64 4),(.int .i64 x2),(.int .i64 0),(.int .u64 0),(.int .u64 0),(.int .u64 0),(.int .u64 0)])] H (fun v84 H85 =>
 ∃ n86:Int,v84=(.int .i64 n86)∧Q (.int .i64 n86) H85) E
def zqk1_7_M:Prop:=mP (τ 0) fun x0=>mI .i64 (τ 2) fun x2=>zqk1_7 Q E x0 x2 H
theorem zqk1_8ok :Ok Pr (zqk1_7_M Q E) (sT (sB zqk1_p12)) (zqk1_q3 Q E) E:=fun τ H h =>
  wP 0 h (fun x0 h=>wI 2 h (fun x2 h=>(conv (by kernel_rfl) h)))
noncomputable def zqk1_p15:Code:=sE (sB zqk1_p12)
def zqk1_9 (Q:QT) (E:ET) (x0:OA) (x2:Int) (x7:OA) (H:Heap):Prop :=
 ∃ Z87:Nat→Prop,
 ptr x7 fun q88 =>
 Z87 (Addr.block (Addr.add q88 1))∧ldI .i64 (Addr.add q88 1) H fun n89 =>
 ptr x7 fun q90 =>
 ldI .i64 (Addr.add q90 2) H fun n91 =>
 Does Pr 83 #[(.pointer x0),(.int .i64 n91),(.int .i64 x2)] H (fun v92 H93 =>
 ∃ n94:Int,v92=(.int .i64 n94)∧(∀ z,Z87 z→H z ≠ none→H93 z=H z)∧Does Pr 83 #[(.pointer x0),(.int .i64 n89),(.int .i64 n94)] H93 (fun v95 H96 =>
 ∃ n97:Int,v95=(.int .i64 n97)∧Q (.int .i64 n97) H96) (fun _ _=>False)) (fun _ _=>False)
def zqk1_9_M:Prop:=mP (τ 0) fun x0=>mI .i64 (τ 2) fun x2=>mP (τ 7) fun x7=>zqk1_9 Q E x0 x2 x7 H
theorem zqk1_10ok :Ok Pr (zqk1_9_M Q E) (sT (sB zqk1_p15)) (zqk1_q3 Q E) E:=fun τ H h =>
  wP 0 h (fun x0 h=>wI 2 h (fun x2 h=>wP 7 h (fun x7 h=>(conv (by kernel_rfl) h))))
noncomputable def zqk1_p18:Code:=sE (sB zqk1_p15)
def zqk1_11 (Q:QT) (E:ET) (x0:OA) (x2:Int) (x7:OA) (H:Heap):Prop :=
 ∃ Z98:Nat→Prop,
 ptr x7 fun q99 =>
 ldI .i64 (Addr.add q99 1) H fun n100 =>
 ptr x7 fun q101 =>
 Z98 (Addr.block (Addr.add q101 2))∧ldI .i64 (Addr.add q101 2) H fun n102 =>
 Does Pr 83 #[(.pointer x0),(.int .i64 n100),(.int .i64 x2)] H (fun v103 H104 =>
 ∃ n105:Int,v103=(.int .i64 n105)∧(∀ z,Z98 z→H z ≠ none→H104 z=H z)∧Does Pr 83 #[(.pointer x0),(.int .i64 n102),(.int .i64 x2)] H104 (fun v106 H107 =>
 ∃ n108:Int,v106=(.int .i64 n108)∧Does Pr 82 #[(.pointer x0),(.agg #[(.int .i64 2),(.int .i64 n105),(.int .i64 n108),(.int .u64 0),(.int .u64 0),(.int .u64 0),(.int .u64 0)])] H107 (fun v109 H110 =>
 ∃ n111:Int,v109=(.int .i64 n111)∧Q (.int .i64 n111) H110) (fun _ _=>False)) (fun _ _=>False)) (fun _ _=>False)
def zqk1_11_M:Prop:=mP (τ 0) fun x0=>mI .i64 (τ 2) fun x2=>mP (τ 7) fun x7=>zqk1_11 Q E x0 x2 x7 H
theorem zqk1_12ok :Ok Pr (zqk1_11_M Q E) (sT (sB zqk1_p18)) (zqk1_q3 Q E) E:=fun τ H h =>
  wP 0 h (fun x0 h=>wI 2 h (fun x2 h=>wP 7 h (fun x7 h=>(conv (by kernel_rfl) h))))
noncomputable def zqk1_p21:Code:=sE (sB zqk1_p18)
def zqk1_13 (Q:QT) (E:ET) (x0:OA) (x2:Int) (x7:OA) (H:Heap):Prop :=
 ptr x7 fun q112 =>
 ldI .i64 (Addr.add q112 1) H fun n113 =>
 Does Pr 83 #[(.pointer x0),(.int .i64 n113),(.int .i64 x2)] H (fun v114 H115 =>
 ∃ n116:Int,v114=(.int .i64 n116)∧Does Pr 82 #[(.pointer x0),(.agg #[(.int .i64 2),(.int .i64 n116),(.int .i64 x2),(.int .u64 0),(.int .u64 0),(.int .u64 0),(.int .u64 0)])] H115 (fun v117 H118 =>
 ∃ n119:Int,v117=(.int .i64 n119)∧Q (.int .i64 n119) H118) E) E
def zqk1_13_M:Prop:=mP (τ 0) fun x0=>mI .i64 (τ 2) fun x2=>mP (τ 7) fun x7=>zqk1_13 Q E x0 x2 x7 H
theorem zqk1_14ok :Ok Pr (zqk1_13_M Q E) (sT (sB zqk1_p21)) (zqk1_q3 Q E) E:=fun τ H h =>
  wP 0 h (fun x0 h=>wI 2 h (fun x2 h=>wP 7 h (fun x7 h=>(conv (by kernel_rfl) h))))
noncomputable def zqk1_p24:Code:=sE (sB zqk1_p21)
noncomputable def zqk1_p27:Code:=sB (sT (sB zqk1_p24))
def zqk1_15 (Q:QT) (E:ET) (x8:Int) (H:Heap):Prop :=
 Q (.int .i64 x8) H
def zqk1_15_M:Prop:=mI .i64 (τ 8) fun x8=>zqk1_15 Q E x8 H
theorem zqk1_16ok :Ok Pr (zqk1_15_M Q E) (sB (sB (sB zqk1_p27))) (zqk1_q3 Q E) E:=fun τ H h =>
  wI 8 h (fun x8 h=>(conv (by kernel_rfl) h))
noncomputable def zqk1_q4 :XT:=(xthen (zqk1_15_M Q E) (zqk1_q3 Q E))
def zqk1_17 (Q:QT) (E:ET) (x7:OA) (x8 x9:Int) (H:Heap):Prop :=
 ptr x7 fun q134 =>
 ldI .i64 q134 H fun n135 =>
 sel (n135 == 6)
 (Q (.int .i64 x9) H)
 (zqk1_15 Q E x8 H)
def zqk1_17_M:Prop:=mP (τ 7) fun x7=>mI .i64 (τ 8) fun x8=>mI .i64 (τ 9) fun x9=>zqk1_17 Q E x7 x8 x9 H
theorem zqk1_18ok :Ok Pr (zqk1_17_M Q E) (sA (sB (sB zqk1_p27))) (zqk1_q4 Q E) E:=fun τ H h =>
  wP 7 h (fun x7 h=>wI 8 h (fun x8 h=>wI 9 h (fun x9 h=>(conv (by kernel_rfl) h))))
theorem zqk1_19ok :Ok Pr (zqk1_17_M Q E) (sB (sB zqk1_p27)) (zqk1_q3 Q E) E:=fun τ H h =>
  (conv (by kernel_rfl) (vc_seq (K:=(zqk1_15_M Q E)) (zqk1_18ok Q E τ H h) (zqk1_16ok Q E)))
noncomputable def zqk1_q5 :XT:=(xthen (zqk1_17_M Q E) (zqk1_q3 Q E))
def zqk1_20 (Q:QT) (E:ET) (x0 x7:OA) (x8 x9:Int) (H:Heap):Prop :=
 ptr x0 fun q136 =>
 ldSl (Addr.add q136 1) H fun p137 l138 c139 =>
 (0≤x8∧x8 < (l138:Int))∧ptr p137 fun q140 =>
 wr (Addr.add (Addr.add q140 (x8.toNat * 7)) 1) [(.int .i64 x9)] H fun H141 =>
 zqk1_17 Q E x7 x8 x9 H141
def zqk1_20_M:Prop:=mP (τ 0) fun x0=>mP (τ 7) fun x7=>mI .i64 (τ 8) fun x8=>mI .i64 (τ 9) fun x9=>zqk1_20 Q E x0 x7 x8 x9 H
theorem zqk1_21ok :Ok Pr (zqk1_20_M Q E) (sA (sB zqk1_p27)) (zqk1_q5 Q E) E:=fun τ H h =>
  wP 0 h (fun x0 h=>wP 7 h (fun x7 h=>wI 8 h (fun x8 h=>wI 9 h (fun x9 h=>(conv (by kernel_rfl) h)))))
theorem zqk1_22ok :Ok Pr (zqk1_20_M Q E) (sB zqk1_p27) (zqk1_q3 Q E) E:=fun τ H h =>
  (conv (by kernel_rfl) (vc_seq (K:=(zqk1_17_M Q E)) (zqk1_21ok Q E τ H h) (zqk1_19ok Q E)))
noncomputable def zqk1_q6 :XT:=(xthen (zqk1_20_M Q E) (zqk1_q3 Q E))
def zqk1_23 (Q:QT) (E:ET) (x0 x7:OA) (x8:Int) (H:Heap):Prop :=
 ptr x7 fun q142 =>
 ldI .i64 (Addr.add q142 1) H fun n143 =>
 Does Pr 83 #[(.pointer x0),(.int .i64 n143),(.int .i64 x8)] H (fun v144 H145 =>
 ∃ n146:Int,v144=(.int .i64 n146)∧zqk1_20 Q E x0 x7 x8 n146 H145) E
def zqk1_23_M:Prop:=mP (τ 0) fun x0=>mP (τ 7) fun x7=>mI .i64 (τ 8) fun x8=>zqk1_23 Q E x0 x7 x8 H
theorem zqk1_24ok :Ok Pr (zqk1_23_M Q E) (sA zqk1_p27) (zqk1_q6 Q E) E:=fun τ H h =>
  wP 0 h (fun x0 h=>wP 7 h (fun x7 h=>wI 8 h (fun x8 h=>(conv (by kernel_rfl) h))))
theorem zqk1_25ok :Ok Pr (zqk1_23_M Q E) zqk1_p27 (zqk1_q3 Q E) E:=fun τ H h =>
  (conv (by kernel_rfl) (vc_seq (K:=(zqk1_20_M Q E)) (zqk1_24ok Q E τ H h) (zqk1_22ok Q E)))
noncomputable def zqk1_q7 :XT:=(xthen (zqk1_23_M Q E) (zqk1_q3 Q E))
def zqk1_26 (Q:QT) (E:ET) (x0:OA) (x2:Int) (x7:OA) (H:Heap):Prop :=
 Does Pr 82 #[(.pointer x0),(.agg #[(.int .i64 2),(.int .i64 0),(.int .i64 x2),(.int .u64 0),(.int .u64 0),(.int .u64 0),(.int .u64 0)])] H (fun v147 H148 =>
 ∃ n149:Int,v147=(.int .i64 n149)∧zqk1_23 Q E x0 x7 n149 H148) E
def zqk1_26_M:Prop:=mP (τ 0) fun x0=>mI .i64 (τ 2) fun x2=>mP (τ 7) fun x7=>zqk1_26 Q E x0 x2 x7 H
theorem zqk1_27ok :Ok Pr (zqk1_26_M Q E) (sA (sT (sB zqk1_p24))) (zqk1_q7 Q E) E:=fun τ H h =>
  wP 0 h (fun x0 h=>wI 2 h (fun x2 h=>wP 7 h (fun x7 h=>(conv (by kernel_rfl) h))))
theorem zqk1_28ok :Ok Pr (zqk1_26_M Q E) (sT (sB zqk1_p24)) (zqk1_q3 Q E) E:=fun τ H h =>
  (conv (by kernel_rfl) (vc_seq (K:=(zqk1_23_M Q E)) (zqk1_27ok Q E τ H h) (zqk1_25ok Q E)))
def zqk1_29 (Q:QT) (E:ET) (x2:Int) (H:Heap):Prop :=
 zqk1_1 Q E x2 H
def zqk1_29_M:Prop:=mI .i64 (τ 2) fun x2=>zqk1_29 Q E x2 H
theorem zqk1_30ok :Ok Pr (zqk1_29_M Q E) (sE (sB zqk1_p24)) (zqk1_q3 Q E) E:=fun τ H h =>
  wI 2 h (fun x2 h=>(conv (by kernel_rfl) h))
def zqk1_31 (Q:QT) (E:ET) (x0:OA) (x2:Int) (x7:OA) (x76:Bool) (H:Heap):Prop :=
 sel x76
 (zqk1_26 Q E x0 x2 x7 H)
 (zqk1_29 Q E x2 H)
def zqk1_31_M:Prop:=mP (τ 0) fun x0=>mI .i64 (τ 2) fun x2=>mP (τ 7) fun x7=>mB (τ 76) fun x76=>zqk1_31 Q E x0 x2 x7 x76 H
theorem zqk1_32ok :Ok Pr (zqk1_31_M Q E) (sB zqk1_p24) (zqk1_q3 Q E) E:=fun τ H h =>
  wP 0 h (fun x0 h=>wI 2 h (fun x2 h=>wP 7 h (fun x7 h=>wB 76 h (fun x76 h=>(conv (by kernel_rfl) (sel_mapT (b:=x76) (τ:=(Tau.upd (Tau.upd (Tau.upd (Tau.upd τ 0 (.pointer x0)) 2 (.int .i64 x2)) 7 (.pointer x7)) 76 (.bool x76))) (H:=H) (zqk1_28ok Q E) (zqk1_30ok Q E) (conv (by kernel_rfl) h)))))))
noncomputable def zqk1_q8 :XT:=(xthen (zqk1_31_M Q E) (zqk1_q3 Q E))
def zqk1_33 (Q:QT) (E:ET) (x0:OA) (x2:Int) (x7:OA) (x18:Int) (H:Heap):Prop :=
 sel (x18 == 5)
 (zqk1_31 Q E x0 x2 x7 (x18 == 5) H)
 (zqk1_31 Q E x0 x2 x7 (x18 == 6) H)
def zqk1_33_M:Prop:=mP (τ 0) fun x0=>mI .i64 (τ 2) fun x2=>mP (τ 7) fun x7=>mI .i64 (τ 18) fun x18=>zqk1_33 Q E x0 x2 x7 x18 H
theorem zqk1_34ok :Ok Pr (zqk1_33_M Q E) (sA zqk1_p24) (zqk1_q8 Q E) E:=fun τ H h =>
  wP 0 h (fun x0 h=>wI 2 h (fun x2 h=>wP 7 h (fun x7 h=>wI 18 h (fun x18 h=>(conv (by kernel_rfl) h)))))
theorem zqk1_35ok :Ok Pr (zqk1_33_M Q E) zqk1_p24 (zqk1_q3 Q E) E:=fun τ H h =>
  (conv (by kernel_rfl) (vc_seq (K:=(zqk1_31_M Q E)) (zqk1_34ok Q E τ H h) (zqk1_32ok Q E)))
def zqk1_36 (Q:QT) (E:ET) (x0:OA) (x2:Int) (x7:OA) (x18:Int) (x65:Bool) (H:Heap):Prop :=
 sel x65
 (zqk1_13 Q E x0 x2 x7 H)
 (zqk1_33 Q E x0 x2 x7 x18 H)
def zqk1_36_M:Prop:=mP (τ 0) fun x0=>mI .i64 (τ 2) fun x2=>mP (τ 7) fun x7=>mI .i64 (τ 18) fun x18=>mB (τ 65) fun x65=>zqk1_36 Q E x0 x2 x7 x18 x65 H
theorem zqk1_37ok :Ok Pr (zqk1_36_M Q E) (sB zqk1_p21) (zqk1_q3 Q E) E:=fun τ H h =>
  wP 0 h (fun x0 h=>wI 2 h (fun x2 h=>wP 7 h (fun x7 h=>wI 18 h (fun x18 h=>wB 65 h (fun x65 h=>(conv (by kernel_rfl) (sel_mapT (b:=x65) (τ:=(Tau.upd (Tau.upd (Tau.upd (Tau.upd (Tau.upd τ 0 (.pointer x0)) 2 (.int .i64 x2)) 7 (.pointer x7)) 18 (.int .i64 x18)) 65 (.bool x65))) (H:=H) (zqk1_14ok Q E) (zqk1_35ok Q E) (conv (by kernel_rfl) h))))))))
noncomputable def zqk1_q9 :XT:=(xthen (zqk1_36_M Q E) (zqk1_q3 Q E))
def zqk1_38 (Q:QT) (E:ET) (x0:OA) (x2:Int) (x7:OA) (x18:Int) (H:Heap):Prop :=
 zqk1_36 Q E x0 x2 x7 x18 (x18 == 7) H
def zqk1_38_M:Prop:=mP (τ 0) fun x0=>mI .i64 (τ 2) fun x2=>mP (τ 7) fun x7=>mI .i64 (τ 18) fun x18=>zqk1_38 Q E x0 x2 x7 x18 H
theorem zqk1_39ok :Ok Pr (zqk1_38_M Q E) (sA zqk1_p21) (zqk1_q9 Q E) E:=fun τ H h =>
  wP 0 h (fun x0 h=>wI 2 h (fun x2 h=>wP 7 h (fun x7 h=>wI 18 h (fun x18 h=>(conv (by kernel_rfl) h)))))
theorem zqk1_40ok :Ok Pr (zqk1_38_M Q E) zqk1_p21 (zqk1_q3 Q E) E:=fun τ H h =>
  (conv (by kernel_rfl) (vc_seq (K:=(zqk1_36_M Q E)) (zqk1_39ok Q E τ H h) (zqk1_37ok Q E)))
def zqk1_41 (Q:QT) (E:ET) (x0:OA) (x2:Int) (x7:OA) (x18:Int) (x50:Bool) (H:Heap):Prop :=
 sel x50
 (zqk1_11 Q E x0 x2 x7 H)
 (zqk1_38 Q E x0 x2 x7 x18 H)
def zqk1_41_M:Prop:=mP (τ 0) fun x0=>mI .i64 (τ 2) fun x2=>mP (τ 7) fun x7=>mI .i64 (τ 18) fun x18=>mB (τ 50) fun x50=>zqk1_41 Q E x0 x2 x7 x18 x50 H
theorem zqk1_42ok :Ok Pr (zqk1_41_M Q E) (sB zqk1_p18) (zqk1_q3 Q E) E:=fun τ H h =>
  wP 0 h (fun x0 h=>wI 2 h (fun x2 h=>wP 7 h (fun x7 h=>wI 18 h (fun x18 h=>wB 50 h (fun x50 h=>(conv (by kernel_rfl) (sel_mapT (b:=x50) (τ:=(Tau.upd (Tau.upd (Tau.upd (Tau.upd (Tau.upd τ 0 (.pointer x0)) 2 (.int .i64 x2)) 7 (.pointer x7)) 18 (.int .i64 x18)) 50 (.bool x50))) (H:=H) (zqk1_12ok Q E) (zqk1_40ok Q E) (conv (by kernel_rfl) h))))))))
noncomputable def zqk1_q10 :XT:=(xthen (zqk1_41_M Q E) (zqk1_q3 Q E))
def zqk1_43 (Q:QT) (E:ET) (x0:OA) (x2:Int) (x7:OA) (x18:Int) (H:Heap):Prop :=
 zqk1_41 Q E x0 x2 x7 x18 (x18 == 4) H
def zqk1_43_M:Prop:=mP (τ 0) fun x0=>mI .i64 (τ 2) fun x2=>mP (τ 7) fun x7=>mI .i64 (τ 18) fun x18=>zqk1_43 Q E x0 x2 x7 x18 H
theorem zqk1_44ok :Ok Pr (zqk1_43_M Q E) (sA zqk1_p18) (zqk1_q10 Q E) E:=fun τ H h =>
  wP 0 h (fun x0 h=>wI 2 h (fun x2 h=>wP 7 h (fun x7 h=>wI 18 h (fun x18 h=>(conv (by kernel_rfl) h)))))
theorem zqk1_45ok :Ok Pr (zqk1_43_M Q E) zqk1_p18 (zqk1_q3 Q E) E:=fun τ H h =>
  (conv (by kernel_rfl) (vc_seq (K:=(zqk1_41_M Q E)) (zqk1_44ok Q E τ H h) (zqk1_42ok Q E)))
def zqk1_46 (Q:QT) (E:ET) (x0:OA) (x2:Int) (x7:OA) (x18:Int) (x39:Bool) (H:Heap):Prop :=
 sel x39
 (zqk1_9 Q E x0 x2 x7 H)
 (zqk1_43 Q E x0 x2 x7 x18 H)
def zqk1_46_M:Prop:=mP (τ 0) fun x0=>mI .i64 (τ 2) fun x2=>mP (τ 7) fun x7=>mI .i64 (τ 18) fun x18=>mB (τ 39) fun x39=>zqk1_46 Q E x0 x2 x7 x18 x39 H
theorem zqk1_47ok :Ok Pr (zqk1_46_M Q E) (sB zqk1_p15) (zqk1_q3 Q E) E:=fun τ H h =>
  wP 0 h (fun x0 h=>wI 2 h (fun x2 h=>wP 7 h (fun x7 h=>wI 18 h (fun x18 h=>wB 39 h (fun x39 h=>(conv (by kernel_rfl) (sel_mapT (b:=x39) (τ:=(Tau.upd (Tau.upd (Tau.upd (Tau.upd (Tau.upd τ 0 (.pointer x0)) 2 (.int .i64 x2)) 7 (.pointer x7)) 18 (.int .i64 x18)) 39 (.bool x39))) (H:=H) (zqk1_10ok Q E) (zqk1_45ok Q E) (conv (by kernel_rfl) h))))))))
noncomputable def zqk1_q11 :XT:=(xthen (zqk1_46_M Q E) (zqk1_q3 Q E))
def zqk1_48 (Q:QT) (E:ET) (x0:OA) (x2:Int) (x7:OA) (x18:Int) (H:Heap):Prop :=
 zqk1_46 Q E x0 x2 x7 x18 (x18 == 3) H
def zqk1_48_M:Prop:=mP (τ 0) fun x0=>mI .i64 (τ 2) fun x2=>mP (τ 7) fun x7=>mI .i64 (τ 18) fun x18=>zqk1_48 Q E x0 x2 x7 x18 H
theorem zqk1_49ok :Ok Pr (zqk1_48_M Q E) (sA zqk1_p15) (zqk1_q11 Q E) E:=fun τ H h =>
  wP 0 h (fun x0 h=>wI 2 h (fun x2 h=>wP 7 h (fun x7 h=>wI 18 h (fun x18 h=>(conv (by kernel_rfl) h)))))
theorem zqk1_50ok :Ok Pr (zqk1_48_M Q E) zqk1_p15 (zqk1_q3 Q E) E:=fun τ H h =>
  (conv (by kernel_rfl) (vc_seq (K:=(zqk1_46_M Q E)) (zqk1_49ok Q E τ H h) (zqk1_47ok Q E)))
def zqk1_51 (Q:QT) (E:ET) (x0:OA) (x2:Int) (x7:OA) (x18:Int) (x33:Bool) (H:Heap):Prop :=
 sel x33
 (zqk1_7 Q E x0 x2 H)
 (zqk1_48 Q E x0 x2 x7 x18 H)
def zqk1_51_M:Prop:=mP (τ 0) fun x0=>mI .i64 (τ 2) fun x2=>mP (τ 7) fun x7=>mI .i64 (τ 18) fun x18=>mB (τ 33) fun x33=>zqk1_51 Q E x0 x2 x7 x18 x33 H
theorem zqk1_52ok :Ok Pr (zqk1_51_M Q E) (sB zqk1_p12) (zqk1_q3 Q E) E:=fun τ H h =>
  wP 0 h (fun x0 h=>wI 2 h (fun x2 h=>wP 7 h (fun x7 h=>wI 18 h (fun x18 h=>wB 33 h (fun x33 h=>(conv (by kernel_rfl) (sel_mapT (b:=x33) (τ:=(Tau.upd (Tau.upd (Tau.upd (Tau.upd (Tau.upd τ 0 (.pointer x0)) 2 (.int .i64 x2)) 7 (.pointer x7)) 18 (.int .i64 x18)) 33 (.bool x33))) (H:=H) (zqk1_8ok Q E) (zqk1_50ok Q E) (conv (by kernel_rfl) h))))))))
noncomputable def zqk1_q12 :XT:=(xthen (zqk1_51_M Q E) (zqk1_q3 Q E))
def zqk1_53 (Q:QT) (E:ET) (x0:OA) (x2:Int) (x7:OA) (x18:Int) (H:Heap):Prop :=
 zqk1_51 Q E x0 x2 x7 x18 (x18 == 9) H
def zqk1_53_M:Prop:=mP (τ 0) fun x0=>mI .i64 (τ 2) fun x2=>mP (τ 7) fun x7=>mI .i64 (τ 18) fun x18=>zqk1_53 Q E x0 x2 x7 x18 H
theorem zqk1_54ok :Ok Pr (zqk1_53_M Q E) (sA zqk1_p12) (zqk1_q12 Q E) E:=fun τ H h =>
  wP 0 h (fun x0 h=>wI 2 h (fun x2 h=>wP 7 h (fun x7 h=>wI 18 h (fun x18 h=>(conv (by kernel_rfl) h)))))
theorem zqk1_55ok :Ok Pr (zqk1_53_M Q E) zqk1_p12 (zqk1_q3 Q E) E:=fun τ H h =>
  (conv (by kernel_rfl) (vc_seq (K:=(zqk1_51_M Q E)) (zqk1_54ok Q E τ H h) (zqk1_52ok Q E)))
def zqk1_56 (Q:QT) (E:ET) (x0:OA) (x2:Int) (x7:OA) (x18:Int) (x27:Bool) (H:Heap):Prop :=
 sel x27
 (zqk1_5 Q E x0 x2 H)
 (zqk1_53 Q E x0 x2 x7 x18 H)
def zqk1_56_M:Prop:=mP (τ 0) fun x0=>mI .i64 (τ 2) fun x2=>mP (τ 7) fun x7=>mI .i64 (τ 18) fun x18=>mB (τ 27) fun x27=>zqk1_56 Q E x0 x2 x7 x18 x27 H
theorem zqk1_57ok :Ok Pr (zqk1_56_M Q E) (sB zqk1_p9) (zqk1_q3 Q E) E:=fun τ H h =>
  wP 0 h (fun x0 h=>wI 2 h (fun x2 h=>wP 7 h (fun x7 h=>wI 18 h (fun x18 h=>wB 27 h (fun x27 h=>(conv (by kernel_rfl) (sel_mapT (b:=x27) (τ:=(Tau.upd (Tau.upd (Tau.upd (Tau.upd (Tau.upd τ 0 (.pointer x0)) 2 (.int .i64 x2)) 7 (.pointer x7)) 18 (.int .i64 x18)) 27 (.bool x27))) (H:=H) (zqk1_6ok Q E) (zqk1_55ok Q E) (conv (by kernel_rfl) h))))))))
noncomputable def zqk1_q13 :XT:=(xthen (zqk1_56_M Q E) (zqk1_q3 Q E))
def zqk1_58 (Q:QT) (E:ET) (x0:OA) (x2:Int) (x7:OA) (x18:Int) (H:Heap):Prop :=
 zqk1_56 Q E x0 x2 x7 x18 (x18 == 8) H
def zqk1_58_M:Prop:=mP (τ 0) fun x0=>mI .i64 (τ 2) fun x2=>mP (τ 7) fun x7=>mI .i64 (τ 18) fun x18=>zqk1_58 Q E x0 x2 x7 x18 H
theorem zqk1_59ok :Ok Pr (zqk1_58_M Q E) (sA zqk1_p9) (zqk1_q13 Q E) E:=fun τ H h =>
  wP 0 h (fun x0 h=>wI 2 h (fun x2 h=>wP 7 h (fun x7 h=>wI 18 h (fun x18 h=>(conv (by kernel_rfl) h)))))
theorem zqk1_60ok :Ok Pr (zqk1_58_M Q E) zqk1_p9 (zqk1_q3 Q E) E:=fun τ H h =>
  (conv (by kernel_rfl) (vc_seq (K:=(zqk1_56_M Q E)) (zqk1_59ok Q E τ H h) (zqk1_57ok Q E)))
def zqk1_61 (Q:QT) (E:ET) (x0:OA) (x2:Int) (x7:OA) (x18:Int) (x19:Bool) (H:Heap):Prop :=
 sel x19
 (zqk1_3 Q E x0 x2 x7 H)
 (zqk1_58 Q E x0 x2 x7 x18 H)
def zqk1_61_M:Prop:=mP (τ 0) fun x0=>mI .i64 (τ 2) fun x2=>mP (τ 7) fun x7=>mI .i64 (τ 18) fun x18=>mB (τ 19) fun x19=>zqk1_61 Q E x0 x2 x7 x18 x19 H
theorem zqk1_62ok :Ok Pr (zqk1_61_M Q E) (sB zqk1_p6) (zqk1_q3 Q E) E:=fun τ H h =>
  wP 0 h (fun x0 h=>wI 2 h (fun x2 h=>wP 7 h (fun x7 h=>wI 18 h (fun x18 h=>wB 19 h (fun x19 h=>(conv (by kernel_rfl) (sel_mapT (b:=x19) (τ:=(Tau.upd (Tau.upd (Tau.upd (Tau.upd (Tau.upd τ 0 (.pointer x0)) 2 (.int .i64 x2)) 7 (.pointer x7)) 18 (.int .i64 x18)) 19 (.bool x19))) (H:=H) (zqk1_4ok Q E) (zqk1_60ok Q E) (conv (by kernel_rfl) h))))))))
noncomputable def zqk1_q14 :XT:=(xthen (zqk1_61_M Q E) (zqk1_q3 Q E))
def zqk1_63 (Q:QT) (E:ET) (x0:OA) (x2:Int) (x7:OA) (x18:Int) (H:Heap):Prop :=
 zqk1_61 Q E x0 x2 x7 x18 (x18 == 2) H
def zqk1_63_M:Prop:=mP (τ 0) fun x0=>mI .i64 (τ 2) fun x2=>mP (τ 7) fun x7=>mI .i64 (τ 18) fun x18=>zqk1_63 Q E x0 x2 x7 x18 H
theorem zqk1_64ok :Ok Pr (zqk1_63_M Q E) (sA zqk1_p6) (zqk1_q14 Q E) E:=fun τ H h =>
  wP 0 h (fun x0 h=>wI 2 h (fun x2 h=>wP 7 h (fun x7 h=>wI 18 h (fun x18 h=>(conv (by kernel_rfl) h)))))
theorem zqk1_65ok :Ok Pr (zqk1_63_M Q E) zqk1_p6 (zqk1_q3 Q E) E:=fun τ H h =>
  (conv (by kernel_rfl) (vc_seq (K:=(zqk1_61_M Q E)) (zqk1_64ok Q E τ H h) (zqk1_62ok Q E)))
theorem zqk1_66ok :Ok Pr (zqk1_63_M Q E) (sB (sA (sB zqk1_p1))) (zqk1_q2 Q E) E:=fun τ H h =>
  (conv (by kernel_rfl) (zqk1_65ok Q E τ H h))
noncomputable def zqk1_q15 :XT:=(xthen (zqk1_63_M Q E) (zqk1_q2 Q E))
def zqk1_67 (Q:QT) (E:ET) (x0:OA) (x2:Int) (x7:OA) (H:Heap):Prop :=
 ptr x7 fun q150 =>
 ldI .i64 q150 H fun n151 =>
 zqk1_63 Q E x0 x2 x7 n151 H
def zqk1_67_M:Prop:=mP (τ 0) fun x0=>mI .i64 (τ 2) fun x2=>mP (τ 7) fun x7=>zqk1_67 Q E x0 x2 x7 H
theorem zqk1_68ok :Ok Pr (zqk1_67_M Q E) (sA (sA (sB zqk1_p1))) (zqk1_q15 Q E) E:=fun τ H h =>
  wP 0 h (fun x0 h=>wI 2 h (fun x2 h=>wP 7 h (fun x7 h=>(conv (by kernel_rfl) h))))
theorem zqk1_69ok :Ok Pr (zqk1_67_M Q E) (sA (sB zqk1_p1)) (zqk1_q2 Q E) E:=fun τ H h =>
  (conv (by kernel_rfl) (vc_seq (K:=(zqk1_63_M Q E)) (zqk1_68ok Q E τ H h) (zqk1_66ok Q E)))
theorem zqk1_70ok :Ok Pr (zqk1_67_M Q E) (sB zqk1_p1) (zqk1_q1 Q E) E:=fun τ H h =>
  (conv (by kernel_rfl) (vc_seq (K:=(zqk1_1_M Q E)) (zqk1_69ok Q E τ H h) (zqk1_2ok Q E)))
noncomputable def zqk1_q16 :XT:=(xthen (zqk1_67_M Q E) (zqk1_q1 Q E))
def zqk1_71 (Q:QT) (E:ET) (x0:OA) (x1 x2:Int) (H:Heap):Prop :=
 ptr x0 fun q152 =>
 ldSl q152 H fun p153 l154 c155 =>
 (0≤x1∧x1 < (l154:Int))∧ptr p153 fun q156 =>
 ∃ n157 n158 n159 n160 n161 n162 n163:Int,Heap.rd H (Addr.add q156 (x1.toNat * 7)) 0 [(.int .i64 n157),(.int .i64 n158),(.int .i64 n159),(.int .u64 n160),(.int .u64 n161),(.int .u64 n162),(.int .u64 n163)]∧nw (.cells #[(.int .i64 0),(.int .i64 0),(.int .i64 0),(.int .u64 0),(.int .u64 0),(.int .u64 0),(.int .u64 0)] 48 (0,0)) H fun i164 H165 =>
 wr ⟨i164,0,none⟩ [(.int .i64 n157),(.int .i64 n158),(.int .i64 n159),(.int .u64 n160),(.int .u64 n161),(.int .u64 n162),(.int .u64 n163)] H165 fun H166 =>
 zqk1_67 Q E x0 x2 (some ⟨i164,0,none⟩) H166
def zqk1_71_M:Prop:=mP (τ 0) fun x0=>mI .i64 (τ 1) fun x1=>mI .i64 (τ 2) fun x2=>zqk1_71 Q E x0 x1 x2 H
theorem zqk1_72ok :Ok Pr (zqk1_71_M Q E) (sA zqk1_p1) (zqk1_q16 Q E) E:=fun τ H h =>
  wP 0 h (fun x0 h=>wI 1 h (fun x1 h=>wI 2 h (fun x2 h=>(conv (by kernel_rfl) h))))
theorem zqk1_73ok :Ok Pr (zqk1_71_M Q E) zqk1_p1 (zqk1_q1 Q E) E:=fun τ H h =>
  (conv (by kernel_rfl) (vc_seq (K:=(zqk1_67_M Q E)) (zqk1_72ok Q E τ H h) (zqk1_70ok Q E)))
def zqk1 (Q:QT) (E:ET) (a0:OA) (a1:Int) (a2:Int) (H:Heap):Prop :=
 zqk1_71 Q E a0 a1 a2 H
theorem zqk1_fn (a0:OA) (a1:Int) (a2:Int) (Q:QT) (E:ET) (H:Heap) (h:zqk1 Q E a0 a1 a2 H)  :Does Pr 83 #[(.pointer a0),(.int .i64 a1),(.int .i64 a2)] H Q E :=
  Fn_of_vc (fn:=Try.f83) (c:=(bodyOf Try.f83)) (args:=[(.pointer a0),(.int .i64 a1),(.int .i64 a2)]) mixed (by kernel_rfl) (by kernel_rfl) (by kernel_rfl) (by kernel_rfl) (by kernel_rfl) ((conv (B:=vc Pr (bodyOf Try.f83) (argT [(.pointer a0),(.int .i64 a1),(.int .i64 a2)]) (zqk1_q1 Q E) E H) (by kernel_rfl) (vc_seq (K:=(zqk1_71_M Q E)) (conv (B:=vc Pr (sA (bodyOf Try.f83)) (argT [(.pointer a0),(.int .i64 a1),(.int .i64 a2)]) (xthen (zqk1_71_M Q E) (zqk1_q1 Q E)) E H) (by kernel_rfl) h) (zqk1_73ok Q E))))
noncomputable def zql1_q1 (Q:QT) (E:ET) :XT:=(retQ Pr (Try.f92).results.toList Q)
def zql1 (Q:QT) (E:ET) (a0:OA) (H:Heap):Prop :=
 ptr a0 fun q1 =>
 ldSl (Addr.add q1 1) H fun p2 l3 c4 =>
 wrS p2 0 (rep l3 [(.bool false)]) H fun H5 =>
 ptr a0 fun q6 =>
 ldSl q6 H5 fun p7 l8 c9 =>
 (0≤(0:Int)∧(0:Int)≤(c9:Int))∧ptr a0 fun q10 =>
 wr q10 [(.slice (if c9=0 then p7 else Option.map (fun a=>Addr.add a (0 * 1)) p7) ((0:Int).toNat - 0) (c9 - 0))] H5 fun H11 =>
 Q (.tuple #[]) H11
theorem zql1_fn (a0:OA) (Q:QT) (E:ET) (H:Heap) (h:zql1 Q E a0 H)  :Does Pr 92 #[(.pointer a0)] H Q E :=
  Fn_of_vc (fn:=Try.f92) (c:=(bodyOf Try.f92)) (args:=[(.pointer a0)]) mixed (by kernel_rfl) (by kernel_rfl) (by kernel_rfl) (by kernel_rfl) (by kernel_rfl) ((conv (B:=vc Pr (bodyOf Try.f92) (argT [(.pointer a0)]) (zql1_q1 Q E) E H) (by kernel_rfl) h))
end Go.Proofs.Ytaffcoiomggpfaa
