import Derived.Test.YtaffcoiomggpfaaVPr
/- Printed by gen.py: the Go functions of package matcher over a heap view,and that the model does so. -/
namespace Go.Proofs.Ytaffcoiomggpfaa
open Go.V
set_option linter.unusedVariables false
set_option maxRecDepth 100000
variable (Q:QT) (E:ET) (τ:Tau) (H:Heap)
noncomputable def zqm1_q1 (Q:QT) (E:ET) :XT:=(retQ Pr (Try.f45).results.toList Q)
noncomputable def zqm1_p3:Code:=sB (sB (sB (bodyOf Try.f45)))
def zqm1_1 (Q:QT) (E:ET) (x1:OA) (l1 c1:Nat) (H:Heap):Prop :=
 Q (.tuple #[(.int .i64 (l1:Int)),(.int .i64 (-1)),(.int .i64 0)]) H
def zqm1_1_M:Prop:=mSl (τ 1) fun x1 l1 c1=>zqm1_1 Q E x1 l1 c1 H
theorem zqm1_2ok :Ok Pr (zqm1_1_M Q E) (sB (sB (sB zqm1_p3))) (zqm1_q1 Q E) E:=fun τ H h =>
  wSl 1 h (fun x1 l1 c1 h=>(conv (by kernel_rfl) h))
noncomputable def zqm1_q2 :XT:=(xthen (zqm1_1_M Q E) (zqm1_q1 Q E))
noncomputable def zqm1_p7:Code:=sA (sB (sB zqm1_p3))
noncomputable def zqm1_q4 (nx29:Int→HP):XT:=(xthen (fun τ H=>mI .i64 (τ 26) fun x26'=>nx29 x26' H) (xblock 0 (zqm1_q2 Q E)))
noncomputable def zqm1_p10:Code:=sI (sI (sB zqm1_p7))
noncomputable def zqm1_p12:Code:=sB (sB zqm1_p10)
def zqm1_3 (nx29:Int→HP) (Q:QT) (E:ET) (x1:OA) (l1 c1:Nat) (x9 x24:OA) (l24 c24:Nat) (x25 x26:Int) (H:Heap):Prop :=
 nx29 (IntKind.wrap .i64 (x26+1)) H
def zqm1_3_M (nx29:Int→HP) (τ:Tau) (H:Heap):Prop:=mSl (τ 1) fun x1 l1 c1=>mP (τ 9) fun x9=>mSl (τ 24) fun x24 l24 c24=>mI .i64 (τ 25) fun x25=>mI .i64 (τ 26) fun x26=>zqm1_3 nx29 Q E x1 l1 c1 x9 x24 l24 c24 x25 x26 H
theorem zqm1_4ok (nx29:Int→HP):Ok Pr (zqm1_3_M Q E nx29) (sB zqm1_p12) (zqm1_q4 Q E nx29) E:=fun τ H h =>
  wSl 1 h (fun x1 l1 c1 h=>wP 9 h (fun x9 h=>wSl 24 h (fun x24 l24 c24 h=>wI 25 h (fun x25 h=>wI 26 h (fun x26 h=>(conv (by kernel_rfl) h))))))
noncomputable def zqm1_q5 (nx29:Int→HP):XT:=(xthen (zqm1_3_M Q E nx29) (zqm1_q4 Q E nx29))
def zqm1_5 (nx29:Int→HP) (Q:QT) (E:ET) (x1:OA) (l1 c1:Nat) (x9 x24:OA) (l24 c24:Nat) (x25 x26:Int) (H:Heap):Prop :=
 (0≤x26∧x26 < (l24:Int))∧ptr x24 fun q40 =>
 ldSl (Addr.add q40 (x26.toNat * 1)) H fun p41 l42 c43 =>
 Does Pr 52 #[(.pointer x9),(.slice p41 l42 c43)] H (fun v44 H45 =>
 ∃ b46:Bool,v44=(.bool b46)∧sel b46
 (Does Pr 53 #[(.pointer x9)] H45 (fun v47 H48 =>
 ∃ n49:Int,v47=(.int .i64 n49)∧Q (.tuple #[(.int .i64 x26),(.int .i64 n49),(.int .i64 0)]) H48) E)
 (zqm1_3 nx29 Q E x1 l1 c1 x9 x24 l24 c24 x25 x26 H45)) E
def zqm1_5_M (nx29:Int→HP) (τ:Tau) (H:Heap):Prop:=mSl (τ 1) fun x1 l1 c1=>mP (τ 9) fun x9=>mSl (τ 24) fun x24 l24 c24=>mI .i64 (τ 25) fun x25=>mI .i64 (τ 26) fun x26=>zqm1_5 nx29 Q E x1 l1 c1 x9 x24 l24 c24 x25 x26 H
theorem zqm1_6ok (nx29:Int→HP):Ok Pr (zqm1_5_M Q E nx29) (sA zqm1_p12) (zqm1_q5 Q E nx29) E:=fun τ H h =>
  wSl 1 h (fun x1 l1 c1 h=>wP 9 h (fun x9 h=>wSl 24 h (fun x24 l24 c24 h=>wI 25 h (fun x25 h=>wI 26 h (fun x26 h=>(conv (by kernel_rfl) h))))))
theorem zqm1_7ok (nx29:Int→HP):Ok Pr (zqm1_5_M Q E nx29) zqm1_p12 (zqm1_q4 Q E nx29) E:=fun τ H h =>
  (conv (by kernel_rfl) (vc_seq (K:=(zqm1_3_M Q E nx29)) (zqm1_6ok Q E nx29 τ H h) (zqm1_4ok Q E nx29)))
noncomputable def zqm1_q6 (nx29:Int→HP):XT:=(xthen (zqm1_5_M Q E nx29) (zqm1_q4 Q E nx29))
def zqm1_8 (nx29:Int→HP) (Q:QT) (E:ET) (x1:OA) (l1 c1:Nat) (x9 x24:OA) (l24 c24:Nat) (x25 x26:Int) (x27:Bool) (H:Heap):Prop :=
 sel x27
 (zqm1_5 nx29 Q E x1 l1 c1 x9 x24 l24 c24 x25 x26 H)
 (zqm1_1 Q E x1 l1 c1 H)
def zqm1_8_M (nx29:Int→HP) (τ:Tau) (H:Heap):Prop:=mSl (τ 1) fun x1 l1 c1=>mP (τ 9) fun x9=>mSl (τ 24) fun x24 l24 c24=>mI .i64 (τ 25) fun x25=>mI .i64 (τ 26) fun x26=>mB (τ 27) fun x27=>zqm1_8 nx29 Q E x1 l1 c1 x9 x24 l24 c24 x25 x26 x27 H
theorem zqm1_9ok (nx29:Int→HP):Ok Pr (zqm1_8_M Q E nx29) (sA (sB zqm1_p10)) (zqm1_q6 Q E nx29) E:=fun τ H h =>
  wSl 1 h (fun x1 l1 c1 h=>wP 9 h (fun x9 h=>wSl 24 h (fun x24 l24 c24 h=>wI 25 h (fun x25 h=>wI 26 h (fun x26 h=>wB 27 h (fun x27 h=>(conv (by kernel_rfl) h)))))))
theorem zqm1_10ok (nx29:Int→HP):Ok Pr (zqm1_8_M Q E nx29) (sB zqm1_p10) (zqm1_q4 Q E nx29) E:=fun τ H h =>
  (conv (by kernel_rfl) (vc_seq (K:=(zqm1_5_M Q E nx29)) (zqm1_9ok Q E nx29 τ H h) (zqm1_7ok Q E nx29)))
noncomputable def zqm1_q7 (nx29:Int→HP):XT:=(xthen (zqm1_8_M Q E nx29) (zqm1_q4 Q E nx29))
def zqm1_11 (nx29:Int→HP) (Q:QT) (E:ET) (x1:OA) (l1 c1:Nat) (x9 x24:OA) (l24 c24:Nat) (x25 x26:Int) (H:Heap):Prop :=
 zqm1_8 nx29 Q E x1 l1 c1 x9 x24 l24 c24 x25 x26 (decide (x26 < x25)) H
def zqm1_11_M (nx29:Int→HP) (τ:Tau) (H:Heap):Prop:=mSl (τ 1) fun x1 l1 c1=>mP (τ 9) fun x9=>mSl (τ 24) fun x24 l24 c24=>mI .i64 (τ 25) fun x25=>mI .i64 (τ 26) fun x26=>zqm1_11 nx29 Q E x1 l1 c1 x9 x24 l24 c24 x25 x26 H
theorem zqm1_12ok (nx29:Int→HP):Ok Pr (zqm1_11_M Q E nx29) (sA zqm1_p10) (zqm1_q7 Q E nx29) E:=fun τ H h =>
  wSl 1 h (fun x1 l1 c1 h=>wP 9 h (fun x9 h=>wSl 24 h (fun x24 l24 c24 h=>wI 25 h (fun x25 h=>wI 26 h (fun x26 h=>(conv (by kernel_rfl) h))))))
theorem zqm1_13ok (nx29:Int→HP):Ok Pr (zqm1_11_M Q E nx29) zqm1_p10 (zqm1_q4 Q E nx29) E:=fun τ H h =>
  (conv (by kernel_rfl) (vc_seq (K:=(zqm1_8_M Q E nx29)) (zqm1_12ok Q E nx29 τ H h) (zqm1_10ok Q E nx29)))
def zqm1_14 (Q:QT) (E:ET) (x1:OA) (l1 c1:Nat) (x9 x24:OA) (l24 c24:Nat) (x25 x26:Int) (H:Heap):Prop :=
 ∃ (I:Int→HP) (μ:Int→Heap→Nat),I x26 H∧∀ (x26:Int) (H:Heap),I x26 H →
 zqm1_11 (fun x26' H1=>I x26' H1∧μ x26' H1 < μ x26 H) Q E x1 l1 c1 x9 x24 l24 c24 x25 x26 H
def zqm1_14_M:Prop:=mSl (τ 1) fun x1 l1 c1=>mP (τ 9) fun x9=>mSl (τ 24) fun x24 l24 c24=>mI .i64 (τ 25) fun x25=>mI .i64 (τ 26) fun x26=>zqm1_14 Q E x1 l1 c1 x9 x24 l24 c24 x25 x26 H
theorem zqm1_15ok :Ok Pr (zqm1_14_M Q E) (sI (sB zqm1_p7)) (xblock 0 (zqm1_q2 Q E)) E:=fun τ H h =>
  wSl 1 h (fun x1 l1 c1 h=>wP 9 h (fun x9 h=>wSl 24 h (fun x24 l24 c24 h=>wI 25 h (fun x25 h=>wI 26 h (fun x26 h=>match h with | ⟨I,μ,h0,hr⟩=>(conv (by kernel_rfl) (vc_loopG (c:=sI (sI (sB zqm1_p7))) (τ:=(Tau.upd (Tau.upd (Tau.upd (Tau.upd (Tau.upd τ 1 (.slice x1 l1 c1)) 9 (.pointer x9)) 24 (.slice x24 l24 c24)) 25 (.int .i64 x25)) 26 (.int .i64 x26))) [1,9,24,25] (fun τ H=>mI .i64 (τ 26) fun x26'=>I x26' H) (fun τ H=>μ (gI (τ 26)) H) (by kernel_rfl) h0 (fun τ1 H1 hf hI=>uF 1 (.slice x1 l1 c1) (hf 1 (by simp)) (uF 9 (.pointer x9) (hf 9 (by simp)) (uF 24 (.slice x24 l24 c24) (hf 24 (by simp)) (uF 25 (.int .i64 x25) (hf 25 (by simp)) (uI 26 hI (fun x26r h=>lgx (zqm1_13ok Q E (fun x26' H2=>I x26' H2∧μ x26' H2 < μ x26r H1) (Tau.upd (Tau.upd (Tau.upd (Tau.upd (Tau.upd τ1 1 (.slice x1 l1 c1)) 9 (.pointer x9)) 24 (.slice x24 l24 c24)) 25 (.int .i64 x25)) 26 (.int .i64 x26r)) H1 (conv (by kernel_rfl) (hr x26r H1 h))) (fun τ2 H2 hk=>kI 26 hk (fun x26' h=>conv (by kernel_rfl) h)))))))))))))))
theorem zqm1_16ok :Ok Pr (zqm1_14_M Q E) (sB zqm1_p7) (zqm1_q2 Q E) E:=fun τ H h =>
  (conv (by kernel_rfl) (zqm1_15ok Q E τ H h))
noncomputable def zqm1_q8 :XT:=(xthen (zqm1_14_M Q E) (zqm1_q2 Q E))
def zqm1_17 (Q:QT) (E:ET) (x1:OA) (l1 c1:Nat) (x9:OA) (H:Heap):Prop :=
 zqm1_14 Q E x1 l1 c1 x9 x1 l1 c1 (l1:Int) 0 H
def zqm1_17_M:Prop:=mSl (τ 1) fun x1 l1 c1=>mP (τ 9) fun x9=>zqm1_17 Q E x1 l1 c1 x9 H
theorem zqm1_18ok :Ok Pr (zqm1_17_M Q E) (sA zqm1_p7) (zqm1_q8 Q E) E:=fun τ H h =>
  wSl 1 h (fun x1 l1 c1 h=>wP 9 h (fun x9 h=>(conv (by kernel_rfl) h)))
theorem zqm1_19ok :Ok Pr (zqm1_17_M Q E) zqm1_p7 (zqm1_q2 Q E) E:=fun τ H h =>
  (conv (by kernel_rfl) (vc_seq (K:=(zqm1_14_M Q E)) (zqm1_18ok Q E τ H h) (zqm1_16ok Q E)))
theorem zqm1_20ok :Ok Pr (zqm1_17_M Q E) (sB (sB zqm1_p3)) (zqm1_q1 Q E) E:=fun τ H h =>
  (conv (by kernel_rfl) (vc_seq (K:=(zqm1_1_M Q E)) (zqm1_19ok Q E τ H h) (zqm1_2ok Q E)))
noncomputable def zqm1_q9 :XT:=(xthen (zqm1_17_M Q E) (zqm1_q1 Q E))
def zqm1_21 (Q:QT) (E:ET) (x1:OA) (l1 c1:Nat) (x9:OA) (H:Heap):Prop :=
 Does Pr 79 #[(.pointer x9)] H (fun v50 H51 =>
 ∃ b52:Bool,v50=(.bool b52)∧sel b52
 (Q (.tuple #[(.int .i64 (-1)),(.int .i64 0),(.int .i64 0)]) H51)
 (zqm1_17 Q E x1 l1 c1 x9 H51)) E
def zqm1_21_M:Prop:=mSl (τ 1) fun x1 l1 c1=>mP (τ 9) fun x9=>zqm1_21 Q E x1 l1 c1 x9 H
theorem zqm1_22ok :Ok Pr (zqm1_21_M Q E) (sA (sB zqm1_p3)) (zqm1_q9 Q E) E:=fun τ H h =>
  wSl 1 h (fun x1 l1 c1 h=>wP 9 h (fun x9 h=>(conv (by kernel_rfl) h)))
theorem zqm1_23ok :Ok Pr (zqm1_21_M Q E) (sB zqm1_p3) (zqm1_q1 Q E) E:=fun τ H h =>
  (conv (by kernel_rfl) (vc_seq (K:=(zqm1_17_M Q E)) (zqm1_22ok Q E τ H h) (zqm1_20ok Q E)))
noncomputable def zqm1_q10 :XT:=(xthen (zqm1_21_M Q E) (zqm1_q1 Q E))
def zqm1_24 (Q:QT) (E:ET) (x1:OA) (l1 c1:Nat) (x7:OA) (H:Heap):Prop :=
 ptr x7 fun q53 =>
 ∃ (p54:OA) (l55 c56:Nat),Heap.rd H q53 0 [(.slice p54 l55 c56)]∧Does Pr 78 #[(.agg #[(.slice p54 l55 c56)])] H (fun v57 H58 =>
 ∃ p59:OA,v57=(.pointer p59)∧zqm1_21 Q E x1 l1 c1 p59 H58) E
def zqm1_24_M:Prop:=mSl (τ 1) fun x1 l1 c1=>mP (τ 7) fun x7=>zqm1_24 Q E x1 l1 c1 x7 H
theorem zqm1_25ok :Ok Pr (zqm1_24_M Q E) (sA zqm1_p3) (zqm1_q10 Q E) E:=fun τ H h =>
  wSl 1 h (fun x1 l1 c1 h=>wP 7 h (fun x7 h=>(conv (by kernel_rfl) h)))
theorem zqm1_26ok :Ok Pr (zqm1_24_M Q E) zqm1_p3 (zqm1_q1 Q E) E:=fun τ H h =>
  (conv (by kernel_rfl) (vc_seq (K:=(zqm1_21_M Q E)) (zqm1_25ok Q E τ H h) (zqm1_23ok Q E)))
noncomputable def zqm1_q11 :XT:=(xthen (zqm1_24_M Q E) (zqm1_q1 Q E))
def zqm1_27 (Q:QT) (E:ET) (x1:OA) (l1 c1:Nat) (x7:OA) (x8:Int) (H:Heap):Prop :=
 sel (x8 != 0)
 (Q (.tuple #[(.int .i64 0),(.int .i64 0),(.int .i64 x8)]) H)
 (zqm1_24 Q E x1 l1 c1 x7 H)
def zqm1_27_M:Prop:=mSl (τ 1) fun x1 l1 c1=>mP (τ 7) fun x7=>mI .i64 (τ 8) fun x8=>zqm1_27 Q E x1 l1 c1 x7 x8 H
theorem zqm1_28ok :Ok Pr (zqm1_27_M Q E) (sA (sB (sB (bodyOf Try.f45)))) (zqm1_q11 Q E) E:=fun τ H h =>
  wSl 1 h (fun x1 l1 c1 h=>wP 7 h (fun x7 h=>wI 8 h (fun x8 h=>(conv (by kernel_rfl) h))))
theorem zqm1_29ok :Ok Pr (zqm1_27_M Q E) (sB (sB (bodyOf Try.f45))) (zqm1_q1 Q E) E:=fun τ H h =>
  (conv (by kernel_rfl) (vc_seq (K:=(zqm1_24_M Q E)) (zqm1_28ok Q E τ H h) (zqm1_26ok Q E)))
noncomputable def zqm1_q12 :XT:=(xthen (zqm1_27_M Q E) (zqm1_q1 Q E))
def zqm1_30 (Q:QT) (E:ET) (x0:ByteArray) (x1:OA) (l1 c1:Nat) (H:Heap):Prop :=
 Does Pr 77 #[(.string x0)] H (fun v60 H61 =>
 ∃ (p62:OA) (l63 c64:Nat),∃ n65:Int,v60=(.tuple #[(.agg #[(.slice p62 l63 c64)]),(.int .i64 n65)])∧nw (.cells #[(.slice none 0 0)] 118 (0,0)) H61 fun i66 H67 =>
 wr ⟨i66,0,none⟩ [(.slice p62 l63 c64)] H67 fun H68 =>
 zqm1_27 Q E x1 l1 c1 (some ⟨i66,0,none⟩) n65 H68) E
def zqm1_30_M:Prop:=mS (τ 0) fun x0=>mSl (τ 1) fun x1 l1 c1=>zqm1_30 Q E x0 x1 l1 c1 H
theorem zqm1_31ok :Ok Pr (zqm1_30_M Q E) (sA (sB (bodyOf Try.f45))) (zqm1_q12 Q E) E:=fun τ H h =>
  wS 0 h (fun x0 h=>wSl 1 h (fun x1 l1 c1 h=>(conv (by kernel_rfl) h)))
theorem zqm1_32ok :Ok Pr (zqm1_30_M Q E) (sB (bodyOf Try.f45)) (zqm1_q1 Q E) E:=fun τ H h =>
  (conv (by kernel_rfl) (vc_seq (K:=(zqm1_27_M Q E)) (zqm1_31ok Q E τ H h) (zqm1_29ok Q E)))
def zqm1 (Q:QT) (E:ET) (a0:ByteArray) (a1:OA) (a1l:Nat) (a1c:Nat) (H:Heap):Prop :=
 zqm1_30 Q E a0 a1 a1l a1c H
theorem zqm1_fn (a0:ByteArray) (a1:OA) (a1l:Nat) (a1c:Nat) (Q:QT) (E:ET) (H:Heap) (h:zqm1 Q E a0 a1 a1l a1c H)  :Does Pr 45 #[(.string a0),(.slice a1 a1l a1c)] H Q E :=
  Fn_of_vc (fn:=Try.f45) (c:=(bodyOf Try.f45)) (args:=[(.string a0),(.slice a1 a1l a1c)]) mixed (by kernel_rfl) (by kernel_rfl) (by kernel_rfl) (by kernel_rfl) (by kernel_rfl) ((conv (B:=vc Pr (bodyOf Try.f45) (argT [(.string a0),(.slice a1 a1l a1c)]) (zqm1_q1 Q E) E H) (by kernel_rfl) (vc_seq (K:=(zqm1_30_M Q E)) (conv (B:=vc Pr (sA (bodyOf Try.f45)) (argT [(.string a0),(.slice a1 a1l a1c)]) (xthen (zqm1_30_M Q E) (zqm1_q1 Q E)) E H) (by kernel_rfl) h) (zqm1_32ok Q E))))
noncomputable def zqn1_q1 (Q:QT) (E:ET) :XT:=(retQ Pr (Try.f77).results.toList Q)
noncomputable def zqn1_p1:Code:=sB (bodyOf Try.f77)
def zqn1_1 (Q:QT) (E:ET) (x2 x4:OA) (l4 c4:Nat) (H:Heap):Prop :=
 Does Pr 33 #[(.slice x4 l4 c4)] H (fun v10 H11 =>
 ∃ (p12:OA) (l13 c14:Nat),∃ n15:Int,v10=(.tuple #[(.slice p12 l13 c14),(.int .i64 n15)])∧ptr x2 fun q17 =>
 wr q17 [(.slice p12 l13 c14)] H11 fun H16 =>
 ptr x2 fun q18 =>
 ∃ (p19:OA) (l20 c21:Nat),Heap.rd H16 q18 0 [(.slice p19 l20 c21)]∧Q (.tuple #[(.agg #[(.slice p19 l20 c21)]),(.int .i64 n15)]) H16) E
def zqn1_1_M:Prop:=mP (τ 2) fun x2=>mSl (τ 4) fun x4 l4 c4=>zqn1_1 Q E x2 x4 l4 c4 H
theorem zqn1_2ok :Ok Pr (zqn1_1_M Q E) (sB (sB zqn1_p1)) (zqn1_q1 Q E) E:=fun τ H h =>
  wP 2 h (fun x2 h=>wSl 4 h (fun x4 l4 c4 h=>(conv (by kernel_rfl) h)))
noncomputable def zqn1_q2 :XT:=(xthen (zqn1_1_M Q E) (zqn1_q1 Q E))
def zqn1_3 (Q:QT) (E:ET) (x2 x4:OA) (l4 c4:Nat) (x5:Int) (H:Heap):Prop :=
 sel (x5 != 0)
 (ptr x2 fun q23 =>
 wr q23 [(.slice none 0 0)] H fun H22 =>
 ptr x2 fun q24 =>
 ∃ (p25:OA) (l26 c27:Nat),Heap.rd H22 q24 0 [(.slice p25 l26 c27)]∧Q (.tuple #[(.agg #[(.slice p25 l26 c27)]),(.int .i64 x5)]) H22)
 (zqn1_1 Q E x2 x4 l4 c4 H)
def zqn1_3_M:Prop:=mP (τ 2) fun x2=>mSl (τ 4) fun x4 l4 c4=>mI .i64 (τ 5) fun x5=>zqn1_3 Q E x2 x4 l4 c4 x5 H
theorem zqn1_4ok :Ok Pr (zqn1_3_M Q E) (sA (sB zqn1_p1)) (zqn1_q2 Q E) E:=fun τ H h =>
  wP 2 h (fun x2 h=>wSl 4 h (fun x4 l4 c4 h=>wI 5 h (fun x5 h=>(conv (by kernel_rfl) h))))
theorem zqn1_5ok :Ok Pr (zqn1_3_M Q E) (sB zqn1_p1) (zqn1_q1 Q E) E:=fun τ H h =>
  (conv (by kernel_rfl) (vc_seq (K:=(zqn1_1_M Q E)) (zqn1_4ok Q E τ H h) (zqn1_2ok Q E)))
noncomputable def zqn1_q3 :XT:=(xthen (zqn1_3_M Q E) (zqn1_q1 Q E))
def zqn1_6 (Q:QT) (E:ET) (x0:ByteArray) (x2:OA) (H:Heap):Prop :=
 Does Pr 28 #[(.string x0)] H (fun v28 H29 =>
 ∃ (p30:OA) (l31 c32:Nat),∃ n33:Int,v28=(.tuple #[(.slice p30 l31 c32),(.int .i64 n33)])∧zqn1_3 Q E x2 p30 l31 c32 n33 H29) E
def zqn1_6_M:Prop:=mS (τ 0) fun x0=>mP (τ 2) fun x2=>zqn1_6 Q E x0 x2 H
theorem zqn1_7ok :Ok Pr (zqn1_6_M Q E) (sA zqn1_p1) (zqn1_q3 Q E) E:=fun τ H h =>
  wS 0 h (fun x0 h=>wP 2 h (fun x2 h=>(conv (by kernel_rfl) h)))
theorem zqn1_8ok :Ok Pr (zqn1_6_M Q E) zqn1_p1 (zqn1_q1 Q E) E:=fun τ H h =>
  (conv (by kernel_rfl) (vc_seq (K:=(zqn1_3_M Q E)) (zqn1_7ok Q E τ H h) (zqn1_5ok Q E)))
def zqn1 (Q:QT) (E:ET) (a0:ByteArray) (H:Heap):Prop :=
 nw (.cells #[(.slice none 0 0)] 118 (0,0)) H fun i34 H35 =>
 zqn1_6 Q E a0 (some ⟨i34,0,none⟩) H35
theorem zqn1_fn (a0:ByteArray) (Q:QT) (E:ET) (H:Heap) (h:zqn1 Q E a0 H)  :Does Pr 77 #[(.string a0)] H Q E :=
  Fn_of_vc (fn:=Try.f77) (c:=(bodyOf Try.f77)) (args:=[(.string a0)]) mixed (by kernel_rfl) (by kernel_rfl) (by kernel_rfl) (by kernel_rfl) (by kernel_rfl) ((conv (B:=vc Pr (bodyOf Try.f77) (argT [(.string a0)]) (zqn1_q1 Q E) E H) (by kernel_rfl) (vc_seq (K:=(zqn1_6_M Q E)) (conv (B:=vc Pr (sA (bodyOf Try.f77)) (argT [(.string a0)]) (xthen (zqn1_6_M Q E) (zqn1_q1 Q E)) E H) (by kernel_rfl) h) (zqn1_8ok Q E))))
noncomputable def zqo1_q1 (Q:QT) (E:ET) :XT:=(retQ Pr (Try.f78).results.toList Q)
def zqo1 (Q:QT) (E:ET) (a0_0:OA) (a0_0l:Nat) (a0_0c:Nat) (H:Heap):Prop :=
 nw (.cells #[(.slice a0_0 a0_0l a0_0c)] 118 (0,0)) H fun i1 H2 =>
 ldSl ⟨i1,0,none⟩ H2 fun p3 l4 c5 =>
 Does Pr 50 #[(.slice p3 l4 c5),(.bool false),(.bool true)] H2 (fun v6 H7 =>
 ∃ p8:OA,v6=(.pointer p8)∧Q (.pointer p8) H7) E
theorem zqo1_fn (a0_0:OA) (a0_0l:Nat) (a0_0c:Nat) (Q:QT) (E:ET) (H:Heap) (h:zqo1 Q E a0_0 a0_0l a0_0c H)  :Does Pr 78 #[(.agg #[(.slice a0_0 a0_0l a0_0c)])] H Q E :=
  Fn_of_vc (fn:=Try.f78) (c:=(bodyOf Try.f78)) (args:=[(.agg #[(.slice a0_0 a0_0l a0_0c)])]) mixed (by kernel_rfl) (by kernel_rfl) (by kernel_rfl) (by kernel_rfl) (by kernel_rfl) ((conv (B:=vc Pr (bodyOf Try.f78) (argT [(.agg #[(.slice a0_0 a0_0l a0_0c)])]) (zqo1_q1 Q E) E H) (by kernel_rfl) h))
end Go.Proofs.Ytaffcoiomggpfaa
