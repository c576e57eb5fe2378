import Derived.Test.YtaffcoiomggpfaaVPr
/- Printed by gen.py: the Go functions of package r11 over a heap view,and that the model does so. -/
namespace Go.Proofs.Ytaffcoiomggpfaa
open Go.V
set_option linter.unusedVariables false
set_option maxRecDepth 100000
variable (Q:QT) (E:ET) (τ:Tau) (H:Heap)
noncomputable def zqa1_q1 (Q:QT) (E:ET) :XT:=(retQ Pr (Try.f46).results.toList Q)
noncomputable def zqa1_p2:Code:=sB (sB (bodyOf Try.f46))
noncomputable def zqa1_p4:Code:=sB (sB zqa1_p2)
def zqa1_1 (Q:QT) (E:ET) (x1:OA) (l1 c1:Nat) (H:Heap):Prop :=
 Q (.tuple #[(.int .i64 (l1:Int)),(.int .i64 (-1)),(.int .i64 0)]) H
def zqa1_1_M:Prop:=mSl (τ 1) fun x1 l1 c1=>zqa1_1 Q E x1 l1 c1 H
theorem zqa1_2ok :Ok Pr (zqa1_1_M Q E) (sB (sB (sB zqa1_p4))) (zqa1_q1 Q E) E:=fun τ H h =>
  wSl 1 h (fun x1 l1 c1 h=>(conv (by kernel_rfl) h))
noncomputable def zqa1_q2 :XT:=(xthen (zqa1_1_M Q E) (zqa1_q1 Q E))
noncomputable def zqa1_p8:Code:=sA (sB (sB zqa1_p4))
noncomputable def zqa1_q4 (nx27:OA→Nat→Nat→Int→HP):XT:=(xthen (fun τ H=>mSl (τ 11) fun x11' l11' c11'=>mI .i64 (τ 12) fun x12'=>nx27 x11' l11' c11' x12' H) (xblock 0 (zqa1_q2 Q E)))
noncomputable def zqa1_p11:Code:=sI (sI (sB zqa1_p8))
def zqa1_3 (nx27:OA→Nat→Nat→Int→HP) (Q:QT) (E:ET) (x1:OA) (l1 c1:Nat) (x9:OA) (l9 c9:Nat) (x11:OA) (l11 c11:Nat) (x12:Int) (H:Heap):Prop :=
 nx27 x11 l11 c11 (IntKind.wrap .i64 (x12+1)) H
def zqa1_3_M (nx27:OA→Nat→Nat→Int→HP) (τ:Tau) (H:Heap):Prop:=mSl (τ 1) fun x1 l1 c1=>mSl (τ 9) fun x9 l9 c9=>mSl (τ 11) fun x11 l11 c11=>mI .i64 (τ 12) fun x12=>zqa1_3 nx27 Q E x1 l1 c1 x9 l9 c9 x11 l11 c11 x12 H
theorem zqa1_4ok (nx27:OA→Nat→Nat→Int→HP):Ok Pr (zqa1_3_M Q E nx27) (sB (sB zqa1_p11)) (zqa1_q4 Q E nx27) E:=fun τ H h =>
  wSl 1 h (fun x1 l1 c1 h=>wSl 9 h (fun x9 l9 c9 h=>wSl 11 h (fun x11 l11 c11 h=>wI 12 h (fun x12 h=>(conv (by kernel_rfl) h)))))
noncomputable def zqa1_q5 (nx27:OA→Nat→Nat→Int→HP):XT:=(xthen (zqa1_3_M Q E nx27) (zqa1_q4 Q E nx27))
def zqa1_5 (nx27:OA→Nat→Nat→Int→HP) (Q:QT) (E:ET) (x1:OA) (l1 c1:Nat) (x9:OA) (l9 c9:Nat) (x11:OA) (l11 c11:Nat) (x12:Int) (H:Heap):Prop :=
 (0≤x12∧x12 < (l1:Int))∧ptr x1 fun q39 =>
 ldSl (Addr.add q39 (x12.toNat * 1)) H fun p40 l41 c42 =>
 app Pr 24 x11 l11 c11 (.slice p40 l41 c42) H fun p43 l44 c45 H46 =>
 Does Pr 39 #[(.slice x9 l9 c9),(.slice p43 l44 c45)] H46 (fun v47 H48 =>
 ∃ n49:Int,v47=(.int .i64 n49)∧sel (decide (n49 ≥ 0))
 (Q (.tuple #[(.int .i64 x12),(.int .i64 n49),(.int .i64 0)]) H48)
 (zqa1_3 nx27 Q E x1 l1 c1 x9 l9 c9 p43 l44 c45 x12 H48)) E
def zqa1_5_M (nx27:OA→Nat→Nat→Int→HP) (τ:Tau) (H:Heap):Prop:=mSl (τ 1) fun x1 l1 c1=>mSl (τ 9) fun x9 l9 c9=>mSl (τ 11) fun x11 l11 c11=>mI .i64 (τ 12) fun x12=>zqa1_5 nx27 Q E x1 l1 c1 x9 l9 c9 x11 l11 c11 x12 H
theorem zqa1_6ok (nx27:OA→Nat→Nat→Int→HP):Ok Pr (zqa1_5_M Q E nx27) (sA (sB zqa1_p11)) (zqa1_q5 Q E nx27) E:=fun τ H h =>
  wSl 1 h (fun x1 l1 c1 h=>wSl 9 h (fun x9 l9 c9 h=>wSl 11 h (fun x11 l11 c11 h=>wI 12 h (fun x12 h=>(conv (by kernel_rfl) h)))))
theorem zqa1_7ok (nx27:OA→Nat→Nat→Int→HP):Ok Pr (zqa1_5_M Q E nx27) (sB zqa1_p11) (zqa1_q4 Q E nx27) E:=fun τ H h =>
  (conv (by kernel_rfl) (vc_seq (K:=(zqa1_3_M Q E nx27)) (zqa1_6ok Q E nx27 τ H h) (zqa1_4ok Q E nx27)))
noncomputable def zqa1_q6 (nx27:OA→Nat→Nat→Int→HP):XT:=(xthen (zqa1_5_M Q E nx27) (zqa1_q4 Q E nx27))
def zqa1_8 (nx27:OA→Nat→Nat→Int→HP) (Q:QT) (E:ET) (x1:OA) (l1 c1:Nat) (x9:OA) (l9 c9:Nat) (x11:OA) (l11 c11:Nat) (x12:Int) (H:Heap):Prop :=
 sel (decide (x12 < (l1:Int)))
 (zqa1_5 nx27 Q E x1 l1 c1 x9 l9 c9 x11 l11 c11 x12 H)
 (zqa1_1 Q E x1 l1 c1 H)
def zqa1_8_M (nx27:OA→Nat→Nat→Int→HP) (τ:Tau) (H:Heap):Prop:=mSl (τ 1) fun x1 l1 c1=>mSl (τ 9) fun x9 l9 c9=>mSl (τ 11) fun x11 l11 c11=>mI .i64 (τ 12) fun x12=>zqa1_8 nx27 Q E x1 l1 c1 x9 l9 c9 x11 l11 c11 x12 H
theorem zqa1_9ok (nx27:OA→Nat→Nat→Int→HP):Ok Pr (zqa1_8_M Q E nx27) (sA zqa1_p11) (zqa1_q6 Q E nx27) E:=fun τ H h =>
  wSl 1 h (fun x1 l1 c1 h=>wSl 9 h (fun x9 l9 c9 h=>wSl 11 h (fun x11 l11 c11 h=>wI 12 h (fun x12 h=>(conv (by kernel_rfl) h)))))
theorem zqa1_10ok (nx27:OA→Nat→Nat→Int→HP):Ok Pr (zqa1_8_M Q E nx27) zqa1_p11 (zqa1_q4 Q E nx27) E:=fun τ H h =>
  (conv (by kernel_rfl) (vc_seq (K:=(zqa1_5_M Q E nx27)) (zqa1_9ok Q E nx27 τ H h) (zqa1_7ok Q E nx27)))
def zqa1_11 (Q:QT) (E:ET) (x1:OA) (l1 c1:Nat) (x9:OA) (l9 c9:Nat) (x11:OA) (l11 c11:Nat) (x12:Int) (H:Heap):Prop :=
 ∃ (I:OA→Nat→Nat→Int→HP) (μ:OA→Nat→Nat→Int→Heap→Nat),I x11 l11 c11 x12 H∧∀ (x11:OA) (l11 c11:Nat) (x12:Int) (H:Heap),I x11 l11 c11 x12 H →
 zqa1_8 (fun x11' l11' c11' x12' H1=>I x11' l11' c11' x12' H1∧μ x11' l11' c11' x12' H1 < μ x11 l11 c11 x12 H) Q E x1 l1 c1 x9 l9 c9 x11 l11 c11 x12 H
def zqa1_11_M:Prop:=mSl (τ 1) fun x1 l1 c1=>mSl (τ 9) fun x9 l9 c9=>mSl (τ 11) fun x11 l11 c11=>mI .i64 (τ 12) fun x12=>zqa1_11 Q E x1 l1 c1 x9 l9 c9 x11 l11 c11 x12 H
theorem zqa1_12ok :Ok Pr (zqa1_11_M Q E) (sI (sB zqa1_p8)) (xblock 0 (zqa1_q2 Q E)) E:=fun τ H h =>
  wSl 1 h (fun x1 l1 c1 h=>wSl 9 h (fun x9 l9 c9 h=>wSl 11 h (fun x11 l11 c11 h=>wI 12 h (fun x12 h=>match h with | ⟨I,μ,h0,hr⟩=>(conv (by kernel_rfl) (vc_loopG (c:=sI (sI (sB zqa1_p8))) (τ:=(Tau.upd (Tau.upd (Tau.upd (Tau.upd τ 1 (.slice x1 l1 c1)) 9 (.slice x9 l9 c9)) 11 (.slice x11 l11 c11)) 12 (.int .i64 x12))) [1,9] (fun τ H=>mSl (τ 11) fun x11' l11' c11'=>mI .i64 (τ 12) fun x12'=>I x11' l11' c11' x12' H) (fun τ H=>μ (gL1 (τ 11)) (gL2 (τ 11)) (gL3 (τ 11)) (gI (τ 12)) H) (by kernel_rfl) h0 (fun τ1 H1 hf hI=>uF 1 (.slice x1 l1 c1) (hf 1 (by simp)) (uF 9 (.slice x9 l9 c9) (hf 9 (by simp)) (uSl 11 hI (fun x11r l11r c11r h=>uI 12 h (fun x12r h=>lgx (zqa1_10ok Q E (fun x11' l11' c11' x12' H2=>I x11' l11' c11' x12' H2∧μ x11' l11' c11' x12' H2 < μ x11r l11r c11r x12r H1) (Tau.upd (Tau.upd (Tau.upd (Tau.upd τ1 1 (.slice x1 l1 c1)) 9 (.slice x9 l9 c9)) 11 (.slice x11r l11r c11r)) 12 (.int .i64 x12r)) H1 (conv (by kernel_rfl) (hr x11r l11r c11r x12r H1 h))) (fun τ2 H2 hk=>kSl 11 hk (fun x11' l11' c11' h=>kI 12 h (fun x12' h=>conv (by kernel_rfl) h))))))))))))))
theorem zqa1_13ok :Ok Pr (zqa1_11_M Q E) (sB zqa1_p8) (zqa1_q2 Q E) E:=fun τ H h =>
  (conv (by kernel_rfl) (zqa1_12ok Q E τ H h))
noncomputable def zqa1_q7 :XT:=(xthen (zqa1_11_M Q E) (zqa1_q2 Q E))
def zqa1_14 (Q:QT) (E:ET) (x1:OA) (l1 c1:Nat) (x9:OA) (l9 c9:Nat) (x11:OA) (l11 c11:Nat) (H:Heap):Prop :=
 zqa1_11 Q E x1 l1 c1 x9 l9 c9 x11 l11 c11 0 H
def zqa1_14_M:Prop:=mSl (τ 1) fun x1 l1 c1=>mSl (τ 9) fun x9 l9 c9=>mSl (τ 11) fun x11 l11 c11=>zqa1_14 Q E x1 l1 c1 x9 l9 c9 x11 l11 c11 H
theorem zqa1_15ok :Ok Pr (zqa1_14_M Q E) (sA zqa1_p8) (zqa1_q7 Q E) E:=fun τ H h =>
  wSl 1 h (fun x1 l1 c1 h=>wSl 9 h (fun x9 l9 c9 h=>wSl 11 h (fun x11 l11 c11 h=>(conv (by kernel_rfl) h))))
theorem zqa1_16ok :Ok Pr (zqa1_14_M Q E) zqa1_p8 (zqa1_q2 Q E) E:=fun τ H h =>
  (conv (by kernel_rfl) (vc_seq (K:=(zqa1_11_M Q E)) (zqa1_15ok Q E τ H h) (zqa1_13ok Q E)))
theorem zqa1_17ok :Ok Pr (zqa1_14_M Q E) (sB (sB zqa1_p4)) (zqa1_q1 Q E) E:=fun τ H h =>
  (conv (by kernel_rfl) (vc_seq (K:=(zqa1_1_M Q E)) (zqa1_16ok Q E τ H h) (zqa1_2ok Q E)))
noncomputable def zqa1_q8 :XT:=(xthen (zqa1_14_M Q E) (zqa1_q1 Q E))
def zqa1_18 (Q:QT) (E:ET) (x1:OA) (l1 c1:Nat) (x9:OA) (l9 c9:Nat) (x11:OA) (l11 c11:Nat) (H:Heap):Prop :=
 Does Pr 39 #[(.slice x9 l9 c9),(.slice x11 l11 c11)] H (fun v50 H51 =>
 ∃ n52:Int,v50=(.int .i64 n52)∧sel (decide (n52 ≥ 0))
 (Q (.tuple #[(.int .i64 (-1)),(.int .i64 0),(.int .i64 0)]) H51)
 (zqa1_14 Q E x1 l1 c1 x9 l9 c9 x11 l11 c11 H51)) E
def zqa1_18_M:Prop:=mSl (τ 1) fun x1 l1 c1=>mSl (τ 9) fun x9 l9 c9=>mSl (τ 11) fun x11 l11 c11=>zqa1_18 Q E x1 l1 c1 x9 l9 c9 x11 l11 c11 H
theorem zqa1_19ok :Ok Pr (zqa1_18_M Q E) (sA (sB zqa1_p4)) (zqa1_q8 Q E) E:=fun τ H h =>
  wSl 1 h (fun x1 l1 c1 h=>wSl 9 h (fun x9 l9 c9 h=>wSl 11 h (fun x11 l11 c11 h=>(conv (by kernel_rfl) h))))
theorem zqa1_20ok :Ok Pr (zqa1_18_M Q E) (sB zqa1_p4) (zqa1_q1 Q E) E:=fun τ H h =>
  (conv (by kernel_rfl) (vc_seq (K:=(zqa1_14_M Q E)) (zqa1_19ok Q E τ H h) (zqa1_17ok Q E)))
noncomputable def zqa1_q9 :XT:=(xthen (zqa1_18_M Q E) (zqa1_q1 Q E))
def zqa1_21 (Q:QT) (E:ET) (x1:OA) (l1 c1:Nat) (x9:OA) (l9 c9:Nat) (H:Heap):Prop :=
 zqa1_18 Q E x1 l1 c1 x9 l9 c9 none 0 0 H
def zqa1_21_M:Prop:=mSl (τ 1) fun x1 l1 c1=>mSl (τ 9) fun x9 l9 c9=>zqa1_21 Q E x1 l1 c1 x9 l9 c9 H
theorem zqa1_22ok :Ok Pr (zqa1_21_M Q E) (sA zqa1_p4) (zqa1_q9 Q E) E:=fun τ H h =>
  wSl 1 h (fun x1 l1 c1 h=>wSl 9 h (fun x9 l9 c9 h=>(conv (by kernel_rfl) h)))
theorem zqa1_23ok :Ok Pr (zqa1_21_M Q E) zqa1_p4 (zqa1_q1 Q E) E:=fun τ H h =>
  (conv (by kernel_rfl) (vc_seq (K:=(zqa1_18_M Q E)) (zqa1_22ok Q E τ H h) (zqa1_20ok Q E)))
noncomputable def zqa1_q10 :XT:=(xthen (zqa1_21_M Q E) (zqa1_q1 Q E))
def zqa1_24 (Q:QT) (E:ET) (x1:OA) (l1 c1:Nat) (x7:OA) (l7 c7:Nat) (H:Heap):Prop :=
 Does Pr 36 #[(.slice x7 l7 c7)] H (fun v53 H54 =>
 ∃ (p55:OA) (l56 c57:Nat),∃ n58:Int,v53=(.tuple #[(.slice p55 l56 c57),(.int .i64 n58)])∧zqa1_21 Q E x1 l1 c1 p55 l56 c57 H54) E
def zqa1_24_M:Prop:=mSl (τ 1) fun x1 l1 c1=>mSl (τ 7) fun x7 l7 c7=>zqa1_24 Q E x1 l1 c1 x7 l7 c7 H
theorem zqa1_25ok :Ok Pr (zqa1_24_M Q E) (sA (sB zqa1_p2)) (zqa1_q10 Q E) E:=fun τ H h =>
  wSl 1 h (fun x1 l1 c1 h=>wSl 7 h (fun x7 l7 c7 h=>(conv (by kernel_rfl) h)))
theorem zqa1_26ok :Ok Pr (zqa1_24_M Q E) (sB zqa1_p2) (zqa1_q1 Q E) E:=fun τ H h =>
  (conv (by kernel_rfl) (vc_seq (K:=(zqa1_21_M Q E)) (zqa1_25ok Q E τ H h) (zqa1_23ok Q E)))
noncomputable def zqa1_q11 :XT:=(xthen (zqa1_24_M Q E) (zqa1_q1 Q E))
def zqa1_27 (Q:QT) (E:ET) (x1:OA) (l1 c1:Nat) (x7:OA) (l7 c7:Nat) (x8:Int) (H:Heap):Prop :=
 sel (x8 != 0)
 (Q (.tuple #[(.int .i64 0),(.int .i64 0),(.int .i64 x8)]) H)
 (zqa1_24 Q E x1 l1 c1 x7 l7 c7 H)
def zqa1_27_M:Prop:=mSl (τ 1) fun x1 l1 c1=>mSl (τ 7) fun x7 l7 c7=>mI .i64 (τ 8) fun x8=>zqa1_27 Q E x1 l1 c1 x7 l7 c7 x8 H
theorem zqa1_28ok :Ok Pr (zqa1_27_M Q E) (sA zqa1_p2) (zqa1_q11 Q E) E:=fun τ H h =>
  wSl 1 h (fun x1 l1 c1 h=>wSl 7 h (fun x7 l7 c7 h=>wI 8 h (fun x8 h=>(conv (by kernel_rfl) h))))
theorem zqa1_29ok :Ok Pr (zqa1_27_M Q E) zqa1_p2 (zqa1_q1 Q E) E:=fun τ H h =>
  (conv (by kernel_rfl) (vc_seq (K:=(zqa1_24_M Q E)) (zqa1_28ok Q E τ H h) (zqa1_26ok Q E)))
noncomputable def zqa1_q12 :XT:=(xthen (zqa1_27_M Q E) (zqa1_q1 Q E))
def zqa1_30 (Q:QT) (E:ET) (x0:ByteArray) (x1:OA) (l1 c1:Nat) (H:Heap):Prop :=
 Does Pr 23 #[(.string x0)] H (fun v59 H60 =>
 ∃ (p61:OA) (l62 c63:Nat),∃ n64:Int,v59=(.tuple #[(.slice p61 l62 c63),(.int .i64 n64)])∧zqa1_27 Q E x1 l1 c1 p61 l62 c63 n64 H60) E
def zqa1_30_M:Prop:=mS (τ 0) fun x0=>mSl (τ 1) fun x1 l1 c1=>zqa1_30 Q E x0 x1 l1 c1 H
theorem zqa1_31ok :Ok Pr (zqa1_30_M Q E) (sA (sB (bodyOf Try.f46))) (zqa1_q12 Q E) E:=fun τ H h =>
  wS 0 h (fun x0 h=>wSl 1 h (fun x1 l1 c1 h=>(conv (by kernel_rfl) h)))
theorem zqa1_32ok :Ok Pr (zqa1_30_M Q E) (sB (bodyOf Try.f46)) (zqa1_q1 Q E) E:=fun τ H h =>
  (conv (by kernel_rfl) (vc_seq (K:=(zqa1_27_M Q E)) (zqa1_31ok Q E τ H h) (zqa1_29ok Q E)))
def zqa1 (Q:QT) (E:ET) (a0:ByteArray) (a1:OA) (a1l:Nat) (a1c:Nat) (H:Heap):Prop :=
 zqa1_30 Q E a0 a1 a1l a1c H
theorem zqa1_fn (a0:ByteArray) (a1:OA) (a1l:Nat) (a1c:Nat) (Q:QT) (E:ET) (H:Heap) (h:zqa1 Q E a0 a1 a1l a1c H)  :Does Pr 46 #[(.string a0),(.slice a1 a1l a1c)] H Q E :=
  Fn_of_vc (fn:=Try.f46) (c:=(bodyOf Try.f46)) (args:=[(.string a0),(.slice a1 a1l a1c)]) mixed (by kernel_rfl) (by kernel_rfl) (by kernel_rfl) (by kernel_rfl) (by kernel_rfl) ((conv (B:=vc Pr (bodyOf Try.f46) (argT [(.string a0),(.slice a1 a1l a1c)]) (zqa1_q1 Q E) E H) (by kernel_rfl) (vc_seq (K:=(zqa1_30_M Q E)) (conv (B:=vc Pr (sA (bodyOf Try.f46)) (argT [(.string a0),(.slice a1 a1l a1c)]) (xthen (zqa1_30_M Q E) (zqa1_q1 Q E)) E H) (by kernel_rfl) h) (zqa1_32ok Q E))))
end Go.Proofs.Ytaffcoiomggpfaa
