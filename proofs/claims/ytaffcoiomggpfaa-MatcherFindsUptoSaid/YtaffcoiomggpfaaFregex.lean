import Derived.Test.YtaffcoiomggpfaaVPr
import Derived.Test.YtaffcoiomggpfaaFregex_1
/- Printed by gen.py: the Go functions of package regex over a heap view,and that the model does so. -/
namespace Go.Proofs.Ytaffcoiomggpfaa
open Go.V
set_option linter.unusedVariables false
set_option maxRecDepth 100000
variable (Q:QT) (E:ET) (τ:Tau) (H:Heap)
noncomputable def zqu_q1 (Q:QT) (E:ET) :XT:=(retQ Pr (Try.f113).results.toList Q)
noncomputable def zqu_p1:Code:=sB (bodyOf Try.f113)
noncomputable def zqu_p4:Code:=sB (sB (sB zqu_p1))
def zqu_1 (Q:QT) (E:ET) (x2 x3:OA) (H:Heap):Prop :=
 ptr x3 fun q85 =>
 ∃ n86 n87 n88 n89:Int,Heap.rd H q85 0 [(.int .u64 n86),(.int .u64 n87),(.int .u64 n88),(.int .u64 n89)]∧ptr x2 fun q91 =>
 wr q91 [(.int .u64 n86),(.int .u64 n87),(.int .u64 n88),(.int .u64 n89)] H fun H90 =>
 ptr x2 fun q92 =>
 ∃ n93 n94 n95 n96:Int,Heap.rd H90 q92 0 [(.int .u64 n93),(.int .u64 n94),(.int .u64 n95),(.int .u64 n96)]∧Q (.agg #[(.int .u64 n93),(.int .u64 n94),(.int .u64 n95),(.int .u64 n96)]) H90
def zqu_1_M:Prop:=mP (τ 2) fun x2=>mP (τ 3) fun x3=>zqu_1 Q E x2 x3 H
theorem zqu_2ok :Ok Pr (zqu_1_M Q E) (sB (sB (sB zqu_p4))) (zqu_q1 Q E) E:=fun τ H h =>
  wP 2 h (fun x2 h=>wP 3 h (fun x3 h=>(conv (by kernel_rfl) h)))
noncomputable def zqu_q2 :XT:=(xthen (zqu_1_M Q E) (zqu_q1 Q E))
def zqu_3 (Q:QT) (E:ET) (x2 x3:OA) (x6:Bool) (H:Heap):Prop :=
 sel x6
 (ptr x3 fun q97 =>
 ∃ n98 n99 n100 n101:Int,Heap.rd H q97 0 [(.int .u64 n98),(.int .u64 n99),(.int .u64 n100),(.int .u64 n101)]∧Does Pr 111 #[(.agg #[(.int .u64 n98),(.int .u64 n99),(.int .u64 n100),(.int .u64 n101)])] H (fun v102 H103 =>
 ∃ n104 n105 n106 n107:Int,v102=(.agg #[(.int .u64 n104),(.int .u64 n105),(.int .u64 n106),(.int .u64 n107)])∧ptr x2 fun q109 =>
 wr q109 [(.int .u64 n104),(.int .u64 n105),(.int .u64 n106),(.int .u64 n107)] H103 fun H108 =>
 ptr x2 fun q110 =>
 ∃ n111 n112 n113 n114:Int,Heap.rd H108 q110 0 [(.int .u64 n111),(.int .u64 n112),(.int .u64 n113),(.int .u64 n114)]∧Q (.agg #[(.int .u64 n111),(.int .u64 n112),(.int .u64 n113),(.int .u64 n114)]) H108) E)
 (zqu_1 Q E x2 x3 H)
def zqu_3_M:Prop:=mP (τ 2) fun x2=>mP (τ 3) fun x3=>mB (τ 6) fun x6=>zqu_3 Q E x2 x3 x6 H
theorem zqu_4ok :Ok Pr (zqu_3_M Q E) (sA (sB (sB zqu_p4))) (zqu_q2 Q E) E:=fun τ H h =>
  wP 2 h (fun x2 h=>wP 3 h (fun x3 h=>wB 6 h (fun x6 h=>(conv (by kernel_rfl) h))))
theorem zqu_5ok :Ok Pr (zqu_3_M Q E) (sB (sB zqu_p4)) (zqu_q1 Q E) E:=fun τ H h =>
  (conv (by kernel_rfl) (vc_seq (K:=(zqu_1_M Q E)) (zqu_4ok Q E τ H h) (zqu_2ok Q E)))
noncomputable def zqu_q3 :XT:=(xthen (zqu_3_M Q E) (zqu_q1 Q E))
noncomputable def zqu_p9:Code:=sA (sB zqu_p4)
noncomputable def zqu_q5 (nx115:Bool→HP):XT:=(xthen (fun τ H=>mB (τ 7) fun x7'=>nx115 x7' H) (xblock 0 (zqu_q3 Q E)))
noncomputable def zqu_p12:Code:=sI (sI (sB zqu_p9))
def zqu_6 (nx115:Bool→HP) (Q:QT) (E:ET) (x0 x2 x3:OA) (x6:Bool) (H:Heap):Prop :=
 nx115 true H
def zqu_6_M (nx115:Bool→HP) (τ:Tau) (H:Heap):Prop:=mP (τ 0) fun x0=>mP (τ 2) fun x2=>mP (τ 3) fun x3=>mB (τ 6) fun x6=>zqu_6 nx115 Q E x0 x2 x3 x6 H
theorem zqu_7ok (nx115:Bool→HP):Ok Pr (zqu_6_M Q E nx115) (sB zqu_p12) (zqu_q5 Q E nx115) E:=fun τ H h =>
  wP 0 h (fun x0 h=>wP 2 h (fun x2 h=>wP 3 h (fun x3 h=>wB 6 h (fun x6 h=>(conv (by kernel_rfl) h)))))
noncomputable def zqu_q7 (nx115:Bool→HP):XT:=(xblock 1 (xthen (zqu_6_M Q E nx115) (zqu_q5 Q E nx115)))
noncomputable def zqu_p18:Code:=sB (sB (sB (sI (sA zqu_p12))))
noncomputable def zqu_p21:Code:=sI (sB (sB zqu_p18))
noncomputable def zqu_q9 (nx115:Bool→HP) (nx239:Int→HP):XT:=(xthen (fun τ H=>mI .i64 (τ 104) fun x104'=>nx239 x104' H) (xblock 2 (zqu_q7 Q E nx115)))
noncomputable def zqu_p23:Code:=sB (sI zqu_p21)
def zqu_8 (nx115:Bool→HP) (nx239:Int→HP) (Q:QT) (E:ET) (x0 x2 x3:OA) (x6:Bool) (x11:OA) (x104:Int) (H:Heap):Prop :=
 ptr x3 fun q240 =>
 (0≤x104∧x104 < ((4:Nat):Int))∧ldI .u64 (Addr.add q240 (x104.toNat * 1)) H fun n241 =>
 ptr x11 fun q242 =>
 (0≤x104∧x104 < ((4:Nat):Int))∧ldI .u64 (Addr.add q242 (x104.toNat * 1)) H fun n243 =>
 ptr x3 fun q244 =>
 (0≤x104∧x104 < ((4:Nat):Int))∧wr (Addr.add q244 (x104.toNat * 1)) [(.int .u64 (IntKind.wrap .u64 (BitVec.ofInt (IntKind.bits .u64) n241 ||| BitVec.ofInt (IntKind.bits .u64) n243).toNat))] H fun H245 =>
 nx239 (IntKind.wrap .i64 (x104+1)) H245
def zqu_8_M (nx115:Bool→HP) (nx239:Int→HP) (τ:Tau) (H:Heap):Prop:=mP (τ 0) fun x0=>mP (τ 2) fun x2=>mP (τ 3) fun x3=>mB (τ 6) fun x6=>mP (τ 11) fun x11=>mI .i64 (τ 104) fun x104=>zqu_8 nx115 nx239 Q E x0 x2 x3 x6 x11 x104 H
theorem zqu_9ok (nx115:Bool→HP) (nx239:Int→HP):Ok Pr (zqu_8_M Q E nx115 nx239) (sB zqu_p23) (zqu_q9 Q E nx115 nx239) E:=fun τ H h =>
  wP 0 h (fun x0 h=>wP 2 h (fun x2 h=>wP 3 h (fun x3 h=>wB 6 h (fun x6 h=>wP 11 h (fun x11 h=>wI 104 h (fun x104 h=>(conv (by kernel_rfl) h)))))))
noncomputable def zqu_q10 (nx115:Bool→HP) (nx239:Int→HP):XT:=(xthen (zqu_8_M Q E nx115 nx239) (zqu_q9 Q E nx115 nx239))
def zqu_10 (nx115:Bool→HP) (nx239:Int→HP) (Q:QT) (E:ET) (x0 x2 x3:OA) (x6:Bool) (x11:OA) (x104:Int) (x105:Bool) (H:Heap):Prop :=
 sel x105
 (zqu_8 nx115 nx239 Q E x0 x2 x3 x6 x11 x104 H)
 (zqu_6 nx115 Q E x0 x2 x3 x6 H)
def zqu_10_M (nx115:Bool→HP) (nx239:Int→HP) (τ:Tau) (H:Heap):Prop:=mP (τ 0) fun x0=>mP (τ 2) fun x2=>mP (τ 3) fun x3=>mB (τ 6) fun x6=>mP (τ 11) fun x11=>mI .i64 (τ 104) fun x104=>mB (τ 105) fun x105=>zqu_10 nx115 nx239 Q E x0 x2 x3 x6 x11 x104 x105 H
theorem zqu_11ok (nx115:Bool→HP) (nx239:Int→HP):Ok Pr (zqu_10_M Q E nx115 nx239) (sA zqu_p23) (zqu_q10 Q E nx115 nx239) E:=fun τ H h =>
  wP 0 h (fun x0 h=>wP 2 h (fun x2 h=>wP 3 h (fun x3 h=>wB 6 h (fun x6 h=>wP 11 h (fun x11 h=>wI 104 h (fun x104 h=>wB 105 h (fun x105 h=>(conv (by kernel_rfl) h))))))))
theorem zqu_12ok (nx115:Bool→HP) (nx239:Int→HP):Ok Pr (zqu_10_M Q E nx115 nx239) zqu_p23 (zqu_q9 Q E nx115 nx239) E:=fun τ H h =>
  (conv (by kernel_rfl) (vc_seq (K:=(zqu_8_M Q E nx115 nx239)) (zqu_11ok Q E nx115 nx239 τ H h) (zqu_9ok Q E nx115 nx239)))
noncomputable def zqu_q11 (nx115:Bool→HP) (nx239:Int→HP):XT:=(xthen (zqu_10_M Q E nx115 nx239) (zqu_q9 Q E nx115 nx239))
def zqu_13 (nx115:Bool→HP) (nx239:Int→HP) (Q:QT) (E:ET) (x0 x2 x3:OA) (x6:Bool) (x11:OA) (x104:Int) (H:Heap):Prop :=
 zqu_10 nx115 nx239 Q E x0 x2 x3 x6 x11 x104 (decide (x104 < 4)) H
def zqu_13_M (nx115:Bool→HP) (nx239:Int→HP) (τ:Tau) (H:Heap):Prop:=mP (τ 0) fun x0=>mP (τ 2) fun x2=>mP (τ 3) fun x3=>mB (τ 6) fun x6=>mP (τ 11) fun x11=>mI .i64 (τ 104) fun x104=>zqu_13 nx115 nx239 Q E x0 x2 x3 x6 x11 x104 H
theorem zqu_14ok (nx115:Bool→HP) (nx239:Int→HP):Ok Pr (zqu_13_M Q E nx115 nx239) (sA (sI zqu_p21)) (zqu_q11 Q E nx115 nx239) E:=fun τ H h =>
  wP 0 h (fun x0 h=>wP 2 h (fun x2 h=>wP 3 h (fun x3 h=>wB 6 h (fun x6 h=>wP 11 h (fun x11 h=>wI 104 h (fun x104 h=>(conv (by kernel_rfl) h)))))))
theorem zqu_15ok (nx115:Bool→HP) (nx239:Int→HP):Ok Pr (zqu_13_M Q E nx115 nx239) (sI zqu_p21) (zqu_q9 Q E nx115 nx239) E:=fun τ H h =>
  (conv (by kernel_rfl) (vc_seq (K:=(zqu_10_M Q E nx115 nx239)) (zqu_14ok Q E nx115 nx239 τ H h) (zqu_12ok Q E nx115 nx239)))
def zqu_16 (nx115:Bool→HP) (Q:QT) (E:ET) (x0 x2 x3:OA) (x6:Bool) (x11:OA) (x104:Int) (H:Heap):Prop :=
 ∃ (I:Int→HP) (μ:Int→Heap→Nat),I x104 H∧∀ (x104:Int) (H:Heap),I x104 H →
 zqu_13 nx115 (fun x104' H1=>I x104' H1∧μ x104' H1 < μ x104 H) Q E x0 x2 x3 x6 x11 x104 H
def zqu_16_M (nx115:Bool→HP) (τ:Tau) (H:Heap):Prop:=mP (τ 0) fun x0=>mP (τ 2) fun x2=>mP (τ 3) fun x3=>mB (τ 6) fun x6=>mP (τ 11) fun x11=>mI .i64 (τ 104) fun x104=>zqu_16 nx115 Q E x0 x2 x3 x6 x11 x104 H
theorem zqu_17ok (nx115:Bool→HP):Ok Pr (zqu_16_M Q E nx115) zqu_p21 (xblock 2 (zqu_q7 Q E nx115)) E:=fun τ H h =>
  wP 0 h (fun x0 h=>wP 2 h (fun x2 h=>wP 3 h (fun x3 h=>wB 6 h (fun x6 h=>wP 11 h (fun x11 h=>wI 104 h (fun x104 h=>match h with | ⟨I,μ,h0,hr⟩=>(conv (by kernel_rfl) (vc_loopG (c:=sI zqu_p21) (τ:=(Tau.upd (Tau.upd (Tau.upd (Tau.upd (Tau.upd (Tau.upd τ 0 (.pointer x0)) 2 (.pointer x2)) 3 (.pointer x3)) 6 (.bool x6)) 11 (.pointer x11)) 104 (.int .i64 x104))) [0,2,3,6,11] (fun τ H=>mI .i64 (τ 104) fun x104'=>I x104' H) (fun τ H=>μ (gI (τ 104)) H) (by kernel_rfl) h0 (fun τ1 H1 hf hI=>uF 0 (.pointer x0) (hf 0 (by simp)) (uF 2 (.pointer x2) (hf 2 (by simp)) (uF 3 (.pointer x3) (hf 3 (by simp)) (uF 6 (.bool x6) (hf 6 (by simp)) (uF 11 (.pointer x11) (hf 11 (by simp)) (uI 104 hI (fun x104r h=>lgx (zqu_15ok Q E nx115 (fun x104' H2=>I x104' H2∧μ x104' H2 < μ x104r H1) (Tau.upd (Tau.upd (Tau.upd (Tau.upd (Tau.upd (Tau.upd τ1 0 (.pointer x0)) 2 (.pointer x2)) 3 (.pointer x3)) 6 (.bool x6)) 11 (.pointer x11)) 104 (.int .i64 x104r)) H1 (conv (by kernel_rfl) (hr x104r H1 h))) (fun τ2 H2 hk=>kI 104 hk (fun x104' h=>conv (by kernel_rfl) h)))))))))))))))))
theorem zqu_18ok (nx115:Bool→HP):Ok Pr (zqu_16_M Q E nx115) (sB (sB zqu_p18)) (zqu_q7 Q E nx115) E:=fun τ H h =>
  (conv (by kernel_rfl) (zqu_17ok Q E nx115 τ H h))
noncomputable def zqu_q12 (nx115:Bool→HP):XT:=(xthen (zqu_16_M Q E nx115) (zqu_q7 Q E nx115))
def zqu_19 (nx115:Bool→HP) (Q:QT) (E:ET) (x0 x2 x3:OA) (x6:Bool) (x11:OA) (H:Heap):Prop :=
 zqu_16 nx115 Q E x0 x2 x3 x6 x11 0 H
def zqu_19_M (nx115:Bool→HP) (τ:Tau) (H:Heap):Prop:=mP (τ 0) fun x0=>mP (τ 2) fun x2=>mP (τ 3) fun x3=>mB (τ 6) fun x6=>mP (τ 11) fun x11=>zqu_19 nx115 Q E x0 x2 x3 x6 x11 H
theorem zqu_20ok (nx115:Bool→HP):Ok Pr (zqu_19_M Q E nx115) (sA (sB zqu_p18)) (zqu_q12 Q E nx115) E:=fun τ H h =>
  wP 0 h (fun x0 h=>wP 2 h (fun x2 h=>wP 3 h (fun x3 h=>wB 6 h (fun x6 h=>wP 11 h (fun x11 h=>(conv (by kernel_rfl) h))))))
theorem zqu_21ok (nx115:Bool→HP):Ok Pr (zqu_19_M Q E nx115) (sB zqu_p18) (zqu_q7 Q E nx115) E:=fun τ H h =>
  (conv (by kernel_rfl) (vc_seq (K:=(zqu_16_M Q E nx115)) (zqu_20ok Q E nx115 τ H h) (zqu_18ok Q E nx115)))
noncomputable def zqu_q13 (nx115:Bool→HP):XT:=(xthen (zqu_19_M Q E nx115) (zqu_q7 Q E nx115))
def zqu_22 (nx115:Bool→HP) (Q:QT) (E:ET) (x0 x2 x3:OA) (x6:Bool) (x11:OA) (H:Heap):Prop :=
 ptr x0 fun q246 =>
 ldI .i64 (Addr.add q246 4) H fun n247 =>
 sel (n247 != 0)
 (ptr x2 fun q249 =>
 wr q249 [(.int .u64 0),(.int .u64 0),(.int .u64 0),(.int .u64 0)] H fun H248 =>
 ptr x2 fun q250 =>
 ∃ n251 n252 n253 n254:Int,Heap.rd H248 q250 0 [(.int .u64 n251),(.int .u64 n252),(.int .u64 n253),(.int .u64 n254)]∧Q (.agg #[(.int .u64 n251),(.int .u64 n252),(.int .u64 n253),(.int .u64 n254)]) H248)
 (zqu_19 nx115 Q E x0 x2 x3 x6 x11 H)
def zqu_22_M (nx115:Bool→HP) (τ:Tau) (H:Heap):Prop:=mP (τ 0) fun x0=>mP (τ 2) fun x2=>mP (τ 3) fun x3=>mB (τ 6) fun x6=>mP (τ 11) fun x11=>zqu_22 nx115 Q E x0 x2 x3 x6 x11 H
theorem zqu_23ok (nx115:Bool→HP):Ok Pr (zqu_22_M Q E nx115) (sA zqu_p18) (zqu_q13 Q E nx115) E:=fun τ H h =>
  wP 0 h (fun x0 h=>wP 2 h (fun x2 h=>wP 3 h (fun x3 h=>wB 6 h (fun x6 h=>wP 11 h (fun x11 h=>(conv (by kernel_rfl) h))))))
theorem zqu_24ok (nx115:Bool→HP):Ok Pr (zqu_22_M Q E nx115) zqu_p18 (zqu_q7 Q E nx115) E:=fun τ H h =>
  (conv (by kernel_rfl) (vc_seq (K:=(zqu_19_M Q E nx115)) (zqu_23ok Q E nx115 τ H h) (zqu_21ok Q E nx115)))
noncomputable def zqu_q14 (nx115:Bool→HP):XT:=(xthen (zqu_22_M Q E nx115) (zqu_q7 Q E nx115))
noncomputable def zqu_p29:Code:=sA (sB (sB (sI (sA zqu_p12))))
noncomputable def zqu_p31:Code:=sB (sB zqu_p29)
noncomputable def zqu_p33:Code:=sB (sT zqu_p31)
def zqu_25 (nx115:Bool→HP) (Q:QT) (E:ET) (x0 x2 x3:OA) (x6:Bool) (x10:Int) (x11:OA) (x15:Int) (H:Heap):Prop :=
 ptr x11 fun q280 =>
 ∃ n281 n282 n283 n284:Int,Heap.rd H q280 0 [(.int .u64 n281),(.int .u64 n282),(.int .u64 n283),(.int .u64 n284)]∧Does Pr 115 #[(.agg #[(.int .u64 n281),(.int .u64 n282),(.int .u64 n283),(.int .u64 n284)]),(.int .u8 x10),(.int .u8 x15)] H (fun v285 H286 =>
 ∃ n287 n288 n289 n290:Int,v285=(.agg #[(.int .u64 n287),(.int .u64 n288),(.int .u64 n289),(.int .u64 n290)])∧ptr x11 fun q292 =>
 wr q292 [(.int .u64 n287),(.int .u64 n288),(.int .u64 n289),(.int .u64 n290)] H286 fun H291 =>
 zqu_22 nx115 Q E x0 x2 x3 x6 x11 H291) E
def zqu_25_M (nx115:Bool→HP) (τ:Tau) (H:Heap):Prop:=mP (τ 0) fun x0=>mP (τ 2) fun x2=>mP (τ 3) fun x3=>mB (τ 6) fun x6=>mI .u8 (τ 10) fun x10=>mP (τ 11) fun x11=>mI .u8 (τ 15) fun x15=>zqu_25 nx115 Q E x0 x2 x3 x6 x10 x11 x15 H
theorem zqu_26ok (nx115:Bool→HP):Ok Pr (zqu_25_M Q E nx115) (sB (sB zqu_p33)) (zqu_q14 Q E nx115) E:=fun τ H h =>
  wP 0 h (fun x0 h=>wP 2 h (fun x2 h=>wP 3 h (fun x3 h=>wB 6 h (fun x6 h=>wI 10 h (fun x10 h=>wP 11 h (fun x11 h=>wI 15 h (fun x15 h=>(conv (by kernel_rfl) h))))))))
noncomputable def zqu_q15 (nx115:Bool→HP):XT:=(xthen (zqu_25_M Q E nx115) (zqu_q14 Q E nx115))
noncomputable def zqu_p36:Code:=sA (sB zqu_p33)
def zqu_27 (nx115:Bool→HP) (Q:QT) (E:ET) (x0 x2 x3:OA) (x6:Bool) (x10:Int) (x11:OA) (x15:Int) (x91:Bool) (H:Heap):Prop :=
 sel x91
 (Does Pr 103 #[(.pointer x0),(.int .i64 80)] H (fun v293 H294 =>
 ∃ n295:Int,v293=(.int .i64 n295)∧zqu_25 nx115 Q E x0 x2 x3 x6 x10 x11 x15 H294) E)
 (zqu_25 nx115 Q E x0 x2 x3 x6 x10 x11 x15 H)
def zqu_27_M (nx115:Bool→HP) (τ:Tau) (H:Heap):Prop:=mP (τ 0) fun x0=>mP (τ 2) fun x2=>mP (τ 3) fun x3=>mB (τ 6) fun x6=>mI .u8 (τ 10) fun x10=>mP (τ 11) fun x11=>mI .u8 (τ 15) fun x15=>mB (τ 91) fun x91=>zqu_27 nx115 Q E x0 x2 x3 x6 x10 x11 x15 x91 H
theorem zqu_28ok (nx115:Bool→HP):Ok Pr (zqu_27_M Q E nx115) (sB zqu_p36) (zqu_q15 Q E nx115) E:=fun τ H h =>
  wP 0 h (fun x0 h=>wP 2 h (fun x2 h=>wP 3 h (fun x3 h=>wB 6 h (fun x6 h=>wI 10 h (fun x10 h=>wP 11 h (fun x11 h=>wI 15 h (fun x15 h=>wB 91 h (fun x91 h=>(conv (by kernel_rfl) h)))))))))
noncomputable def zqu_q16 (nx115:Bool→HP):XT:=(xthen (zqu_27_M Q E nx115) (zqu_q15 Q E nx115))
def zqu_29 (nx115:Bool→HP) (Q:QT) (E:ET) (x0 x2 x3:OA) (x6:Bool) (x10:Int) (x11:OA) (x15:Int) (x17:Bool) (H:Heap):Prop :=
 sel x17
 (zqu_27 nx115 Q E x0 x2 x3 x6 x10 x11 x15 true H)
 (zqu_27 nx115 Q E x0 x2 x3 x6 x10 x11 x15 (decide (x15 < x10)) H)
def zqu_29_M (nx115:Bool→HP) (τ:Tau) (H:Heap):Prop:=mP (τ 0) fun x0=>mP (τ 2) fun x2=>mP (τ 3) fun x3=>mB (τ 6) fun x6=>mI .u8 (τ 10) fun x10=>mP (τ 11) fun x11=>mI .u8 (τ 15) fun x15=>mB (τ 17) fun x17=>zqu_29 nx115 Q E x0 x2 x3 x6 x10 x11 x15 x17 H
theorem zqu_30ok (nx115:Bool→HP):Ok Pr (zqu_29_M Q E nx115) (sA zqu_p36) (zqu_q16 Q E nx115) E:=fun τ H h =>
  wP 0 h (fun x0 h=>wP 2 h (fun x2 h=>wP 3 h (fun x3 h=>wB 6 h (fun x6 h=>wI 10 h (fun x10 h=>wP 11 h (fun x11 h=>wI 15 h (fun x15 h=>wB 17 h (fun x17 h=>(conv (by kernel_rfl) h)))))))))
theorem zqu_31ok (nx115:Bool→HP):Ok Pr (zqu_29_M Q E nx115) zqu_p36 (zqu_q15 Q E nx115) E:=fun τ H h =>
  (conv (by kernel_rfl) (vc_seq (K:=(zqu_27_M Q E nx115)) (zqu_30ok Q E nx115 τ H h) (zqu_28ok Q E nx115)))
theorem zqu_32ok (nx115:Bool→HP):Ok Pr (zqu_29_M Q E nx115) (sB zqu_p33) (zqu_q14 Q E nx115) E:=fun τ H h =>
  (conv (by kernel_rfl) (vc_seq (K:=(zqu_25_M Q E nx115)) (zqu_31ok Q E nx115 τ H h) (zqu_26ok Q E nx115)))
noncomputable def zqu_q17 (nx115:Bool→HP):XT:=(xthen (zqu_29_M Q E nx115) (zqu_q14 Q E nx115))
def zqu_33 (nx115:Bool→HP) (Q:QT) (E:ET) (x0 x2 x3:OA) (x6:Bool) (x10:Int) (x11:OA) (H:Heap):Prop :=
 Does Pr 119 #[(.pointer x0)] H (fun v296 H297 =>
 ∃ n298 n299 n300 n301 n302:Int,∃ b303:Bool,v296=(.tuple #[(.int .u8 n298),(.agg #[(.int .u64 n299),(.int .u64 n300),(.int .u64 n301),(.int .u64 n302)]),(.bool b303)])∧nw (.cells #[(.int .u64 0),(.int .u64 0),(.int .u64 0),(.int .u64 0)] 46 (0,0)) H297 fun i304 H305 =>
 wr ⟨i304,0,none⟩ [(.int .u64 n299),(.int .u64 n300),(.int .u64 n301),(.int .u64 n302)] H305 fun H306 =>
 zqu_29 nx115 Q E x0 x2 x3 x6 x10 x11 n298 b303 H306) E
def zqu_33_M (nx115:Bool→HP) (τ:Tau) (H:Heap):Prop:=mP (τ 0) fun x0=>mP (τ 2) fun x2=>mP (τ 3) fun x3=>mB (τ 6) fun x6=>mI .u8 (τ 10) fun x10=>mP (τ 11) fun x11=>zqu_33 nx115 Q E x0 x2 x3 x6 x10 x11 H
theorem zqu_34ok (nx115:Bool→HP):Ok Pr (zqu_33_M Q E nx115) (sA zqu_p33) (zqu_q17 Q E nx115) E:=fun τ H h =>
  wP 0 h (fun x0 h=>wP 2 h (fun x2 h=>wP 3 h (fun x3 h=>wB 6 h (fun x6 h=>wI 10 h (fun x10 h=>wP 11 h (fun x11 h=>(conv (by kernel_rfl) h)))))))
theorem zqu_35ok (nx115:Bool→HP):Ok Pr (zqu_33_M Q E nx115) zqu_p33 (zqu_q14 Q E nx115) E:=fun τ H h =>
  (conv (by kernel_rfl) (vc_seq (K:=(zqu_29_M Q E nx115)) (zqu_34ok Q E nx115 τ H h) (zqu_32ok Q E nx115)))
noncomputable def zqu_q18 (nx115:Bool→HP):XT:=(xthen (zqu_33_M Q E nx115) (zqu_q14 Q E nx115))
def zqu_36 (nx115:Bool→HP) (Q:QT) (E:ET) (x0 x2 x3:OA) (x6:Bool) (x10:Int) (x11:OA) (x12:Bool) (H:Heap):Prop :=
 ptr x0 fun q307 =>
 ldI .i64 (Addr.add q307 1) H fun n308 =>
 ptr x0 fun q309 =>
 wr (Addr.add q309 1) [(.int .i64 (IntKind.wrap .i64 (n308+1)))] H fun H310 =>
 sel x12
 (Does Pr 103 #[(.pointer x0),(.int .i64 80)] H310 (fun v311 H312 =>
 ∃ n313:Int,v311=(.int .i64 n313)∧zqu_33 nx115 Q E x0 x2 x3 x6 x10 x11 H312) E)
 (zqu_33 nx115 Q E x0 x2 x3 x6 x10 x11 H310)
def zqu_36_M (nx115:Bool→HP) (τ:Tau) (H:Heap):Prop:=mP (τ 0) fun x0=>mP (τ 2) fun x2=>mP (τ 3) fun x3=>mB (τ 6) fun x6=>mI .u8 (τ 10) fun x10=>mP (τ 11) fun x11=>mB (τ 12) fun x12=>zqu_36 nx115 Q E x0 x2 x3 x6 x10 x11 x12 H
theorem zqu_37ok (nx115:Bool→HP):Ok Pr (zqu_36_M Q E nx115) (sA (sT zqu_p31)) (zqu_q18 Q E nx115) E:=fun τ H h =>
  wP 0 h (fun x0 h=>wP 2 h (fun x2 h=>wP 3 h (fun x3 h=>wB 6 h (fun x6 h=>wI 10 h (fun x10 h=>wP 11 h (fun x11 h=>wB 12 h (fun x12 h=>(conv (by kernel_rfl) h))))))))
theorem zqu_38ok (nx115:Bool→HP):Ok Pr (zqu_36_M Q E nx115) (sT zqu_p31) (zqu_q14 Q E nx115) E:=fun τ H h =>
  (conv (by kernel_rfl) (vc_seq (K:=(zqu_33_M Q E nx115)) (zqu_37ok Q E nx115 τ H h) (zqu_35ok Q E nx115)))
def zqu_39 (nx115:Bool→HP) (Q:QT) (E:ET) (x0 x2 x3:OA) (x6:Bool) (x11:OA) (H:Heap):Prop :=
 zqu_22 nx115 Q E x0 x2 x3 x6 x11 H
def zqu_39_M (nx115:Bool→HP) (τ:Tau) (H:Heap):Prop:=mP (τ 0) fun x0=>mP (τ 2) fun x2=>mP (τ 3) fun x3=>mB (τ 6) fun x6=>mP (τ 11) fun x11=>zqu_39 nx115 Q E x0 x2 x3 x6 x11 H
theorem zqu_40ok (nx115:Bool→HP):Ok Pr (zqu_39_M Q E nx115) (sE zqu_p31) (zqu_q14 Q E nx115) E:=fun τ H h =>
  wP 0 h (fun x0 h=>wP 2 h (fun x2 h=>wP 3 h (fun x3 h=>wB 6 h (fun x6 h=>wP 11 h (fun x11 h=>(conv (by kernel_rfl) h))))))
def zqu_41 (nx115:Bool→HP) (Q:QT) (E:ET) (x0 x2 x3:OA) (x6:Bool) (x10:Int) (x11:OA) (x12 x69:Bool) (H:Heap):Prop :=
 sel x69
 (zqu_36 nx115 Q E x0 x2 x3 x6 x10 x11 x12 H)
 (zqu_39 nx115 Q E x0 x2 x3 x6 x11 H)
def zqu_41_M (nx115:Bool→HP) (τ:Tau) (H:Heap):Prop:=mP (τ 0) fun x0=>mP (τ 2) fun x2=>mP (τ 3) fun x3=>mB (τ 6) fun x6=>mI .u8 (τ 10) fun x10=>mP (τ 11) fun x11=>mB (τ 12) fun x12=>mB (τ 69) fun x69=>zqu_41 nx115 Q E x0 x2 x3 x6 x10 x11 x12 x69 H
theorem zqu_42ok (nx115:Bool→HP):Ok Pr (zqu_41_M Q E nx115) zqu_p31 (zqu_q14 Q E nx115) E:=fun τ H h =>
  wP 0 h (fun x0 h=>wP 2 h (fun x2 h=>wP 3 h (fun x3 h=>wB 6 h (fun x6 h=>wI 10 h (fun x10 h=>wP 11 h (fun x11 h=>wB 12 h (fun x12 h=>wB 69 h (fun x69 h=>(conv (by kernel_rfl) (sel_mapT (b:=x69) (τ:=(Tau.upd (Tau.upd (Tau.upd (Tau.upd (Tau.upd (Tau.upd (Tau.upd (Tau.upd τ 0 (.pointer x0)) 2 (.pointer x2)) 3 (.pointer x3)) 6 (.bool x6)) 10 (.int .u8 x10)) 11 (.pointer x11)) 12 (.bool x12)) 69 (.bool x69))) (H:=H) (zqu_38ok Q E nx115) (zqu_40ok Q E nx115) (conv (by kernel_rfl) h)))))))))))
noncomputable def zqu_q19 (nx115:Bool→HP):XT:=(xthen (zqu_41_M Q E nx115) (zqu_q14 Q E nx115))
def zqu_43 (nx115:Bool→HP) (Q:QT) (E:ET) (x0 x2 x3:OA) (x6:Bool) (x10:Int) (x11:OA) (x12:Bool) (x13:Int) (x14:Bool) (H:Heap):Prop :=
 sel x14
 (zqu_41 nx115 Q E x0 x2 x3 x6 x10 x11 x12 (x13 == 45) H)
 (zqu_41 nx115 Q E x0 x2 x3 x6 x10 x11 x12 false H)
def zqu_43_M (nx115:Bool→HP) (τ:Tau) (H:Heap):Prop:=mP (τ 0) fun x0=>mP (τ 2) fun x2=>mP (τ 3) fun x3=>mB (τ 6) fun x6=>mI .u8 (τ 10) fun x10=>mP (τ 11) fun x11=>mB (τ 12) fun x12=>mI .u8 (τ 13) fun x13=>mB (τ 14) fun x14=>zqu_43 nx115 Q E x0 x2 x3 x6 x10 x11 x12 x13 x14 H
theorem zqu_44ok (nx115:Bool→HP):Ok Pr (zqu_43_M Q E nx115) (sA (sB zqu_p29)) (zqu_q19 Q E nx115) E:=fun τ H h =>
  wP 0 h (fun x0 h=>wP 2 h (fun x2 h=>wP 3 h (fun x3 h=>wB 6 h (fun x6 h=>wI 10 h (fun x10 h=>wP 11 h (fun x11 h=>wB 12 h (fun x12 h=>wI 13 h (fun x13 h=>wB 14 h (fun x14 h=>(conv (by kernel_rfl) h))))))))))
theorem zqu_45ok (nx115:Bool→HP):Ok Pr (zqu_43_M Q E nx115) (sB zqu_p29) (zqu_q14 Q E nx115) E:=fun τ H h =>
  (conv (by kernel_rfl) (vc_seq (K:=(zqu_41_M Q E nx115)) (zqu_44ok Q E nx115 τ H h) (zqu_42ok Q E nx115)))
noncomputable def zqu_q20 (nx115:Bool→HP):XT:=(xthen (zqu_43_M Q E nx115) (zqu_q14 Q E nx115))
def zqu_46 (nx115:Bool→HP) (Q:QT) (E:ET) (x0 x2 x3:OA) (x6:Bool) (x10:Int) (x11:OA) (x12:Bool) (H:Heap):Prop :=
 Does Pr 94 #[(.pointer x0)] H (fun v314 H315 =>
 ∃ n316:Int,∃ b317:Bool,v314=(.tuple #[(.int .u8 n316),(.bool b317)])∧zqu_43 nx115 Q E x0 x2 x3 x6 x10 x11 x12 n316 b317 H315) E
def zqu_46_M (nx115:Bool→HP) (τ:Tau) (H:Heap):Prop:=mP (τ 0) fun x0=>mP (τ 2) fun x2=>mP (τ 3) fun x3=>mB (τ 6) fun x6=>mI .u8 (τ 10) fun x10=>mP (τ 11) fun x11=>mB (τ 12) fun x12=>zqu_46 nx115 Q E x0 x2 x3 x6 x10 x11 x12 H
theorem zqu_47ok (nx115:Bool→HP):Ok Pr (zqu_46_M Q E nx115) (sA zqu_p29) (zqu_q20 Q E nx115) E:=fun τ H h =>
  wP 0 h (fun x0 h=>wP 2 h (fun x2 h=>wP 3 h (fun x3 h=>wB 6 h (fun x6 h=>wI 10 h (fun x10 h=>wP 11 h (fun x11 h=>wB 12 h (fun x12 h=>(conv (by kernel_rfl) h))))))))
theorem zqu_48ok (nx115:Bool→HP):Ok Pr (zqu_46_M Q E nx115) zqu_p29 (zqu_q14 Q E nx115) E:=fun τ H h =>
  (conv (by kernel_rfl) (vc_seq (K:=(zqu_43_M Q E nx115)) (zqu_47ok Q E nx115 τ H h) (zqu_45ok Q E nx115)))
theorem zqu_49ok (nx115:Bool→HP):Ok Pr (zqu_46_M Q E nx115) (sB (sB (sI (sA zqu_p12)))) (zqu_q7 Q E nx115) E:=fun τ H h =>
  (conv (by kernel_rfl) (vc_seq (K:=(zqu_22_M Q E nx115)) (zqu_48ok Q E nx115 τ H h) (zqu_24ok Q E nx115)))
noncomputable def zqu_q21 (nx115:Bool→HP):XT:=(xthen (zqu_46_M Q E nx115) (zqu_q7 Q E nx115))
def zqu_50 (nx115:Bool→HP) (Q:QT) (E:ET) (x0 x2 x3:OA) (x6:Bool) (H:Heap):Prop :=
 Does Pr 119 #[(.pointer x0)] H (fun v318 H319 =>
 ∃ n320 n321 n322 n323 n324:Int,∃ b325:Bool,v318=(.tuple #[(.int .u8 n320),(.agg #[(.int .u64 n321),(.int .u64 n322),(.int .u64 n323),(.int .u64 n324)]),(.bool b325)])∧nw (.cells #[(.int .u64 0),(.int .u64 0),(.int .u64 0),(.int .u64 0)] 46 (0,0)) H319 fun i326 H327 =>
 wr ⟨i326,0,none⟩ [(.int .u64 n321),(.int .u64 n322),(.int .u64 n323),(.int .u64 n324)] H327 fun H328 =>
 zqu_46 nx115 Q E x0 x2 x3 x6 n320 (some ⟨i326,0,none⟩) b325 H328) E
def zqu_50_M (nx115:Bool→HP) (τ:Tau) (H:Heap):Prop:=mP (τ 0) fun x0=>mP (τ 2) fun x2=>mP (τ 3) fun x3=>mB (τ 6) fun x6=>zqu_50 nx115 Q E x0 x2 x3 x6 H
theorem zqu_51ok (nx115:Bool→HP):Ok Pr (zqu_50_M Q E nx115) (sA (sB (sI (sA zqu_p12)))) (zqu_q21 Q E nx115) E:=fun τ H h =>
  wP 0 h (fun x0 h=>wP 2 h (fun x2 h=>wP 3 h (fun x3 h=>wB 6 h (fun x6 h=>(conv (by kernel_rfl) h)))))
theorem zqu_52ok (nx115:Bool→HP):Ok Pr (zqu_50_M Q E nx115) (sB (sI (sA zqu_p12))) (zqu_q7 Q E nx115) E:=fun τ H h =>
  (conv (by kernel_rfl) (vc_seq (K:=(zqu_46_M Q E nx115)) (zqu_51ok Q E nx115 τ H h) (zqu_49ok Q E nx115)))
noncomputable def zqu_q22 (nx115:Bool→HP):XT:=(xthen (zqu_50_M Q E nx115) (zqu_q7 Q E nx115))
noncomputable def zqu_p45:Code:=sA (sI (sA zqu_p12))
def zqu_53 (nx115:Bool→HP) (Q:QT) (E:ET) (x0 x2 x3:OA) (x6 x46:Bool) (H:Heap):Prop :=
 sel x46
 (ptr x0 fun q333 =>
 ldI .i64 (Addr.add q333 1) H fun n334 =>
 ptr x0 fun q335 =>
 wr (Addr.add q335 1) [(.int .i64 (IntKind.wrap .i64 (n334+1)))] H fun H336 =>
 zqu_3 Q E x2 x3 x6 H336)
 (zqu_50 nx115 Q E x0 x2 x3 x6 H)
def zqu_53_M (nx115:Bool→HP) (τ:Tau) (H:Heap):Prop:=mP (τ 0) fun x0=>mP (τ 2) fun x2=>mP (τ 3) fun x3=>mB (τ 6) fun x6=>mB (τ 46) fun x46=>zqu_53 nx115 Q E x0 x2 x3 x6 x46 H
theorem zqu_54ok (nx115:Bool→HP):Ok Pr (zqu_53_M Q E nx115) (sB (sB zqu_p45)) (zqu_q22 Q E nx115) E:=fun τ H h =>
  wP 0 h (fun x0 h=>wP 2 h (fun x2 h=>wP 3 h (fun x3 h=>wB 6 h (fun x6 h=>wB 46 h (fun x46 h=>(conv (by kernel_rfl) h))))))
noncomputable def zqu_q23 (nx115:Bool→HP):XT:=(xthen (zqu_53_M Q E nx115) (zqu_q22 Q E nx115))
def zqu_55 (nx115:Bool→HP) (Q:QT) (E:ET) (x0 x2 x3:OA) (x6 x7:Bool) (x8:Int) (x9:Bool) (H:Heap):Prop :=
 sel x9
 (sel (x8 == 93)
 (zqu_53 nx115 Q E x0 x2 x3 x6 x7 H)
 (zqu_53 nx115 Q E x0 x2 x3 x6 false H))
 (zqu_53 nx115 Q E x0 x2 x3 x6 false H)
def zqu_55_M (nx115:Bool→HP) (τ:Tau) (H:Heap):Prop:=mP (τ 0) fun x0=>mP (τ 2) fun x2=>mP (τ 3) fun x3=>mB (τ 6) fun x6=>mB (τ 7) fun x7=>mI .u8 (τ 8) fun x8=>mB (τ 9) fun x9=>zqu_55 nx115 Q E x0 x2 x3 x6 x7 x8 x9 H
theorem zqu_56ok (nx115:Bool→HP):Ok Pr (zqu_55_M Q E nx115) (sA (sB zqu_p45)) (zqu_q23 Q E nx115) E:=fun τ H h =>
  wP 0 h (fun x0 h=>wP 2 h (fun x2 h=>wP 3 h (fun x3 h=>wB 6 h (fun x6 h=>wB 7 h (fun x7 h=>wI 8 h (fun x8 h=>wB 9 h (fun x9 h=>(conv (by kernel_rfl) h))))))))
theorem zqu_57ok (nx115:Bool→HP):Ok Pr (zqu_55_M Q E nx115) (sB zqu_p45) (zqu_q22 Q E nx115) E:=fun τ H h =>
  (conv (by kernel_rfl) (vc_seq (K:=(zqu_53_M Q E nx115)) (zqu_56ok Q E nx115 τ H h) (zqu_54ok Q E nx115)))
noncomputable def zqu_q24 (nx115:Bool→HP):XT:=(xthen (zqu_55_M Q E nx115) (zqu_q22 Q E nx115))
def zqu_58 (nx115:Bool→HP) (Q:QT) (E:ET) (x0 x2 x3:OA) (x6 x7:Bool) (H:Heap):Prop :=
 Does Pr 94 #[(.pointer x0)] H (fun v337 H338 =>
 ∃ n339:Int,∃ b340:Bool,v337=(.tuple #[(.int .u8 n339),(.bool b340)])∧zqu_55 nx115 Q E x0 x2 x3 x6 x7 n339 b340 H338) E
def zqu_58_M (nx115:Bool→HP) (τ:Tau) (H:Heap):Prop:=mP (τ 0) fun x0=>mP (τ 2) fun x2=>mP (τ 3) fun x3=>mB (τ 6) fun x6=>mB (τ 7) fun x7=>zqu_58 nx115 Q E x0 x2 x3 x6 x7 H
theorem zqu_59ok (nx115:Bool→HP):Ok Pr (zqu_58_M Q E nx115) (sA zqu_p45) (zqu_q24 Q E nx115) E:=fun τ H h =>
  wP 0 h (fun x0 h=>wP 2 h (fun x2 h=>wP 3 h (fun x3 h=>wB 6 h (fun x6 h=>wB 7 h (fun x7 h=>(conv (by kernel_rfl) h))))))
theorem zqu_60ok (nx115:Bool→HP):Ok Pr (zqu_58_M Q E nx115) zqu_p45 (zqu_q22 Q E nx115) E:=fun τ H h =>
  (conv (by kernel_rfl) (vc_seq (K:=(zqu_55_M Q E nx115)) (zqu_59ok Q E nx115 τ H h) (zqu_57ok Q E nx115)))
theorem zqu_61ok (nx115:Bool→HP):Ok Pr (zqu_58_M Q E nx115) (sI (sA zqu_p12)) (zqu_q7 Q E nx115) E:=fun τ H h =>
  (conv (by kernel_rfl) (vc_seq (K:=(zqu_50_M Q E nx115)) (zqu_60ok Q E nx115 τ H h) (zqu_52ok Q E nx115)))
theorem zqu_62ok (nx115:Bool→HP):Ok Pr (zqu_58_M Q E nx115) (sA zqu_p12) (xthen (zqu_6_M Q E nx115) (zqu_q5 Q E nx115)) E:=fun τ H h =>
  (conv (by kernel_rfl) (zqu_61ok Q E nx115 τ H h))
theorem zqu_63ok (nx115:Bool→HP):Ok Pr (zqu_58_M Q E nx115) zqu_p12 (zqu_q5 Q E nx115) E:=fun τ H h =>
  (conv (by kernel_rfl) (vc_seq (K:=(zqu_6_M Q E nx115)) (zqu_62ok Q E nx115 τ H h) (zqu_7ok Q E nx115)))
def zqu_64 (Q:QT) (E:ET) (x0 x2 x3:OA) (x6 x7:Bool) (H:Heap):Prop :=
 ∃ (I:Bool→HP) (μ:Bool→Heap→Nat),I x7 H∧∀ (x7:Bool) (H:Heap),I x7 H →
 zqu_58 (fun x7' H1=>I x7' H1∧μ x7' H1 < μ x7 H) Q E x0 x2 x3 x6 x7 H
def zqu_64_M:Prop:=mP (τ 0) fun x0=>mP (τ 2) fun x2=>mP (τ 3) fun x3=>mB (τ 6) fun x6=>mB (τ 7) fun x7=>zqu_64 Q E x0 x2 x3 x6 x7 H
theorem zqu_65ok :Ok Pr (zqu_64_M Q E) (sI (sB zqu_p9)) (xblock 0 (zqu_q3 Q E)) E:=fun τ H h =>
  wP 0 h (fun x0 h=>wP 2 h (fun x2 h=>wP 3 h (fun x3 h=>wB 6 h (fun x6 h=>wB 7 h (fun x7 h=>match h with | ⟨I,μ,h0,hr⟩=>(conv (by kernel_rfl) (vc_loopG (c:=sI (sI (sB zqu_p9))) (τ:=(Tau.upd (Tau.upd (Tau.upd (Tau.upd (Tau.upd τ 0 (.pointer x0)) 2 (.pointer x2)) 3 (.pointer x3)) 6 (.bool x6)) 7 (.bool x7))) [0,2,3,6] (fun τ H=>mB (τ 7) fun x7'=>I x7' H) (fun τ H=>μ (gB (τ 7)) H) (by kernel_rfl) h0 (fun τ1 H1 hf hI=>uF 0 (.pointer x0) (hf 0 (by simp)) (uF 2 (.pointer x2) (hf 2 (by simp)) (uF 3 (.pointer x3) (hf 3 (by simp)) (uF 6 (.bool x6) (hf 6 (by simp)) (uB 7 hI (fun x7r h=>lgx (zqu_63ok Q E (fun x7' H2=>I x7' H2∧μ x7' H2 < μ x7r H1) (Tau.upd (Tau.upd (Tau.upd (Tau.upd (Tau.upd τ1 0 (.pointer x0)) 2 (.pointer x2)) 3 (.pointer x3)) 6 (.bool x6)) 7 (.bool x7r)) H1 (conv (by kernel_rfl) (hr x7r H1 h))) (fun τ2 H2 hk=>kB 7 hk (fun x7' h=>conv (by kernel_rfl) h)))))))))))))))
theorem zqu_66ok :Ok Pr (zqu_64_M Q E) (sB zqu_p9) (zqu_q3 Q E) E:=fun τ H h =>
  (conv (by kernel_rfl) (zqu_65ok Q E τ H h))
noncomputable def zqu_q25 :XT:=(xthen (zqu_64_M Q E) (zqu_q3 Q E))
def zqu_67 (Q:QT) (E:ET) (x0 x2 x3:OA) (x6:Bool) (H:Heap):Prop :=
 zqu_64 Q E x0 x2 x3 x6 false H
def zqu_67_M:Prop:=mP (τ 0) fun x0=>mP (τ 2) fun x2=>mP (τ 3) fun x3=>mB (τ 6) fun x6=>zqu_67 Q E x0 x2 x3 x6 H
theorem zqu_68ok :Ok Pr (zqu_67_M Q E) (sA zqu_p9) (zqu_q25 Q E) E:=fun τ H h =>
  wP 0 h (fun x0 h=>wP 2 h (fun x2 h=>wP 3 h (fun x3 h=>wB 6 h (fun x6 h=>(conv (by kernel_rfl) h)))))
theorem zqu_69ok :Ok Pr (zqu_67_M Q E) zqu_p9 (zqu_q3 Q E) E:=fun τ H h =>
  (conv (by kernel_rfl) (vc_seq (K:=(zqu_64_M Q E)) (zqu_68ok Q E τ H h) (zqu_66ok Q E)))
theorem zqu_70ok :Ok Pr (zqu_67_M Q E) (sB zqu_p4) (zqu_q1 Q E) E:=fun τ H h =>
  (conv (by kernel_rfl) (vc_seq (K:=(zqu_3_M Q E)) (zqu_69ok Q E τ H h) (zqu_5ok Q E)))
noncomputable def zqu_q26 :XT:=(xthen (zqu_67_M Q E) (zqu_q1 Q E))
def zqu_71 (Q:QT) (E:ET) (x0 x2 x3:OA) (x6:Bool) (H:Heap):Prop :=
 sel x6
 (ptr x0 fun q341 =>
 ldI .i64 (Addr.add q341 1) H fun n342 =>
 ptr x0 fun q343 =>
 wr (Addr.add q343 1) [(.int .i64 (IntKind.wrap .i64 (n342+1)))] H fun H344 =>
 zqu_67 Q E x0 x2 x3 x6 H344)
 (zqu_67 Q E x0 x2 x3 x6 H)
def zqu_71_M:Prop:=mP (τ 0) fun x0=>mP (τ 2) fun x2=>mP (τ 3) fun x3=>mB (τ 6) fun x6=>zqu_71 Q E x0 x2 x3 x6 H
theorem zqu_72ok :Ok Pr (zqu_71_M Q E) (sA zqu_p4) (zqu_q26 Q E) E:=fun τ H h =>
  wP 0 h (fun x0 h=>wP 2 h (fun x2 h=>wP 3 h (fun x3 h=>wB 6 h (fun x6 h=>(conv (by kernel_rfl) h)))))
theorem zqu_73ok :Ok Pr (zqu_71_M Q E) zqu_p4 (zqu_q1 Q E) E:=fun τ H h =>
  (conv (by kernel_rfl) (vc_seq (K:=(zqu_67_M Q E)) (zqu_72ok Q E τ H h) (zqu_70ok Q E)))
noncomputable def zqu_q27 :XT:=(xthen (zqu_71_M Q E) (zqu_q1 Q E))
def zqu_74 (Q:QT) (E:ET) (x0 x2 x3:OA) (x4:Int) (H:Heap):Prop :=
 zqu_71 Q E x0 x2 x3 (x4 == 94) H
def zqu_74_M:Prop:=mP (τ 0) fun x0=>mP (τ 2) fun x2=>mP (τ 3) fun x3=>mI .u8 (τ 4) fun x4=>zqu_74 Q E x0 x2 x3 x4 H
theorem zqu_75ok :Ok Pr (zqu_74_M Q E) (sA (sB (sB zqu_p1))) (zqu_q27 Q E) E:=fun τ H h =>
  wP 0 h (fun x0 h=>wP 2 h (fun x2 h=>wP 3 h (fun x3 h=>wI 4 h (fun x4 h=>(conv (by kernel_rfl) h)))))
theorem zqu_76ok :Ok Pr (zqu_74_M Q E) (sB (sB zqu_p1)) (zqu_q1 Q E) E:=fun τ H h =>
  (conv (by kernel_rfl) (vc_seq (K:=(zqu_71_M Q E)) (zqu_75ok Q E τ H h) (zqu_73ok Q E)))
noncomputable def zqu_q28 :XT:=(xthen (zqu_74_M Q E) (zqu_q1 Q E))
def zqu_77 (Q:QT) (E:ET) (x0 x2 x3:OA) (H:Heap):Prop :=
 Does Pr 94 #[(.pointer x0)] H (fun v345 H346 =>
 ∃ n347:Int,∃ b348:Bool,v345=(.tuple #[(.int .u8 n347),(.bool b348)])∧zqu_74 Q E x0 x2 x3 n347 H346) E
def zqu_77_M:Prop:=mP (τ 0) fun x0=>mP (τ 2) fun x2=>mP (τ 3) fun x3=>zqu_77 Q E x0 x2 x3 H
theorem zqu_78ok :Ok Pr (zqu_77_M Q E) (sA (sB zqu_p1)) (zqu_q28 Q E) E:=fun τ H h =>
  wP 0 h (fun x0 h=>wP 2 h (fun x2 h=>wP 3 h (fun x3 h=>(conv (by kernel_rfl) h))))
theorem zqu_79ok :Ok Pr (zqu_77_M Q E) (sB zqu_p1) (zqu_q1 Q E) E:=fun τ H h =>
  (conv (by kernel_rfl) (vc_seq (K:=(zqu_74_M Q E)) (zqu_78ok Q E τ H h) (zqu_76ok Q E)))
noncomputable def zqu_q29 :XT:=(xthen (zqu_77_M Q E) (zqu_q1 Q E))
def zqu_80 (Q:QT) (E:ET) (x0 x2:OA) (H:Heap):Prop :=
 nw (.cells #[(.int .u64 0),(.int .u64 0),(.int .u64 0),(.int .u64 0)] 46 (0,0)) H fun i349 H350 =>
 zqu_77 Q E x0 x2 (some ⟨i349,0,none⟩) H350
def zqu_80_M:Prop:=mP (τ 0) fun x0=>mP (τ 2) fun x2=>zqu_80 Q E x0 x2 H
theorem zqu_81ok :Ok Pr (zqu_80_M Q E) (sA zqu_p1) (zqu_q29 Q E) E:=fun τ H h =>
  wP 0 h (fun x0 h=>wP 2 h (fun x2 h=>(conv (by kernel_rfl) h)))
theorem zqu_82ok :Ok Pr (zqu_80_M Q E) zqu_p1 (zqu_q1 Q E) E:=fun τ H h =>
  (conv (by kernel_rfl) (vc_seq (K:=(zqu_77_M Q E)) (zqu_81ok Q E τ H h) (zqu_79ok Q E)))
def zqu (Q:QT) (E:ET) (a0:OA) (H:Heap):Prop :=
 nw (.cells #[(.int .u64 0),(.int .u64 0),(.int .u64 0),(.int .u64 0)] 46 (0,0)) H fun i351 H352 =>
 zqu_80 Q E a0 (some ⟨i351,0,none⟩) H352
theorem zqu_fn (a0:OA) (Q:QT) (E:ET) (H:Heap) (h:zqu Q E a0 H)  :Does Pr 113 #[(.pointer a0)] H Q E :=
  Fn_of_vc (fn:=Try.f113) (c:=(bodyOf Try.f113)) (args:=[(.pointer a0)]) mixed (by kernel_rfl) (by kernel_rfl) (by kernel_rfl) (by kernel_rfl) (by kernel_rfl) ((conv (B:=vc Pr (bodyOf Try.f113) (argT [(.pointer a0)]) (zqu_q1 Q E) E H) (by kernel_rfl) (vc_seq (K:=(zqu_80_M Q E)) (conv (B:=vc Pr (sA (bodyOf Try.f113)) (argT [(.pointer a0)]) (xthen (zqu_80_M Q E) (zqu_q1 Q E)) E H) (by kernel_rfl) h) (zqu_82ok Q E))))
noncomputable def zqv_q1 (Q:QT) (E:ET) :XT:=(retQ Pr (Try.f114).results.toList Q)
noncomputable def zqv_p1:Code:=sB (bodyOf Try.f114)
noncomputable def zqv_p4:Code:=sB (sB (sB zqv_p1))
def zqv_1 (Q:QT) (E:ET) (x2:Int) (x3:OA) (H:Heap):Prop :=
 Does Pr 115 #[(.agg #[(.int .u64 0),(.int .u64 0),(.int .u64 0),(.int .u64 0)]),(.int .u8 x2),(.int .u8 x2)] H (fun v39 H40 =>
 ∃ n41 n42 n43 n44:Int,v39=(.agg #[(.int .u64 n41),(.int .u64 n42),(.int .u64 n43),(.int .u64 n44)])∧ptr x3 fun q46 =>
 wr q46 [(.int .u64 n41),(.int .u64 n42),(.int .u64 n43),(.int .u64 n44)] H40 fun H45 =>
 ptr x3 fun q47 =>
 ∃ n48 n49 n50 n51:Int,Heap.rd H45 q47 0 [(.int .u64 n48),(.int .u64 n49),(.int .u64 n50),(.int .u64 n51)]∧Q (.tuple #[(.int .u8 x2),(.agg #[(.int .u64 n48),(.int .u64 n49),(.int .u64 n50),(.int .u64 n51)]),(.bool false)]) H45) E
def zqv_1_M:Prop:=mI .u8 (τ 2) fun x2=>mP (τ 3) fun x3=>zqv_1 Q E x2 x3 H
theorem zqv_2ok :Ok Pr (zqv_1_M Q E) (sB (sB (sB zqv_p4))) (zqv_q1 Q E) E:=fun τ H h =>
  wI 2 h (fun x2 h=>wP 3 h (fun x3 h=>(conv (by kernel_rfl) h)))
noncomputable def zqv_q2 :XT:=(xthen (zqv_1_M Q E) (zqv_q1 Q E))
def zqv_3 (Q:QT) (E:ET) (x0 x3:OA) (x5:Int) (H:Heap):Prop :=
 Does Pr 121 #[(.int .u8 x5)] H (fun v52 H53 =>
 ∃ n54:Int,∃ b55:Bool,v52=(.tuple #[(.int .u8 n54),(.bool b55)])∧sel (!b55)
 (Does Pr 103 #[(.pointer x0),(.int .i64 82)] H53 (fun v56 H57 =>
 ∃ n58:Int,v56=(.int .i64 n58)∧zqv_1 Q E n54 x3 H57) E)
 (zqv_1 Q E n54 x3 H53)) E
def zqv_3_M:Prop:=mP (τ 0) fun x0=>mP (τ 3) fun x3=>mI .u8 (τ 5) fun x5=>zqv_3 Q E x0 x3 x5 H
theorem zqv_4ok :Ok Pr (zqv_3_M Q E) (sA (sB (sB zqv_p4))) (zqv_q2 Q E) E:=fun τ H h =>
  wP 0 h (fun x0 h=>wP 3 h (fun x3 h=>wI 5 h (fun x5 h=>(conv (by kernel_rfl) h))))
theorem zqv_5ok :Ok Pr (zqv_3_M Q E) (sB (sB zqv_p4)) (zqv_q1 Q E) E:=fun τ H h =>
  (conv (by kernel_rfl) (vc_seq (K:=(zqv_1_M Q E)) (zqv_4ok Q E τ H h) (zqv_2ok Q E)))
noncomputable def zqv_q3 :XT:=(xthen (zqv_3_M Q E) (zqv_q1 Q E))
def zqv_6 (Q:QT) (E:ET) (x0 x3:OA) (x5:Int) (H:Heap):Prop :=
 Does Pr 120 #[(.int .u8 x5)] H (fun v59 H60 =>
 ∃ n61 n62 n63 n64:Int,∃ b65:Bool,v59=(.tuple #[(.agg #[(.int .u64 n61),(.int .u64 n62),(.int .u64 n63),(.int .u64 n64)]),(.bool b65)])∧ptr x3 fun q67 =>
 wr q67 [(.int .u64 n61),(.int .u64 n62),(.int .u64 n63),(.int .u64 n64)] H60 fun H66 =>
 sel b65
 (ptr x3 fun q68 =>
 ∃ n69 n70 n71 n72:Int,Heap.rd H66 q68 0 [(.int .u64 n69),(.int .u64 n70),(.int .u64 n71),(.int .u64 n72)]∧ptr x3 fun q74 =>
 wr q74 [(.int .u64 n69),(.int .u64 n70),(.int .u64 n71),(.int .u64 n72)] H66 fun H73 =>
 ptr x3 fun q75 =>
 ∃ n76 n77 n78 n79:Int,Heap.rd H73 q75 0 [(.int .u64 n76),(.int .u64 n77),(.int .u64 n78),(.int .u64 n79)]∧Q (.tuple #[(.int .u8 0),(.agg #[(.int .u64 n76),(.int .u64 n77),(.int .u64 n78),(.int .u64 n79)]),(.bool true)]) H73)
 (zqv_3 Q E x0 x3 x5 H66)) E
def zqv_6_M:Prop:=mP (τ 0) fun x0=>mP (τ 3) fun x3=>mI .u8 (τ 5) fun x5=>zqv_6 Q E x0 x3 x5 H
theorem zqv_7ok :Ok Pr (zqv_6_M Q E) (sA (sB zqv_p4)) (zqv_q3 Q E) E:=fun τ H h =>
  wP 0 h (fun x0 h=>wP 3 h (fun x3 h=>wI 5 h (fun x5 h=>(conv (by kernel_rfl) h))))
theorem zqv_8ok :Ok Pr (zqv_6_M Q E) (sB zqv_p4) (zqv_q1 Q E) E:=fun τ H h =>
  (conv (by kernel_rfl) (vc_seq (K:=(zqv_3_M Q E)) (zqv_7ok Q E τ H h) (zqv_5ok Q E)))
noncomputable def zqv_q4 :XT:=(xthen (zqv_6_M Q E) (zqv_q1 Q E))
def zqv_9 (Q:QT) (E:ET) (x0 x3:OA) (x5:Int) (H:Heap):Prop :=
 ptr x0 fun q80 =>
 ldI .i64 (Addr.add q80 1) H fun n81 =>
 ptr x0 fun q82 =>
 wr (Addr.add q82 1) [(.int .i64 (IntKind.wrap .i64 (n81+1)))] H fun H83 =>
 zqv_6 Q E x0 x3 x5 H83
def zqv_9_M:Prop:=mP (τ 0) fun x0=>mP (τ 3) fun x3=>mI .u8 (τ 5) fun x5=>zqv_9 Q E x0 x3 x5 H
theorem zqv_10ok :Ok Pr (zqv_9_M Q E) (sA zqv_p4) (zqv_q4 Q E) E:=fun τ H h =>
  wP 0 h (fun x0 h=>wP 3 h (fun x3 h=>wI 5 h (fun x5 h=>(conv (by kernel_rfl) h))))
theorem zqv_11ok :Ok Pr (zqv_9_M Q E) zqv_p4 (zqv_q1 Q E) E:=fun τ H h =>
  (conv (by kernel_rfl) (vc_seq (K:=(zqv_6_M Q E)) (zqv_10ok Q E τ H h) (zqv_8ok Q E)))
noncomputable def zqv_q5 :XT:=(xthen (zqv_9_M Q E) (zqv_q1 Q E))
def zqv_12 (Q:QT) (E:ET) (x0 x3:OA) (x5:Int) (x6:Bool) (H:Heap):Prop :=
 sel (!x6)
 (Does Pr 103 #[(.pointer x0),(.int .i64 82)] H (fun v84 H85 =>
 ∃ n86:Int,v84=(.int .i64 n86)∧ptr x3 fun q88 =>
 wr q88 [(.int .u64 0),(.int .u64 0),(.int .u64 0),(.int .u64 0)] H85 fun H87 =>
 ptr x3 fun q89 =>
 ∃ n90 n91 n92 n93:Int,Heap.rd H87 q89 0 [(.int .u64 n90),(.int .u64 n91),(.int .u64 n92),(.int .u64 n93)]∧Q (.tuple #[(.int .u8 0),(.agg #[(.int .u64 n90),(.int .u64 n91),(.int .u64 n92),(.int .u64 n93)]),(.bool false)]) H87) E)
 (zqv_9 Q E x0 x3 x5 H)
def zqv_12_M:Prop:=mP (τ 0) fun x0=>mP (τ 3) fun x3=>mI .u8 (τ 5) fun x5=>mB (τ 6) fun x6=>zqv_12 Q E x0 x3 x5 x6 H
theorem zqv_13ok :Ok Pr (zqv_12_M Q E) (sA (sB (sB zqv_p1))) (zqv_q5 Q E) E:=fun τ H h =>
  wP 0 h (fun x0 h=>wP 3 h (fun x3 h=>wI 5 h (fun x5 h=>wB 6 h (fun x6 h=>(conv (by kernel_rfl) h)))))
theorem zqv_14ok :Ok Pr (zqv_12_M Q E) (sB (sB zqv_p1)) (zqv_q1 Q E) E:=fun τ H h =>
  (conv (by kernel_rfl) (vc_seq (K:=(zqv_9_M Q E)) (zqv_13ok Q E τ H h) (zqv_11ok Q E)))
noncomputable def zqv_q6 :XT:=(xthen (zqv_12_M Q E) (zqv_q1 Q E))
def zqv_15 (Q:QT) (E:ET) (x0 x3:OA) (H:Heap):Prop :=
 Does Pr 94 #[(.pointer x0)] H (fun v94 H95 =>
 ∃ n96:Int,∃ b97:Bool,v94=(.tuple #[(.int .u8 n96),(.bool b97)])∧zqv_12 Q E x0 x3 n96 b97 H95) E
def zqv_15_M:Prop:=mP (τ 0) fun x0=>mP (τ 3) fun x3=>zqv_15 Q E x0 x3 H
theorem zqv_16ok :Ok Pr (zqv_15_M Q E) (sA (sB zqv_p1)) (zqv_q6 Q E) E:=fun τ H h =>
  wP 0 h (fun x0 h=>wP 3 h (fun x3 h=>(conv (by kernel_rfl) h)))
theorem zqv_17ok :Ok Pr (zqv_15_M Q E) (sB zqv_p1) (zqv_q1 Q E) E:=fun τ H h =>
  (conv (by kernel_rfl) (vc_seq (K:=(zqv_12_M Q E)) (zqv_16ok Q E τ H h) (zqv_14ok Q E)))
noncomputable def zqv_q7 :XT:=(xthen (zqv_15_M Q E) (zqv_q1 Q E))
def zqv_18 (Q:QT) (E:ET) (x0 x3:OA) (H:Heap):Prop :=
 ptr x0 fun q98 =>
 ldI .i64 (Addr.add q98 1) H fun n99 =>
 ptr x0 fun q100 =>
 wr (Addr.add q100 1) [(.int .i64 (IntKind.wrap .i64 (n99+1)))] H fun H101 =>
 zqv_15 Q E x0 x3 H101
def zqv_18_M:Prop:=mP (τ 0) fun x0=>mP (τ 3) fun x3=>zqv_18 Q E x0 x3 H
theorem zqv_19ok :Ok Pr (zqv_18_M Q E) (sA zqv_p1) (zqv_q7 Q E) E:=fun τ H h =>
  wP 0 h (fun x0 h=>wP 3 h (fun x3 h=>(conv (by kernel_rfl) h)))
theorem zqv_20ok :Ok Pr (zqv_18_M Q E) zqv_p1 (zqv_q1 Q E) E:=fun τ H h =>
  (conv (by kernel_rfl) (vc_seq (K:=(zqv_15_M Q E)) (zqv_19ok Q E τ H h) (zqv_17ok Q E)))
def zqv (Q:QT) (E:ET) (a0:OA) (H:Heap):Prop :=
 nw (.cells #[(.int .u64 0),(.int .u64 0),(.int .u64 0),(.int .u64 0)] 46 (0,0)) H fun i102 H103 =>
 zqv_18 Q E a0 (some ⟨i102,0,none⟩) H103
theorem zqv_fn (a0:OA) (Q:QT) (E:ET) (H:Heap) (h:zqv Q E a0 H)  :Does Pr 114 #[(.pointer a0)] H Q E :=
  Fn_of_vc (fn:=Try.f114) (c:=(bodyOf Try.f114)) (args:=[(.pointer a0)]) mixed (by kernel_rfl) (by kernel_rfl) (by kernel_rfl) (by kernel_rfl) (by kernel_rfl) ((conv (B:=vc Pr (bodyOf Try.f114) (argT [(.pointer a0)]) (zqv_q1 Q E) E H) (by kernel_rfl) (vc_seq (K:=(zqv_18_M Q E)) (conv (B:=vc Pr (sA (bodyOf Try.f114)) (argT [(.pointer a0)]) (xthen (zqv_18_M Q E) (zqv_q1 Q E)) E H) (by kernel_rfl) h) (zqv_20ok Q E))))
noncomputable def zqw_q1 (Q:QT) (E:ET) :XT:=(retQ Pr (Try.f115).results.toList Q)
noncomputable def zqw_p1:Code:=sB (bodyOf Try.f115)
def zqw_1 (Q:QT) (E:ET) (x3 x6:OA) (H:Heap):Prop :=
 ptr x3 fun q7 =>
 ∃ n8 n9 n10 n11:Int,Heap.rd H q7 0 [(.int .u64 n8),(.int .u64 n9),(.int .u64 n10),(.int .u64 n11)]∧ptr x6 fun q13 =>
 wr q13 [(.int .u64 n8),(.int .u64 n9),(.int .u64 n10),(.int .u64 n11)] H fun H12 =>
 ptr x6 fun q14 =>
 ∃ n15 n16 n17 n18:Int,Heap.rd H12 q14 0 [(.int .u64 n15),(.int .u64 n16),(.int .u64 n17),(.int .u64 n18)]∧Q (.agg #[(.int .u64 n15),(.int .u64 n16),(.int .u64 n17),(.int .u64 n18)]) H12
def zqw_1_M:Prop:=mP (τ 3) fun x3=>mP (τ 6) fun x6=>zqw_1 Q E x3 x6 H
theorem zqw_2ok :Ok Pr (zqw_1_M Q E) (sB zqw_p1) (zqw_q1 Q E) E:=fun τ H h =>
  wP 3 h (fun x3 h=>wP 6 h (fun x6 h=>(conv (by kernel_rfl) h)))
noncomputable def zqw_q2 :XT:=(xthen (zqw_1_M Q E) (zqw_q1 Q E))
noncomputable def zqw_p5:Code:=sI (sB (sA zqw_p1))
noncomputable def zqw_q4 (nx19:Int→HP):XT:=(xthen (fun τ H=>mI .i64 (τ 7) fun x7'=>nx19 x7' H) (xblock 0 (zqw_q2 Q E)))
def zqw_3 (nx19:Int→HP) (Q:QT) (E:ET) (x2:Int) (x3 x6:OA) (x7:Int) (H:Heap):Prop :=
 (64:Int) ≠ 0∧ptr x3 fun q20 =>
 (0≤((IntKind.wrap .i64 (Int.tdiv x7 64)):Int)∧((IntKind.wrap .i64 (Int.tdiv x7 64)):Int) < ((4:Nat):Int))∧ldI .u64 (Addr.add q20 (((IntKind.wrap .i64 (Int.tdiv x7 64)):Int).toNat * 1)) H fun n21 =>
 (64:Int) ≠ 0∧0≤((Int.tmod x7 64):Int)∧ptr x3 fun q22 =>
 (0≤((IntKind.wrap .i64 (Int.tdiv x7 64)):Int)∧((IntKind.wrap .i64 (Int.tdiv x7 64)):Int) < ((4:Nat):Int))∧wr (Addr.add q22 (((IntKind.wrap .i64 (Int.tdiv x7 64)):Int).toNat * 1)) [(.int .u64 (IntKind.wrap .u64 (BitVec.ofInt (IntKind.bits .u64) n21 ||| BitVec.ofInt (IntKind.bits .u64) (IntKind.wrap .u64 (1 * 2 ^ min ((Int.tmod x7 64):Int).toNat (IntKind.bits .u64)))).toNat))] H fun H23 =>
 nx19 (IntKind.wrap .i64 (x7+1)) H23
def zqw_3_M (nx19:Int→HP) (τ:Tau) (H:Heap):Prop:=mI .u8 (τ 2) fun x2=>mP (τ 3) fun x3=>mP (τ 6) fun x6=>mI .i64 (τ 7) fun x7=>zqw_3 nx19 Q E x2 x3 x6 x7 H
theorem zqw_4ok (nx19:Int→HP):Ok Pr (zqw_3_M Q E nx19) (sB (sI zqw_p5)) (zqw_q4 Q E nx19) E:=fun τ H h =>
  wI 2 h (fun x2 h=>wP 3 h (fun x3 h=>wP 6 h (fun x6 h=>wI 7 h (fun x7 h=>(conv (by kernel_rfl) h)))))
noncomputable def zqw_q5 (nx19:Int→HP):XT:=(xthen (zqw_3_M Q E nx19) (zqw_q4 Q E nx19))
def zqw_5 (nx19:Int→HP) (Q:QT) (E:ET) (x2:Int) (x3 x6:OA) (x7:Int) (H:Heap):Prop :=
 sel (decide (x7≤(IntKind.wrap .i64 x2)))
 (zqw_3 nx19 Q E x2 x3 x6 x7 H)
 (zqw_1 Q E x3 x6 H)
def zqw_5_M (nx19:Int→HP) (τ:Tau) (H:Heap):Prop:=mI .u8 (τ 2) fun x2=>mP (τ 3) fun x3=>mP (τ 6) fun x6=>mI .i64 (τ 7) fun x7=>zqw_5 nx19 Q E x2 x3 x6 x7 H
theorem zqw_6ok (nx19:Int→HP):Ok Pr (zqw_5_M Q E nx19) (sA (sI zqw_p5)) (zqw_q5 Q E nx19) E:=fun τ H h =>
  wI 2 h (fun x2 h=>wP 3 h (fun x3 h=>wP 6 h (fun x6 h=>wI 7 h (fun x7 h=>(conv (by kernel_rfl) h)))))
theorem zqw_7ok (nx19:Int→HP):Ok Pr (zqw_5_M Q E nx19) (sI zqw_p5) (zqw_q4 Q E nx19) E:=fun τ H h =>
  (conv (by kernel_rfl) (vc_seq (K:=(zqw_3_M Q E nx19)) (zqw_6ok Q E nx19 τ H h) (zqw_4ok Q E nx19)))
def zqw_8 (Q:QT) (E:ET) (x2:Int) (x3 x6:OA) (x7:Int) (H:Heap):Prop :=
 ∃ (I:Int→HP) (μ:Int→Heap→Nat),I x7 H∧∀ (x7:Int) (H:Heap),I x7 H →
 zqw_5 (fun x7' H1=>I x7' H1∧μ x7' H1 < μ x7 H) Q E x2 x3 x6 x7 H
def zqw_8_M:Prop:=mI .u8 (τ 2) fun x2=>mP (τ 3) fun x3=>mP (τ 6) fun x6=>mI .i64 (τ 7) fun x7=>zqw_8 Q E x2 x3 x6 x7 H
theorem zqw_9ok :Ok Pr (zqw_8_M Q E) zqw_p5 (xblock 0 (zqw_q2 Q E)) E:=fun τ H h =>
  wI 2 h (fun x2 h=>wP 3 h (fun x3 h=>wP 6 h (fun x6 h=>wI 7 h (fun x7 h=>match h with | ⟨I,μ,h0,hr⟩=>(conv (by kernel_rfl) (vc_loopG (c:=sI zqw_p5) (τ:=(Tau.upd (Tau.upd (Tau.upd (Tau.upd τ 2 (.int .u8 x2)) 3 (.pointer x3)) 6 (.pointer x6)) 7 (.int .i64 x7))) [2,3,6] (fun τ H=>mI .i64 (τ 7) fun x7'=>I x7' H) (fun τ H=>μ (gI (τ 7)) H) (by kernel_rfl) h0 (fun τ1 H1 hf hI=>uF 2 (.int .u8 x2) (hf 2 (by simp)) (uF 3 (.pointer x3) (hf 3 (by simp)) (uF 6 (.pointer x6) (hf 6 (by simp)) (uI 7 hI (fun x7r h=>lgx (zqw_7ok Q E (fun x7' H2=>I x7' H2∧μ x7' H2 < μ x7r H1) (Tau.upd (Tau.upd (Tau.upd (Tau.upd τ1 2 (.int .u8 x2)) 3 (.pointer x3)) 6 (.pointer x6)) 7 (.int .i64 x7r)) H1 (conv (by kernel_rfl) (hr x7r H1 h))) (fun τ2 H2 hk=>kI 7 hk (fun x7' h=>conv (by kernel_rfl) h)))))))))))))
theorem zqw_10ok :Ok Pr (zqw_8_M Q E) (sB (sA zqw_p1)) (zqw_q2 Q E) E:=fun τ H h =>
  (conv (by kernel_rfl) (zqw_9ok Q E τ H h))
noncomputable def zqw_q6 :XT:=(xthen (zqw_8_M Q E) (zqw_q2 Q E))
def zqw_11 (Q:QT) (E:ET) (x1 x2:Int) (x3 x6:OA) (H:Heap):Prop :=
 zqw_8 Q E x2 x3 x6 (IntKind.wrap .i64 x1) H
def zqw_11_M:Prop:=mI .u8 (τ 1) fun x1=>mI .u8 (τ 2) fun x2=>mP (τ 3) fun x3=>mP (τ 6) fun x6=>zqw_11 Q E x1 x2 x3 x6 H
theorem zqw_12ok :Ok Pr (zqw_11_M Q E) (sA (sA zqw_p1)) (zqw_q6 Q E) E:=fun τ H h =>
  wI 1 h (fun x1 h=>wI 2 h (fun x2 h=>wP 3 h (fun x3 h=>wP 6 h (fun x6 h=>(conv (by kernel_rfl) h)))))
theorem zqw_13ok :Ok Pr (zqw_11_M Q E) (sA zqw_p1) (zqw_q2 Q E) E:=fun τ H h =>
  (conv (by kernel_rfl) (vc_seq (K:=(zqw_8_M Q E)) (zqw_12ok Q E τ H h) (zqw_10ok Q E)))
theorem zqw_14ok :Ok Pr (zqw_11_M Q E) zqw_p1 (zqw_q1 Q E) E:=fun τ H h =>
  (conv (by kernel_rfl) (vc_seq (K:=(zqw_1_M Q E)) (zqw_13ok Q E τ H h) (zqw_2ok Q E)))
def zqw (Q:QT) (E:ET) (a0_0:Int) (a0_1:Int) (a0_2:Int) (a0_3:Int) (a1:Int) (a2:Int) (H:Heap):Prop :=
 nw (.cells #[(.int .u64 a0_0),(.int .u64 a0_1),(.int .u64 a0_2),(.int .u64 a0_3)] 46 (0,0)) H fun i24 H25 =>
 nw (.cells #[(.int .u64 0),(.int .u64 0),(.int .u64 0),(.int .u64 0)] 46 (0,0)) H25 fun i26 H27 =>
 zqw_11 Q E a1 a2 (some ⟨i24,0,none⟩) (some ⟨i26,0,none⟩) H27
theorem zqw_fn (a0_0:Int) (a0_1:Int) (a0_2:Int) (a0_3:Int) (a1:Int) (a2:Int) (Q:QT) (E:ET) (H:Heap) (h:zqw Q E a0_0 a0_1 a0_2 a0_3 a1 a2 H)  :Does Pr 115 #[(.agg #[(.int .u64 a0_0),(.int .u64 a0_1),(.int .u64 a0_2),(.int .u64 a0_3)]),(.int .u8 a1),(.int .u8 a2)] H Q E :=
  Fn_of_vc (fn:=Try.f115) (c:=(bodyOf Try.f115)) (args:=[(.agg #[(.int .u64 a0_0),(.int .u64 a0_1),(.int .u64 a0_2),(.int .u64 a0_3)]),(.int .u8 a1),(.int .u8 a2)]) mixed (by kernel_rfl) (by kernel_rfl) (by kernel_rfl) (by kernel_rfl) (by kernel_rfl) ((conv (B:=vc Pr (bodyOf Try.f115) (argT [(.agg #[(.int .u64 a0_0),(.int .u64 a0_1),(.int .u64 a0_2),(.int .u64 a0_3)]),(.int .u8 a1),(.int .u8 a2)]) (zqw_q1 Q E) E H) (by kernel_rfl) (vc_seq (K:=(zqw_11_M Q E)) (conv (B:=vc Pr (sA (bodyOf Try.f115)) (argT [(.agg #[(.int .u64 a0_0),(.int .u64 a0_1),(.int .u64 a0_2),(.int .u64 a0_3)]),(.int .u8 a1),(.int .u8 a2)]) (xthen (zqw_11_M Q E) (zqw_q1 Q E)) E H) (by kernel_rfl) h) (zqw_14ok Q E))))
noncomputable def zqx_q1 (Q:QT) (E:ET) :XT:=(retQ Pr (Try.f119).results.toList Q)
noncomputable def zqx_p2:Code:=sB (sB (bodyOf Try.f119))
def zqx_1 (Q:QT) (E:ET) (x0 x3:OA) (x5:Int) (H:Heap):Prop :=
 ptr x0 fun q20 =>
 ldI .i64 (Addr.add q20 1) H fun n21 =>
 ptr x0 fun q22 =>
 wr (Addr.add q22 1) [(.int .i64 (IntKind.wrap .i64 (n21+1)))] H fun H23 =>
 Does Pr 115 #[(.agg #[(.int .u64 0),(.int .u64 0),(.int .u64 0),(.int .u64 0)]),(.int .u8 x5),(.int .u8 x5)] H23 (fun v24 H25 =>
 ∃ n26 n27 n28 n29:Int,v24=(.agg #[(.int .u64 n26),(.int .u64 n27),(.int .u64 n28),(.int .u64 n29)])∧ptr x3 fun q31 =>
 wr q31 [(.int .u64 n26),(.int .u64 n27),(.int .u64 n28),(.int .u64 n29)] H25 fun H30 =>
 ptr x3 fun q32 =>
 ∃ n33 n34 n35 n36:Int,Heap.rd H30 q32 0 [(.int .u64 n33),(.int .u64 n34),(.int .u64 n35),(.int .u64 n36)]∧Q (.tuple #[(.int .u8 x5),(.agg #[(.int .u64 n33),(.int .u64 n34),(.int .u64 n35),(.int .u64 n36)]),(.bool false)]) H30) E
def zqx_1_M:Prop:=mP (τ 0) fun x0=>mP (τ 3) fun x3=>mI .u8 (τ 5) fun x5=>zqx_1 Q E x0 x3 x5 H
theorem zqx_2ok :Ok Pr (zqx_1_M Q E) (sB zqx_p2) (zqx_q1 Q E) E:=fun τ H h =>
  wP 0 h (fun x0 h=>wP 3 h (fun x3 h=>wI 5 h (fun x5 h=>(conv (by kernel_rfl) h))))
noncomputable def zqx_q2 :XT:=(xthen (zqx_1_M Q E) (zqx_q1 Q E))
def zqx_3 (Q:QT) (E:ET) (x0 x3:OA) (x5:Int) (x12:Bool) (H:Heap):Prop :=
 sel x12
 (Does Pr 103 #[(.pointer x0),(.int .i64 80)] H (fun v37 H38 =>
 ∃ n39:Int,v37=(.int .i64 n39)∧ptr x3 fun q41 =>
 wr q41 [(.int .u64 0),(.int .u64 0),(.int .u64 0),(.int .u64 0)] H38 fun H40 =>
 ptr x3 fun q42 =>
 ∃ n43 n44 n45 n46:Int,Heap.rd H40 q42 0 [(.int .u64 n43),(.int .u64 n44),(.int .u64 n45),(.int .u64 n46)]∧Q (.tuple #[(.int .u8 0),(.agg #[(.int .u64 n43),(.int .u64 n44),(.int .u64 n45),(.int .u64 n46)]),(.bool false)]) H40) E)
 (sel (x5 == 92)
 (Does Pr 114 #[(.pointer x0)] H (fun v47 H48 =>
 ∃ n49 n50 n51 n52 n53:Int,∃ b54:Bool,v47=(.tuple #[(.int .u8 n49),(.agg #[(.int .u64 n50),(.int .u64 n51),(.int .u64 n52),(.int .u64 n53)]),(.bool b54)])∧ptr x3 fun q56 =>
 wr q56 [(.int .u64 n50),(.int .u64 n51),(.int .u64 n52),(.int .u64 n53)] H48 fun H55 =>
 ptr x3 fun q57 =>
 ∃ n58 n59 n60 n61:Int,Heap.rd H55 q57 0 [(.int .u64 n58),(.int .u64 n59),(.int .u64 n60),(.int .u64 n61)]∧Q (.tuple #[(.int .u8 n49),(.agg #[(.int .u64 n58),(.int .u64 n59),(.int .u64 n60),(.int .u64 n61)]),(.bool b54)]) H55) E)
 (zqx_1 Q E x0 x3 x5 H))
def zqx_3_M:Prop:=mP (τ 0) fun x0=>mP (τ 3) fun x3=>mI .u8 (τ 5) fun x5=>mB (τ 12) fun x12=>zqx_3 Q E x0 x3 x5 x12 H
theorem zqx_4ok :Ok Pr (zqx_3_M Q E) (sB (sI (sA zqx_p2))) (xblock 0 (zqx_q2 Q E)) E:=fun τ H h =>
  wP 0 h (fun x0 h=>wP 3 h (fun x3 h=>wI 5 h (fun x5 h=>wB 12 h (fun x12 h=>(conv (by kernel_rfl) h)))))
noncomputable def zqx_q4 :XT:=(xthen (zqx_3_M Q E) (xblock 0 (zqx_q2 Q E)))
def zqx_5 (Q:QT) (E:ET) (x0 x3:OA) (x5:Int) (x6:Bool) (H:Heap):Prop :=
 sel (!x6)
 (zqx_3 Q E x0 x3 x5 true H)
 (sel (x5 == 93)
 (zqx_3 Q E x0 x3 x5 true H)
 (sel (x5 == 94)
 (zqx_3 Q E x0 x3 x5 true H)
 (zqx_3 Q E x0 x3 x5 (x5 == 45) H)))
def zqx_5_M:Prop:=mP (τ 0) fun x0=>mP (τ 3) fun x3=>mI .u8 (τ 5) fun x5=>mB (τ 6) fun x6=>zqx_5 Q E x0 x3 x5 x6 H
theorem zqx_6ok :Ok Pr (zqx_5_M Q E) (sA (sI (sA zqx_p2))) (zqx_q4 Q E) E:=fun τ H h =>
  wP 0 h (fun x0 h=>wP 3 h (fun x3 h=>wI 5 h (fun x5 h=>wB 6 h (fun x6 h=>(conv (by kernel_rfl) h)))))
theorem zqx_7ok :Ok Pr (zqx_5_M Q E) (sI (sA zqx_p2)) (xblock 0 (zqx_q2 Q E)) E:=fun τ H h =>
  (conv (by kernel_rfl) (vc_seq (K:=(zqx_3_M Q E)) (zqx_6ok Q E τ H h) (zqx_4ok Q E)))
theorem zqx_8ok :Ok Pr (zqx_5_M Q E) (sA zqx_p2) (zqx_q2 Q E) E:=fun τ H h =>
  (conv (by kernel_rfl) (zqx_7ok Q E τ H h))
theorem zqx_9ok :Ok Pr (zqx_5_M Q E) zqx_p2 (zqx_q1 Q E) E:=fun τ H h =>
  (conv (by kernel_rfl) (vc_seq (K:=(zqx_1_M Q E)) (zqx_8ok Q E τ H h) (zqx_2ok Q E)))
noncomputable def zqx_q5 :XT:=(xthen (zqx_5_M Q E) (zqx_q1 Q E))
def zqx_10 (Q:QT) (E:ET) (x0 x3:OA) (H:Heap):Prop :=
 Does Pr 94 #[(.pointer x0)] H (fun v62 H63 =>
 ∃ n64:Int,∃ b65:Bool,v62=(.tuple #[(.int .u8 n64),(.bool b65)])∧zqx_5 Q E x0 x3 n64 b65 H63) E
def zqx_10_M:Prop:=mP (τ 0) fun x0=>mP (τ 3) fun x3=>zqx_10 Q E x0 x3 H
theorem zqx_11ok :Ok Pr (zqx_10_M Q E) (sA (sB (bodyOf Try.f119))) (zqx_q5 Q E) E:=fun τ H h =>
  wP 0 h (fun x0 h=>wP 3 h (fun x3 h=>(conv (by kernel_rfl) h)))
theorem zqx_12ok :Ok Pr (zqx_10_M Q E) (sB (bodyOf Try.f119)) (zqx_q1 Q E) E:=fun τ H h =>
  (conv (by kernel_rfl) (vc_seq (K:=(zqx_5_M Q E)) (zqx_11ok Q E τ H h) (zqx_9ok Q E)))
def zqx (Q:QT) (E:ET) (a0:OA) (H:Heap):Prop :=
 nw (.cells #[(.int .u64 0),(.int .u64 0),(.int .u64 0),(.int .u64 0)] 46 (0,0)) H fun i66 H67 =>
 zqx_10 Q E a0 (some ⟨i66,0,none⟩) H67
theorem zqx_fn (a0:OA) (Q:QT) (E:ET) (H:Heap) (h:zqx Q E a0 H)  :Does Pr 119 #[(.pointer a0)] H Q E :=
  Fn_of_vc (fn:=Try.f119) (c:=(bodyOf Try.f119)) (args:=[(.pointer a0)]) mixed (by kernel_rfl) (by kernel_rfl) (by kernel_rfl) (by kernel_rfl) (by kernel_rfl) ((conv (B:=vc Pr (bodyOf Try.f119) (argT [(.pointer a0)]) (zqx_q1 Q E) E H) (by kernel_rfl) (vc_seq (K:=(zqx_10_M Q E)) (conv (B:=vc Pr (sA (bodyOf Try.f119)) (argT [(.pointer a0)]) (xthen (zqx_10_M Q E) (zqx_q1 Q E)) E H) (by kernel_rfl) h) (zqx_12ok Q E))))
noncomputable def zqy_q1 (Q:QT) (E:ET) :XT:=(retQ Pr (Try.f120).results.toList Q)
noncomputable def zqy_p1:Code:=sB (bodyOf Try.f120)
def zqy_1 (Q:QT) (E:ET) (x2:OA) (H:Heap):Prop :=
 ptr x2 fun q48 =>
 wr q48 [(.int .u64 0),(.int .u64 0),(.int .u64 0),(.int .u64 0)] H fun H47 =>
 ptr x2 fun q49 =>
 ∃ n50 n51 n52 n53:Int,Heap.rd H47 q49 0 [(.int .u64 n50),(.int .u64 n51),(.int .u64 n52),(.int .u64 n53)]∧Q (.tuple #[(.agg #[(.int .u64 n50),(.int .u64 n51),(.int .u64 n52),(.int .u64 n53)]),(.bool false)]) H47
def zqy_1_M:Prop:=mP (τ 2) fun x2=>zqy_1 Q E x2 H
theorem zqy_2ok :Ok Pr (zqy_1_M Q E) (sB (sB zqy_p1)) (zqy_q1 Q E) E:=fun τ H h =>
  wP 2 h (fun x2 h=>(conv (by kernel_rfl) h))
noncomputable def zqy_q2 :XT:=(xthen (zqy_1_M Q E) (zqy_q1 Q E))
def zqy_3 (Q:QT) (E:ET) (x0:Int) (x2 x4:OA) (H:Heap):Prop :=
 sel (x0 == 100)
 (ptr x4 fun q54 =>
 ∃ n55 n56 n57 n58:Int,Heap.rd H q54 0 [(.int .u64 n55),(.int .u64 n56),(.int .u64 n57),(.int .u64 n58)]∧ptr x2 fun q60 =>
 wr q60 [(.int .u64 n55),(.int .u64 n56),(.int .u64 n57),(.int .u64 n58)] H fun H59 =>
 ptr x2 fun q61 =>
 ∃ n62 n63 n64 n65:Int,Heap.rd H59 q61 0 [(.int .u64 n62),(.int .u64 n63),(.int .u64 n64),(.int .u64 n65)]∧Q (.tuple #[(.agg #[(.int .u64 n62),(.int .u64 n63),(.int .u64 n64),(.int .u64 n65)]),(.bool true)]) H59)
 (sel (x0 == 119)
 (ptr x4 fun q66 =>
 ∃ n67 n68 n69 n70:Int,Heap.rd H q66 0 [(.int .u64 n67),(.int .u64 n68),(.int .u64 n69),(.int .u64 n70)]∧Does Pr 115 #[(.agg #[(.int .u64 n67),(.int .u64 n68),(.int .u64 n69),(.int .u64 n70)]),(.int .u8 97),(.int .u8 122)] H (fun v71 H72 =>
 ∃ n73 n74 n75 n76:Int,v71=(.agg #[(.int .u64 n73),(.int .u64 n74),(.int .u64 n75),(.int .u64 n76)])∧Does Pr 115 #[(.agg #[(.int .u64 n73),(.int .u64 n74),(.int .u64 n75),(.int .u64 n76)]),(.int .u8 65),(.int .u8 90)] H72 (fun v77 H78 =>
 ∃ n79 n80 n81 n82:Int,v77=(.agg #[(.int .u64 n79),(.int .u64 n80),(.int .u64 n81),(.int .u64 n82)])∧Does Pr 115 #[(.agg #[(.int .u64 n79),(.int .u64 n80),(.int .u64 n81),(.int .u64 n82)]),(.int .u8 95),(.int .u8 95)] H78 (fun v83 H84 =>
 ∃ n85 n86 n87 n88:Int,v83=(.agg #[(.int .u64 n85),(.int .u64 n86),(.int .u64 n87),(.int .u64 n88)])∧ptr x2 fun q90 =>
 wr q90 [(.int .u64 n85),(.int .u64 n86),(.int .u64 n87),(.int .u64 n88)] H84 fun H89 =>
 ptr x2 fun q91 =>
 ∃ n92 n93 n94 n95:Int,Heap.rd H89 q91 0 [(.int .u64 n92),(.int .u64 n93),(.int .u64 n94),(.int .u64 n95)]∧Q (.tuple #[(.agg #[(.int .u64 n92),(.int .u64 n93),(.int .u64 n94),(.int .u64 n95)]),(.bool true)]) H89) E) E) E)
 (sel (x0 == 115)
 (Does Pr 112 #[(.string ⟨[32,9,13,10].toArray⟩)] H (fun v96 H97 =>
 ∃ n98 n99 n100 n101:Int,v96=(.agg #[(.int .u64 n98),(.int .u64 n99),(.int .u64 n100),(.int .u64 n101)])∧ptr x2 fun q103 =>
 wr q103 [(.int .u64 n98),(.int .u64 n99),(.int .u64 n100),(.int .u64 n101)] H97 fun H102 =>
 ptr x2 fun q104 =>
 ∃ n105 n106 n107 n108:Int,Heap.rd H102 q104 0 [(.int .u64 n105),(.int .u64 n106),(.int .u64 n107),(.int .u64 n108)]∧Q (.tuple #[(.agg #[(.int .u64 n105),(.int .u64 n106),(.int .u64 n107),(.int .u64 n108)]),(.bool true)]) H102) E)
 (zqy_1 Q E x2 H)))
def zqy_3_M:Prop:=mI .u8 (τ 0) fun x0=>mP (τ 2) fun x2=>mP (τ 4) fun x4=>zqy_3 Q E x0 x2 x4 H
theorem zqy_4ok :Ok Pr (zqy_3_M Q E) (sA (sB zqy_p1)) (zqy_q2 Q E) E:=fun τ H h =>
  wI 0 h (fun x0 h=>wP 2 h (fun x2 h=>wP 4 h (fun x4 h=>(conv (by kernel_rfl) h))))
theorem zqy_5ok :Ok Pr (zqy_3_M Q E) (sB zqy_p1) (zqy_q1 Q E) E:=fun τ H h =>
  (conv (by kernel_rfl) (vc_seq (K:=(zqy_1_M Q E)) (zqy_4ok Q E τ H h) (zqy_2ok Q E)))
noncomputable def zqy_q3 :XT:=(xthen (zqy_3_M Q E) (zqy_q1 Q E))
def zqy_6 (Q:QT) (E:ET) (x0:Int) (x2:OA) (H:Heap):Prop :=
 Does Pr 115 #[(.agg #[(.int .u64 0),(.int .u64 0),(.int .u64 0),(.int .u64 0)]),(.int .u8 48),(.int .u8 57)] H (fun v109 H110 =>
 ∃ n111 n112 n113 n114:Int,v109=(.agg #[(.int .u64 n111),(.int .u64 n112),(.int .u64 n113),(.int .u64 n114)])∧nw (.cells #[(.int .u64 0),(.int .u64 0),(.int .u64 0),(.int .u64 0)] 46 (0,0)) H110 fun i115 H116 =>
 wr ⟨i115,0,none⟩ [(.int .u64 n111),(.int .u64 n112),(.int .u64 n113),(.int .u64 n114)] H116 fun H117 =>
 zqy_3 Q E x0 x2 (some ⟨i115,0,none⟩) H117) E
def zqy_6_M:Prop:=mI .u8 (τ 0) fun x0=>mP (τ 2) fun x2=>zqy_6 Q E x0 x2 H
theorem zqy_7ok :Ok Pr (zqy_6_M Q E) (sA zqy_p1) (zqy_q3 Q E) E:=fun τ H h =>
  wI 0 h (fun x0 h=>wP 2 h (fun x2 h=>(conv (by kernel_rfl) h)))
theorem zqy_8ok :Ok Pr (zqy_6_M Q E) zqy_p1 (zqy_q1 Q E) E:=fun τ H h =>
  (conv (by kernel_rfl) (vc_seq (K:=(zqy_3_M Q E)) (zqy_7ok Q E τ H h) (zqy_5ok Q E)))
def zqy (Q:QT) (E:ET) (a0:Int) (H:Heap):Prop :=
 nw (.cells #[(.int .u64 0),(.int .u64 0),(.int .u64 0),(.int .u64 0)] 46 (0,0)) H fun i118 H119 =>
 zqy_6 Q E a0 (some ⟨i118,0,none⟩) H119
theorem zqy_fn (a0:Int) (Q:QT) (E:ET) (H:Heap) (h:zqy Q E a0 H)  :Does Pr 120 #[(.int .u8 a0)] H Q E :=
  Fn_of_vc (fn:=Try.f120) (c:=(bodyOf Try.f120)) (args:=[(.int .u8 a0)]) mixed (by kernel_rfl) (by kernel_rfl) (by kernel_rfl) (by kernel_rfl) (by kernel_rfl) ((conv (B:=vc Pr (bodyOf Try.f120) (argT [(.int .u8 a0)]) (zqy_q1 Q E) E H) (by kernel_rfl) (vc_seq (K:=(zqy_6_M Q E)) (conv (B:=vc Pr (sA (bodyOf Try.f120)) (argT [(.int .u8 a0)]) (xthen (zqy_6_M Q E) (zqy_q1 Q E)) E H) (by kernel_rfl) h) (zqy_8ok Q E))))
noncomputable def zqz_q1 (Q:QT) (E:ET) :XT:=(retQ Pr (Try.f121).results.toList Q)
def zqz_1 (Q:QT) (E:ET)  (H:Heap):Prop :=
 Q (.tuple #[(.int .u8 0),(.bool false)]) H
def zqz_1_M  (τ:Tau) (H:Heap):Prop:=zqz_1 Q E  H
theorem zqz_2ok :Ok Pr (zqz_1_M Q E) (sB (sB (bodyOf Try.f121))) (zqz_q1 Q E) E:=fun τ H h =>
  (conv (by kernel_rfl) h)
noncomputable def zqz_q3 :XT:=(xblock 0 (xthen (zqz_1_M Q E) (zqz_q1 Q E)))
noncomputable def zqz_p4:Code:=sI (sA (sB (bodyOf Try.f121)))
def zqz_3 (Q:QT) (E:ET)  (H:Heap):Prop :=
 Q (.tuple #[(.int .u8 10),(.bool true)]) H
def zqz_3_M  (τ:Tau) (H:Heap):Prop:=zqz_3 Q E  H
theorem zqz_4ok :Ok Pr (zqz_3_M Q E) (sT (sB zqz_p4)) (zqz_q3 Q E) E:=fun τ H h =>
  (conv (by kernel_rfl) h)
noncomputable def zqz_p8:Code:=sB (sE (sB zqz_p4))
def zqz_5 (Q:QT) (E:ET)  (H:Heap):Prop :=
 Q (.tuple #[(.int .u8 9),(.bool true)]) H
def zqz_5_M  (τ:Tau) (H:Heap):Prop:=zqz_5 Q E  H
theorem zqz_6ok :Ok Pr (zqz_5_M Q E) (sT zqz_p8) (zqz_q3 Q E) E:=fun τ H h =>
  (conv (by kernel_rfl) h)
def zqz_7 (Q:QT) (E:ET)  (H:Heap):Prop :=
 Q (.tuple #[(.int .u8 13),(.bool true)]) H
def zqz_7_M  (τ:Tau) (H:Heap):Prop:=zqz_7 Q E  H
theorem zqz_8ok :Ok Pr (zqz_7_M Q E) (sT (sB (sE zqz_p8))) (zqz_q3 Q E) E:=fun τ H h =>
  (conv (by kernel_rfl) h)
def zqz_9 (Q:QT) (E:ET) (x0:Int) (x13:Bool) (H:Heap):Prop :=
 sel x13
 (Q (.tuple #[(.int .u8 x0),(.bool true)]) H)
 (zqz_1 Q E  H)
def zqz_9_M:Prop:=mI .u8 (τ 0) fun x0=>mB (τ 13) fun x13=>zqz_9 Q E x0 x13 H
theorem zqz_10ok :Ok Pr (zqz_9_M Q E) (sB (sE (sB (sE zqz_p8)))) (zqz_q3 Q E) E:=fun τ H h =>
  wI 0 h (fun x0 h=>wB 13 h (fun x13 h=>(conv (by kernel_rfl) h)))
noncomputable def zqz_q4 :XT:=(xthen (zqz_9_M Q E) (zqz_q3 Q E))
noncomputable def zqz_p15:Code:=sA (sE (sB (sE zqz_p8)))
def zqz_11 (Q:QT) (E:ET) (x0:Int) (x13:Bool) (H:Heap):Prop :=
 zqz_9 Q E x0 x13 H
def zqz_11_M:Prop:=mI .u8 (τ 0) fun x0=>mB (τ 13) fun x13=>zqz_11 Q E x0 x13 H
theorem zqz_12ok :Ok Pr (zqz_11_M Q E) (sT (sB zqz_p15)) (zqz_q4 Q E) E:=fun τ H h =>
  wI 0 h (fun x0 h=>wB 13 h (fun x13 h=>(conv (by kernel_rfl) h)))
noncomputable def zqz_p19:Code:=sB (sE (sB zqz_p15))
def zqz_13 (Q:QT) (E:ET) (x0:Int) (x13:Bool) (H:Heap):Prop :=
 zqz_9 Q E x0 x13 H
def zqz_13_M:Prop:=mI .u8 (τ 0) fun x0=>mB (τ 13) fun x13=>zqz_13 Q E x0 x13 H
theorem zqz_14ok :Ok Pr (zqz_13_M Q E) (sT zqz_p19) (zqz_q4 Q E) E:=fun τ H h =>
  wI 0 h (fun x0 h=>wB 13 h (fun x13 h=>(conv (by kernel_rfl) h)))
def zqz_15 (Q:QT) (E:ET) (x0:Int) (x13:Bool) (H:Heap):Prop :=
 sel x13
 (zqz_9 Q E x0 x13 H)
 (sel (decide (x0 ≥ 123))
 (zqz_9 Q E x0 (decide (x0≤126)) H)
 (zqz_9 Q E x0 false H))
def zqz_15_M:Prop:=mI .u8 (τ 0) fun x0=>mB (τ 13) fun x13=>zqz_15 Q E x0 x13 H
theorem zqz_16ok :Ok Pr (zqz_15_M Q E) (sB (sE zqz_p19)) (zqz_q4 Q E) E:=fun τ H h =>
  wI 0 h (fun x0 h=>wB 13 h (fun x13 h=>(conv (by kernel_rfl) h)))
def zqz_17 (Q:QT) (E:ET) (x0:Int) (H:Heap):Prop :=
 sel (decide (x0 ≥ 91))
 (zqz_15 Q E x0 (decide (x0≤96)) H)
 (zqz_15 Q E x0 false H)
def zqz_17_M:Prop:=mI .u8 (τ 0) fun x0=>zqz_17 Q E x0 H
theorem zqz_18ok :Ok Pr (zqz_17_M Q E) (sA (sE zqz_p19)) (xthen (zqz_15_M Q E) (zqz_q4 Q E)) E:=fun τ H h =>
  wI 0 h (fun x0 h=>(conv (by kernel_rfl) h))
theorem zqz_19ok :Ok Pr (zqz_17_M Q E) (sE zqz_p19) (zqz_q4 Q E) E:=fun τ H h =>
  (conv (by kernel_rfl) (vc_seq (K:=(zqz_15_M Q E)) (zqz_18ok Q E τ H h) (zqz_16ok Q E)))
def zqz_20 (Q:QT) (E:ET) (x0:Int) (x13:Bool) (H:Heap):Prop :=
 sel x13
 (zqz_13 Q E x0 x13 H)
 (zqz_17 Q E x0 H)
def zqz_20_M:Prop:=mI .u8 (τ 0) fun x0=>mB (τ 13) fun x13=>zqz_20 Q E x0 x13 H
theorem zqz_21ok :Ok Pr (zqz_20_M Q E) zqz_p19 (zqz_q4 Q E) E:=fun τ H h =>
  wI 0 h (fun x0 h=>wB 13 h (fun x13 h=>(conv (by kernel_rfl) (sel_mapT (b:=x13) (τ:=(Tau.upd (Tau.upd τ 0 (.int .u8 x0)) 13 (.bool x13))) (H:=H) (zqz_14ok Q E) (zqz_19ok Q E) (conv (by kernel_rfl) h)))))
def zqz_22 (Q:QT) (E:ET) (x0:Int) (H:Heap):Prop :=
 sel (decide (x0 ≥ 58))
 (zqz_20 Q E x0 (decide (x0≤64)) H)
 (zqz_20 Q E x0 false H)
def zqz_22_M:Prop:=mI .u8 (τ 0) fun x0=>zqz_22 Q E x0 H
theorem zqz_23ok :Ok Pr (zqz_22_M Q E) (sA (sE (sB zqz_p15))) (xthen (zqz_20_M Q E) (zqz_q4 Q E)) E:=fun τ H h =>
  wI 0 h (fun x0 h=>(conv (by kernel_rfl) h))
theorem zqz_24ok :Ok Pr (zqz_22_M Q E) (sE (sB zqz_p15)) (zqz_q4 Q E) E:=fun τ H h =>
  (conv (by kernel_rfl) (vc_seq (K:=(zqz_20_M Q E)) (zqz_23ok Q E τ H h) (zqz_21ok Q E)))
def zqz_25 (Q:QT) (E:ET) (x0:Int) (x13:Bool) (H:Heap):Prop :=
 sel x13
 (zqz_11 Q E x0 x13 H)
 (zqz_22 Q E x0 H)
def zqz_25_M:Prop:=mI .u8 (τ 0) fun x0=>mB (τ 13) fun x13=>zqz_25 Q E x0 x13 H
theorem zqz_26ok :Ok Pr (zqz_25_M Q E) (sB zqz_p15) (zqz_q4 Q E) E:=fun τ H h =>
  wI 0 h (fun x0 h=>wB 13 h (fun x13 h=>(conv (by kernel_rfl) (sel_mapT (b:=x13) (τ:=(Tau.upd (Tau.upd τ 0 (.int .u8 x0)) 13 (.bool x13))) (H:=H) (zqz_12ok Q E) (zqz_24ok Q E) (conv (by kernel_rfl) h)))))
def zqz_27 (Q:QT) (E:ET) (x0:Int) (H:Heap):Prop :=
 sel (decide (x0 ≥ 33))
 (zqz_25 Q E x0 (decide (x0≤47)) H)
 (zqz_25 Q E x0 false H)
def zqz_27_M:Prop:=mI .u8 (τ 0) fun x0=>zqz_27 Q E x0 H
theorem zqz_28ok :Ok Pr (zqz_27_M Q E) (sA zqz_p15) (xthen (zqz_25_M Q E) (zqz_q4 Q E)) E:=fun τ H h =>
  wI 0 h (fun x0 h=>(conv (by kernel_rfl) h))
theorem zqz_29ok :Ok Pr (zqz_27_M Q E) zqz_p15 (zqz_q4 Q E) E:=fun τ H h =>
  (conv (by kernel_rfl) (vc_seq (K:=(zqz_25_M Q E)) (zqz_28ok Q E τ H h) (zqz_26ok Q E)))
theorem zqz_30ok :Ok Pr (zqz_27_M Q E) (sE (sB (sE zqz_p8))) (zqz_q3 Q E) E:=fun τ H h =>
  (conv (by kernel_rfl) (vc_seq (K:=(zqz_9_M Q E)) (zqz_29ok Q E τ H h) (zqz_10ok Q E)))
def zqz_31 (Q:QT) (E:ET) (x0:Int) (x10:Bool) (H:Heap):Prop :=
 sel x10
 (zqz_7 Q E  H)
 (zqz_27 Q E x0 H)
def zqz_31_M:Prop:=mI .u8 (τ 0) fun x0=>mB (τ 10) fun x10=>zqz_31 Q E x0 x10 H
theorem zqz_32ok :Ok Pr (zqz_31_M Q E) (sB (sE zqz_p8)) (zqz_q3 Q E) E:=fun τ H h =>
  wI 0 h (fun x0 h=>wB 10 h (fun x10 h=>(conv (by kernel_rfl) (sel_mapT (b:=x10) (τ:=(Tau.upd (Tau.upd τ 0 (.int .u8 x0)) 10 (.bool x10))) (H:=H) (zqz_8ok Q E) (zqz_30ok Q E) (conv (by kernel_rfl) h)))))
def zqz_33 (Q:QT) (E:ET) (x0:Int) (H:Heap):Prop :=
 zqz_31 Q E x0 (x0 == 114) H
def zqz_33_M:Prop:=mI .u8 (τ 0) fun x0=>zqz_33 Q E x0 H
theorem zqz_34ok :Ok Pr (zqz_33_M Q E) (sA (sE zqz_p8)) (xthen (zqz_31_M Q E) (zqz_q3 Q E)) E:=fun τ H h =>
  wI 0 h (fun x0 h=>(conv (by kernel_rfl) h))
theorem zqz_35ok :Ok Pr (zqz_33_M Q E) (sE zqz_p8) (zqz_q3 Q E) E:=fun τ H h =>
  (conv (by kernel_rfl) (vc_seq (K:=(zqz_31_M Q E)) (zqz_34ok Q E τ H h) (zqz_32ok Q E)))
def zqz_36 (Q:QT) (E:ET) (x0:Int) (x7:Bool) (H:Heap):Prop :=
 sel x7
 (zqz_5 Q E  H)
 (zqz_33 Q E x0 H)
def zqz_36_M:Prop:=mI .u8 (τ 0) fun x0=>mB (τ 7) fun x7=>zqz_36 Q E x0 x7 H
theorem zqz_37ok :Ok Pr (zqz_36_M Q E) zqz_p8 (zqz_q3 Q E) E:=fun τ H h =>
  wI 0 h (fun x0 h=>wB 7 h (fun x7 h=>(conv (by kernel_rfl) (sel_mapT (b:=x7) (τ:=(Tau.upd (Tau.upd τ 0 (.int .u8 x0)) 7 (.bool x7))) (H:=H) (zqz_6ok Q E) (zqz_35ok Q E) (conv (by kernel_rfl) h)))))
def zqz_38 (Q:QT) (E:ET) (x0:Int) (H:Heap):Prop :=
 zqz_36 Q E x0 (x0 == 116) H
def zqz_38_M:Prop:=mI .u8 (τ 0) fun x0=>zqz_38 Q E x0 H
theorem zqz_39ok :Ok Pr (zqz_38_M Q E) (sA (sE (sB zqz_p4))) (xthen (zqz_36_M Q E) (zqz_q3 Q E)) E:=fun τ H h =>
  wI 0 h (fun x0 h=>(conv (by kernel_rfl) h))
theorem zqz_40ok :Ok Pr (zqz_38_M Q E) (sE (sB zqz_p4)) (zqz_q3 Q E) E:=fun τ H h =>
  (conv (by kernel_rfl) (vc_seq (K:=(zqz_36_M Q E)) (zqz_39ok Q E τ H h) (zqz_37ok Q E)))
def zqz_41 (Q:QT) (E:ET) (x0:Int) (x4:Bool) (H:Heap):Prop :=
 sel x4
 (zqz_3 Q E  H)
 (zqz_38 Q E x0 H)
def zqz_41_M:Prop:=mI .u8 (τ 0) fun x0=>mB (τ 4) fun x4=>zqz_41 Q E x0 x4 H
theorem zqz_42ok :Ok Pr (zqz_41_M Q E) (sB zqz_p4) (zqz_q3 Q E) E:=fun τ H h =>
  wI 0 h (fun x0 h=>wB 4 h (fun x4 h=>(conv (by kernel_rfl) (sel_mapT (b:=x4) (τ:=(Tau.upd (Tau.upd τ 0 (.int .u8 x0)) 4 (.bool x4))) (H:=H) (zqz_4ok Q E) (zqz_40ok Q E) (conv (by kernel_rfl) h)))))
def zqz_43 (Q:QT) (E:ET) (x0:Int) (H:Heap):Prop :=
 zqz_41 Q E x0 (x0 == 110) H
def zqz_43_M:Prop:=mI .u8 (τ 0) fun x0=>zqz_43 Q E x0 H
theorem zqz_44ok :Ok Pr (zqz_43_M Q E) (sA zqz_p4) (xthen (zqz_41_M Q E) (zqz_q3 Q E)) E:=fun τ H h =>
  wI 0 h (fun x0 h=>(conv (by kernel_rfl) h))
theorem zqz_45ok :Ok Pr (zqz_43_M Q E) zqz_p4 (zqz_q3 Q E) E:=fun τ H h =>
  (conv (by kernel_rfl) (vc_seq (K:=(zqz_41_M Q E)) (zqz_44ok Q E τ H h) (zqz_42ok Q E)))
theorem zqz_46ok :Ok Pr (zqz_43_M Q E) (sA (sB (bodyOf Try.f121))) (xthen (zqz_1_M Q E) (zqz_q1 Q E)) E:=fun τ H h =>
  (conv (by kernel_rfl) (zqz_45ok Q E τ H h))
theorem zqz_47ok :Ok Pr (zqz_43_M Q E) (sB (bodyOf Try.f121)) (zqz_q1 Q E) E:=fun τ H h =>
  (conv (by kernel_rfl) (vc_seq (K:=(zqz_1_M Q E)) (zqz_46ok Q E τ H h) (zqz_2ok Q E)))
def zqz (Q:QT) (E:ET) (a0:Int) (H:Heap):Prop :=
 zqz_43 Q E a0 H
theorem zqz_fn (a0:Int) (Q:QT) (E:ET) (H:Heap) (h:zqz Q E a0 H)  :Does Pr 121 #[(.int .u8 a0)] H Q E :=
  Fn_of_vc (fn:=Try.f121) (c:=(bodyOf Try.f121)) (args:=[(.int .u8 a0)]) mixed (by kernel_rfl) (by kernel_rfl) (by kernel_rfl) (by kernel_rfl) (by kernel_rfl) ((conv (B:=vc Pr (bodyOf Try.f121) (argT [(.int .u8 a0)]) (zqz_q1 Q E) E H) (by kernel_rfl) (vc_seq (K:=(zqz_43_M Q E)) (conv (B:=vc Pr (sA (bodyOf Try.f121)) (argT [(.int .u8 a0)]) (xthen (zqz_43_M Q E) (zqz_q1 Q E)) E H) (by kernel_rfl) h) (zqz_47ok Q E))))
end Go.Proofs.Ytaffcoiomggpfaa
