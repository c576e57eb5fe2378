import Derived.Test.YtaffcoiomggpfaaVPr
import Derived.Test.YtaffcoiomggpfaaFr08_1
/- Printed by gen.py: the Go functions of package r08 over a heap view,and that the model does so. -/
namespace Go.Proofs.Ytaffcoiomggpfaa
open Go.V
set_option linter.unusedVariables false
set_option maxRecDepth 100000
variable (Q:QT) (E:ET) (τ:Tau) (H:Heap)
noncomputable def zqi2_q1 (Q:QT) (E:ET) :XT:=(retQ Pr (Try.f118).results.toList Q)
noncomputable def zqi2_p2:Code:=sB (sB (bodyOf Try.f118))
noncomputable def zqi2_p4:Code:=sB (sB zqi2_p2)
noncomputable def zqi2_p6:Code:=sB (sB zqi2_p4)
def zqi2_1 (Q:QT) (E:ET) (x2 x3 x5:OA) (H:Heap):Prop :=
 ∃ Z69:Nat→Prop,
 ptr x3 fun q70 =>
 ∃ n71 n72 n73 n74:Int,Heap.rd H q70 0 [(.int .u64 n71),(.int .u64 n72),(.int .u64 n73),(.int .u64 n74)]∧(ptr x5 fun ad=>Z69 (Addr.block ad))∧ptr x5 fun q75 =>
 ∃ n76 n77 n78 n79:Int,Heap.rd H q75 0 [(.int .u64 n76),(.int .u64 n77),(.int .u64 n78),(.int .u64 n79)]∧Does Pr 125 #[(.agg #[(.int .u64 n71),(.int .u64 n72),(.int .u64 n73),(.int .u64 n74)])] H (fun v80 H81 =>
 ∃ n82:Int,v80=(.int .i64 n82)∧(∀ z,Z69 z→H z ≠ none→H81 z=H z)∧Does Pr 125 #[(.agg #[(.int .u64 n76),(.int .u64 n77),(.int .u64 n78),(.int .u64 n79)])] H81 (fun v83 H84 =>
 ∃ n85:Int,v83=(.int .i64 n85)∧Does Pr 122 #[(.int .i64 n82),(.int .i64 n85)] H84 (fun v86 H87 =>
 ∃ n88 n89 n90 n91:Int,v86=(.agg #[(.int .u64 n88),(.int .u64 n89),(.int .u64 n90),(.int .u64 n91)])∧ptr x2 fun q93 =>
 wr q93 [(.int .u64 n88),(.int .u64 n89),(.int .u64 n90),(.int .u64 n91)] H87 fun H92 =>
 ptr x2 fun q94 =>
 ∃ n95 n96 n97 n98:Int,Heap.rd H92 q94 0 [(.int .u64 n95),(.int .u64 n96),(.int .u64 n97),(.int .u64 n98)]∧Q (.agg #[(.int .u64 n95),(.int .u64 n96),(.int .u64 n97),(.int .u64 n98)]) H92) (fun _ _=>False)) (fun _ _=>False)) (fun _ _=>False)
def zqi2_1_M:Prop:=mP (τ 2) fun x2=>mP (τ 3) fun x3=>mP (τ 5) fun x5=>zqi2_1 Q E x2 x3 x5 H
theorem zqi2_2ok :Ok Pr (zqi2_1_M Q E) (sB zqi2_p6) (zqi2_q1 Q E) E:=fun τ H h =>
  wP 2 h (fun x2 h=>wP 3 h (fun x3 h=>wP 5 h (fun x5 h=>(conv (by kernel_rfl) h))))
noncomputable def zqi2_q2 :XT:=(xthen (zqi2_1_M Q E) (zqi2_q1 Q E))
def zqi2_3 (Q:QT) (E:ET) (x0 x2 x3 x5:OA) (x72:Bool) (H:Heap):Prop :=
 sel x72
 (Does Pr 57 #[(.pointer x0),(.int .i64 80)] H (fun v116 H117 =>
 zqi2_1 Q E x2 x3 x5 H117) E)
 (zqi2_1 Q E x2 x3 x5 H)
def zqi2_3_M:Prop:=mP (τ 0) fun x0=>mP (τ 2) fun x2=>mP (τ 3) fun x3=>mP (τ 5) fun x5=>mB (τ 72) fun x72=>zqi2_3 Q E x0 x2 x3 x5 x72 H
theorem zqi2_4ok :Ok Pr (zqi2_3_M Q E) (sB (sA zqi2_p6)) (zqi2_q2 Q E) E:=fun τ H h =>
  wP 0 h (fun x0 h=>wP 2 h (fun x2 h=>wP 3 h (fun x3 h=>wP 5 h (fun x5 h=>wB 72 h (fun x72 h=>(conv (by kernel_rfl) h))))))
noncomputable def zqi2_q3 :XT:=(xthen (zqi2_3_M Q E) (zqi2_q2 Q E))
def zqi2_5 (Q:QT) (E:ET) (x0 x2 x3 x5:OA) (x6:Bool) (H:Heap):Prop :=
 ∃ Z118:Nat→Prop,
 ptr x0 fun q119 =>
 ldI .i64 (Addr.add q119 3) H fun n120 =>
 sel (n120 == 0)
 (sel (!x6)
 (zqi2_3 Q E x0 x2 x3 x5 true H)
 (ptr x3 fun q121 =>
 ∃ n122 n123 n124 n125:Int,Heap.rd H q121 0 [(.int .u64 n122),(.int .u64 n123),(.int .u64 n124),(.int .u64 n125)]∧(ptr x5 fun ad=>Z118 (Addr.block ad))∧ptr x5 fun q126 =>
 ∃ n127 n128 n129 n130:Int,Heap.rd H q126 0 [(.int .u64 n127),(.int .u64 n128),(.int .u64 n129),(.int .u64 n130)]∧Does Pr 125 #[(.agg #[(.int .u64 n122),(.int .u64 n123),(.int .u64 n124),(.int .u64 n125)])] H (fun v131 H132 =>
 ∃ n133:Int,v131=(.int .i64 n133)∧(∀ z,Z118 z→H z ≠ none→H132 z=H z)∧Does Pr 125 #[(.agg #[(.int .u64 n127),(.int .u64 n128),(.int .u64 n129),(.int .u64 n130)])] H132 (fun v134 H135 =>
 ∃ n136:Int,v134=(.int .i64 n136)∧zqi2_3 Q E x0 x2 x3 x5 (decide (n133 > n136)) H135) (fun _ _=>False)) (fun _ _=>False)))
 (zqi2_3 Q E x0 x2 x3 x5 false H)
def zqi2_5_M:Prop:=mP (τ 0) fun x0=>mP (τ 2) fun x2=>mP (τ 3) fun x3=>mP (τ 5) fun x5=>mB (τ 6) fun x6=>zqi2_5 Q E x0 x2 x3 x5 x6 H
theorem zqi2_6ok :Ok Pr (zqi2_5_M Q E) (sA (sA zqi2_p6)) (zqi2_q3 Q E) E:=fun τ H h =>
  wP 0 h (fun x0 h=>wP 2 h (fun x2 h=>wP 3 h (fun x3 h=>wP 5 h (fun x5 h=>wB 6 h (fun x6 h=>(conv (by kernel_rfl) h))))))
theorem zqi2_7ok :Ok Pr (zqi2_5_M Q E) (sA zqi2_p6) (zqi2_q2 Q E) E:=fun τ H h =>
  (conv (by kernel_rfl) (vc_seq (K:=(zqi2_3_M Q E)) (zqi2_6ok Q E τ H h) (zqi2_4ok Q E)))
theorem zqi2_8ok :Ok Pr (zqi2_5_M Q E) zqi2_p6 (zqi2_q1 Q E) E:=fun τ H h =>
  (conv (by kernel_rfl) (vc_seq (K:=(zqi2_1_M Q E)) (zqi2_7ok Q E τ H h) (zqi2_2ok Q E)))
noncomputable def zqi2_q4 :XT:=(xthen (zqi2_5_M Q E) (zqi2_q1 Q E))
def zqi2_9 (Q:QT) (E:ET) (x0 x2 x3:OA) (H:Heap):Prop :=
 Does Pr 124 #[(.pointer x0)] H (fun v137 H138 =>
 ∃ n139 n140 n141 n142:Int,∃ b143:Bool,v137=(.tuple #[(.agg #[(.int .u64 n139),(.int .u64 n140),(.int .u64 n141),(.int .u64 n142)]),(.bool b143)])∧nw (.cells #[(.int .u64 0),(.int .u64 0),(.int .u64 0),(.int .u64 0)] 46 (0,0)) H138 fun i144 H145 =>
 wr ⟨i144,0,none⟩ [(.int .u64 n139),(.int .u64 n140),(.int .u64 n141),(.int .u64 n142)] H145 fun H146 =>
 zqi2_5 Q E x0 x2 x3 (some ⟨i144,0,none⟩) b143 H146) E
def zqi2_9_M:Prop:=mP (τ 0) fun x0=>mP (τ 2) fun x2=>mP (τ 3) fun x3=>zqi2_9 Q E x0 x2 x3 H
theorem zqi2_10ok :Ok Pr (zqi2_9_M Q E) (sA (sB zqi2_p4)) (zqi2_q4 Q E) E:=fun τ H h =>
  wP 0 h (fun x0 h=>wP 2 h (fun x2 h=>wP 3 h (fun x3 h=>(conv (by kernel_rfl) h))))
theorem zqi2_11ok :Ok Pr (zqi2_9_M Q E) (sB zqi2_p4) (zqi2_q1 Q E) E:=fun τ H h =>
  (conv (by kernel_rfl) (vc_seq (K:=(zqi2_5_M Q E)) (zqi2_10ok Q E τ H h) (zqi2_8ok Q E)))
noncomputable def zqi2_q5 :XT:=(xthen (zqi2_9_M Q E) (zqi2_q1 Q E))
def zqi2_12 (Q:QT) (E:ET) (x0 x2 x3:OA) (x48:Bool) (H:Heap):Prop :=
 sel x48
 (Does Pr 57 #[(.pointer x0),(.int .i64 80)] H (fun v151 H152 =>
 ptr x3 fun q153 =>
 ∃ n154 n155 n156 n157:Int,Heap.rd H152 q153 0 [(.int .u64 n154),(.int .u64 n155),(.int .u64 n156),(.int .u64 n157)]∧ptr x2 fun q159 =>
 wr q159 [(.int .u64 n154),(.int .u64 n155),(.int .u64 n156),(.int .u64 n157)] H152 fun H158 =>
 ptr x2 fun q160 =>
 ∃ n161 n162 n163 n164:Int,Heap.rd H158 q160 0 [(.int .u64 n161),(.int .u64 n162),(.int .u64 n163),(.int .u64 n164)]∧Q (.agg #[(.int .u64 n161),(.int .u64 n162),(.int .u64 n163),(.int .u64 n164)]) H158) E)
 (zqi2_9 Q E x0 x2 x3 H)
def zqi2_12_M:Prop:=mP (τ 0) fun x0=>mP (τ 2) fun x2=>mP (τ 3) fun x3=>mB (τ 48) fun x48=>zqi2_12 Q E x0 x2 x3 x48 H
theorem zqi2_13ok :Ok Pr (zqi2_12_M Q E) (sB (sA zqi2_p4)) (zqi2_q5 Q E) E:=fun τ H h =>
  wP 0 h (fun x0 h=>wP 2 h (fun x2 h=>wP 3 h (fun x3 h=>wB 48 h (fun x48 h=>(conv (by kernel_rfl) h)))))
noncomputable def zqi2_q6 :XT:=(xthen (zqi2_12_M Q E) (zqi2_q5 Q E))
def zqi2_14 (Q:QT) (E:ET) (x0 x2 x3:OA) (x4:Bool) (H:Heap):Prop :=
 sel (!x4)
 (zqi2_12 Q E x0 x2 x3 true H)
 (ptr x0 fun q165 =>
 ldI .i64 (Addr.add q165 1) H fun n166 =>
 ptr x0 fun q167 =>
 ldS q167 H fun s168 =>
 zqi2_12 Q E x0 x2 x3 (decide (n166 ≥ ((ByteArray.size s168:Nat):Int))) H)
def zqi2_14_M:Prop:=mP (τ 0) fun x0=>mP (τ 2) fun x2=>mP (τ 3) fun x3=>mB (τ 4) fun x4=>zqi2_14 Q E x0 x2 x3 x4 H
theorem zqi2_15ok :Ok Pr (zqi2_14_M Q E) (sA (sA zqi2_p4)) (zqi2_q6 Q E) E:=fun τ H h =>
  wP 0 h (fun x0 h=>wP 2 h (fun x2 h=>wP 3 h (fun x3 h=>wB 4 h (fun x4 h=>(conv (by kernel_rfl) h)))))
theorem zqi2_16ok :Ok Pr (zqi2_14_M Q E) (sA zqi2_p4) (zqi2_q5 Q E) E:=fun τ H h =>
  (conv (by kernel_rfl) (vc_seq (K:=(zqi2_12_M Q E)) (zqi2_15ok Q E τ H h) (zqi2_13ok Q E)))
theorem zqi2_17ok :Ok Pr (zqi2_14_M Q E) zqi2_p4 (zqi2_q1 Q E) E:=fun τ H h =>
  (conv (by kernel_rfl) (vc_seq (K:=(zqi2_9_M Q E)) (zqi2_16ok Q E τ H h) (zqi2_11ok Q E)))
noncomputable def zqi2_q7 :XT:=(xthen (zqi2_14_M Q E) (zqi2_q1 Q E))
def zqi2_18 (Q:QT) (E:ET) (x0 x2 x3:OA) (x4:Bool) (H:Heap):Prop :=
 ptr x0 fun q169 =>
 ldI .i64 (Addr.add q169 1) H fun n170 =>
 ptr x0 fun q171 =>
 wr (Addr.add q171 1) [(.int .i64 (IntKind.wrap .i64 (n170+1)))] H fun H172 =>
 zqi2_14 Q E x0 x2 x3 x4 H172
def zqi2_18_M:Prop:=mP (τ 0) fun x0=>mP (τ 2) fun x2=>mP (τ 3) fun x3=>mB (τ 4) fun x4=>zqi2_18 Q E x0 x2 x3 x4 H
theorem zqi2_19ok :Ok Pr (zqi2_18_M Q E) (sA (sB zqi2_p2)) (zqi2_q7 Q E) E:=fun τ H h =>
  wP 0 h (fun x0 h=>wP 2 h (fun x2 h=>wP 3 h (fun x3 h=>wB 4 h (fun x4 h=>(conv (by kernel_rfl) h)))))
theorem zqi2_20ok :Ok Pr (zqi2_18_M Q E) (sB zqi2_p2) (zqi2_q1 Q E) E:=fun τ H h =>
  (conv (by kernel_rfl) (vc_seq (K:=(zqi2_14_M Q E)) (zqi2_19ok Q E τ H h) (zqi2_17ok Q E)))
noncomputable def zqi2_q8 :XT:=(xthen (zqi2_18_M Q E) (zqi2_q1 Q E))
def zqi2_21 (Q:QT) (E:ET) (x0 x2 x3:OA) (x4 x26:Bool) (H:Heap):Prop :=
 sel x26
 (ptr x3 fun q180 =>
 ∃ n181 n182 n183 n184:Int,Heap.rd H q180 0 [(.int .u64 n181),(.int .u64 n182),(.int .u64 n183),(.int .u64 n184)]∧ptr x2 fun q186 =>
 wr q186 [(.int .u64 n181),(.int .u64 n182),(.int .u64 n183),(.int .u64 n184)] H fun H185 =>
 ptr x2 fun q187 =>
 ∃ n188 n189 n190 n191:Int,Heap.rd H185 q187 0 [(.int .u64 n188),(.int .u64 n189),(.int .u64 n190),(.int .u64 n191)]∧Q (.agg #[(.int .u64 n188),(.int .u64 n189),(.int .u64 n190),(.int .u64 n191)]) H185)
 (zqi2_18 Q E x0 x2 x3 x4 H)
def zqi2_21_M:Prop:=mP (τ 0) fun x0=>mP (τ 2) fun x2=>mP (τ 3) fun x3=>mB (τ 4) fun x4=>mB (τ 26) fun x26=>zqi2_21 Q E x0 x2 x3 x4 x26 H
theorem zqi2_22ok :Ok Pr (zqi2_21_M Q E) (sB (sA zqi2_p2)) (zqi2_q8 Q E) E:=fun τ H h =>
  wP 0 h (fun x0 h=>wP 2 h (fun x2 h=>wP 3 h (fun x3 h=>wB 4 h (fun x4 h=>wB 26 h (fun x26 h=>(conv (by kernel_rfl) h))))))
noncomputable def zqi2_q9 :XT:=(xthen (zqi2_21_M Q E) (zqi2_q8 Q E))
def zqi2_23 (Q:QT) (E:ET) (x0 x2 x3:OA) (x4:Bool) (H:Heap):Prop :=
 Does Pr 90 #[(.pointer x0)] H (fun v192 H193 =>
 ∃ b194:Bool,v192=(.bool b194)∧sel (!b194)
 (zqi2_21 Q E x0 x2 x3 x4 true H193)
 (ptr x0 fun q195 =>
 ldS q195 H193 fun s196 =>
 ptr x0 fun q197 =>
 ldI .i64 (Addr.add q197 1) H193 fun n198 =>
 (0≤n198∧n198 < ((ByteArray.size s196:Nat):Int))∧zqi2_21 Q E x0 x2 x3 x4 (((sAt s196 n198):Int) != 45) H193)) (fun _ _=>False)
def zqi2_23_M:Prop:=mP (τ 0) fun x0=>mP (τ 2) fun x2=>mP (τ 3) fun x3=>mB (τ 4) fun x4=>zqi2_23 Q E x0 x2 x3 x4 H
theorem zqi2_24ok :Ok Pr (zqi2_23_M Q E) (sA (sA zqi2_p2)) (zqi2_q9 Q E) E:=fun τ H h =>
  wP 0 h (fun x0 h=>wP 2 h (fun x2 h=>wP 3 h (fun x3 h=>wB 4 h (fun x4 h=>(conv (by kernel_rfl) h)))))
theorem zqi2_25ok :Ok Pr (zqi2_23_M Q E) (sA zqi2_p2) (zqi2_q8 Q E) E:=fun τ H h =>
  (conv (by kernel_rfl) (vc_seq (K:=(zqi2_21_M Q E)) (zqi2_24ok Q E τ H h) (zqi2_22ok Q E)))
theorem zqi2_26ok :Ok Pr (zqi2_23_M Q E) zqi2_p2 (zqi2_q1 Q E) E:=fun τ H h =>
  (conv (by kernel_rfl) (vc_seq (K:=(zqi2_18_M Q E)) (zqi2_25ok Q E τ H h) (zqi2_20ok Q E)))
noncomputable def zqi2_q10 :XT:=(xthen (zqi2_23_M Q E) (zqi2_q1 Q E))
def zqi2_27 (Q:QT) (E:ET) (x0 x2:OA) (H:Heap):Prop :=
 Does Pr 124 #[(.pointer x0)] H (fun v199 H200 =>
 ∃ n201 n202 n203 n204:Int,∃ b205:Bool,v199=(.tuple #[(.agg #[(.int .u64 n201),(.int .u64 n202),(.int .u64 n203),(.int .u64 n204)]),(.bool b205)])∧nw (.cells #[(.int .u64 0),(.int .u64 0),(.int .u64 0),(.int .u64 0)] 46 (0,0)) H200 fun i206 H207 =>
 wr ⟨i206,0,none⟩ [(.int .u64 n201),(.int .u64 n202),(.int .u64 n203),(.int .u64 n204)] H207 fun H208 =>
 zqi2_23 Q E x0 x2 (some ⟨i206,0,none⟩) b205 H208) E
def zqi2_27_M:Prop:=mP (τ 0) fun x0=>mP (τ 2) fun x2=>zqi2_27 Q E x0 x2 H
theorem zqi2_28ok :Ok Pr (zqi2_27_M Q E) (sA (sB (bodyOf Try.f118))) (zqi2_q10 Q E) E:=fun τ H h =>
  wP 0 h (fun x0 h=>wP 2 h (fun x2 h=>(conv (by kernel_rfl) h)))
theorem zqi2_29ok :Ok Pr (zqi2_27_M Q E) (sB (bodyOf Try.f118)) (zqi2_q1 Q E) E:=fun τ H h =>
  (conv (by kernel_rfl) (vc_seq (K:=(zqi2_23_M Q E)) (zqi2_28ok Q E τ H h) (zqi2_26ok Q E)))
def zqi2 (Q:QT) (E:ET) (a0:OA) (H:Heap):Prop :=
 nw (.cells #[(.int .u64 0),(.int .u64 0),(.int .u64 0),(.int .u64 0)] 46 (0,0)) H fun i209 H210 =>
 zqi2_27 Q E a0 (some ⟨i209,0,none⟩) H210
theorem zqi2_fn (a0:OA) (Q:QT) (E:ET) (H:Heap) (h:zqi2 Q E a0 H)  :Does Pr 118 #[(.pointer a0)] H Q E :=
  Fn_of_vc (fn:=Try.f118) (c:=(bodyOf Try.f118)) (args:=[(.pointer a0)]) mixed (by kernel_rfl) (by kernel_rfl) (by kernel_rfl) (by kernel_rfl) (by kernel_rfl) ((conv (B:=vc Pr (bodyOf Try.f118) (argT [(.pointer a0)]) (zqi2_q1 Q E) E H) (by kernel_rfl) (vc_seq (K:=(zqi2_27_M Q E)) (conv (B:=vc Pr (sA (bodyOf Try.f118)) (argT [(.pointer a0)]) (xthen (zqi2_27_M Q E) (zqi2_q1 Q E)) E H) (by kernel_rfl) h) (zqi2_29ok Q E))))
noncomputable def zqj2_q1 (Q:QT) (E:ET) :XT:=(retQ Pr (Try.f122).results.toList Q)
noncomputable def zqj2_p2:Code:=sB (sB (bodyOf Try.f122))
def zqj2_1 (Q:QT) (E:ET) (x4 x5:OA) (H:Heap):Prop :=
 ptr x5 fun q16 =>
 ∃ n17 n18 n19 n20:Int,Heap.rd H q16 0 [(.int .u64 n17),(.int .u64 n18),(.int .u64 n19),(.int .u64 n20)]∧ptr x4 fun q22 =>
 wr q22 [(.int .u64 n17),(.int .u64 n18),(.int .u64 n19),(.int .u64 n20)] H fun H21 =>
 ptr x4 fun q23 =>
 ∃ n24 n25 n26 n27:Int,Heap.rd H21 q23 0 [(.int .u64 n24),(.int .u64 n25),(.int .u64 n26),(.int .u64 n27)]∧Q (.agg #[(.int .u64 n24),(.int .u64 n25),(.int .u64 n26),(.int .u64 n27)]) H21
def zqj2_1_M:Prop:=mP (τ 4) fun x4=>mP (τ 5) fun x5=>zqj2_1 Q E x4 x5 H
theorem zqj2_2ok :Ok Pr (zqj2_1_M Q E) (sB zqj2_p2) (zqj2_q1 Q E) E:=fun τ H h =>
  wP 4 h (fun x4 h=>wP 5 h (fun x5 h=>(conv (by kernel_rfl) h)))
noncomputable def zqj2_q2 :XT:=(xthen (zqj2_1_M Q E) (zqj2_q1 Q E))
noncomputable def zqj2_p6:Code:=sI (sB (sA zqj2_p2))
noncomputable def zqj2_q4 (nx28:Int→HP):XT:=(xthen (fun τ H=>mI .i64 (τ 6) fun x6'=>nx28 x6' H) (xblock 0 (zqj2_q2 Q E)))
def zqj2_3 (nx28:Int→HP) (Q:QT) (E:ET) (x1:Int) (x4 x5:OA) (x6:Int) (H:Heap):Prop :=
 ptr x5 fun q29 =>
 ∃ n30 n31 n32 n33:Int,Heap.rd H q29 0 [(.int .u64 n30),(.int .u64 n31),(.int .u64 n32),(.int .u64 n33)]∧Does Pr 108 #[(.agg #[(.int .u64 n30),(.int .u64 n31),(.int .u64 n32),(.int .u64 n33)]),(.int .u8 (IntKind.wrap .u8 x6))] H (fun v34 H35 =>
 ∃ n36 n37 n38 n39:Int,v34=(.agg #[(.int .u64 n36),(.int .u64 n37),(.int .u64 n38),(.int .u64 n39)])∧ptr x5 fun q41 =>
 wr q41 [(.int .u64 n36),(.int .u64 n37),(.int .u64 n38),(.int .u64 n39)] H35 fun H40 =>
 nx28 (IntKind.wrap .i64 (x6+1)) H40) E
def zqj2_3_M (nx28:Int→HP) (τ:Tau) (H:Heap):Prop:=mI .i64 (τ 1) fun x1=>mP (τ 4) fun x4=>mP (τ 5) fun x5=>mI .i64 (τ 6) fun x6=>zqj2_3 nx28 Q E x1 x4 x5 x6 H
theorem zqj2_4ok (nx28:Int→HP):Ok Pr (zqj2_3_M Q E nx28) (sB (sI zqj2_p6)) (zqj2_q4 Q E nx28) E:=fun τ H h =>
  wI 1 h (fun x1 h=>wP 4 h (fun x4 h=>wP 5 h (fun x5 h=>wI 6 h (fun x6 h=>(conv (by kernel_rfl) h)))))
noncomputable def zqj2_q5 (nx28:Int→HP):XT:=(xthen (zqj2_3_M Q E nx28) (zqj2_q4 Q E nx28))
def zqj2_5 (nx28:Int→HP) (Q:QT) (E:ET) (x1:Int) (x4 x5:OA) (x6:Int) (H:Heap):Prop :=
 sel (decide (x6≤x1))
 (zqj2_3 nx28 Q E x1 x4 x5 x6 H)
 (zqj2_1 Q E x4 x5 H)
def zqj2_5_M (nx28:Int→HP) (τ:Tau) (H:Heap):Prop:=mI .i64 (τ 1) fun x1=>mP (τ 4) fun x4=>mP (τ 5) fun x5=>mI .i64 (τ 6) fun x6=>zqj2_5 nx28 Q E x1 x4 x5 x6 H
theorem zqj2_6ok (nx28:Int→HP):Ok Pr (zqj2_5_M Q E nx28) (sA (sI zqj2_p6)) (zqj2_q5 Q E nx28) E:=fun τ H h =>
  wI 1 h (fun x1 h=>wP 4 h (fun x4 h=>wP 5 h (fun x5 h=>wI 6 h (fun x6 h=>(conv (by kernel_rfl) h)))))
theorem zqj2_7ok (nx28:Int→HP):Ok Pr (zqj2_5_M Q E nx28) (sI zqj2_p6) (zqj2_q4 Q E nx28) E:=fun τ H h =>
  (conv (by kernel_rfl) (vc_seq (K:=(zqj2_3_M Q E nx28)) (zqj2_6ok Q E nx28 τ H h) (zqj2_4ok Q E nx28)))
def zqj2_8 (Q:QT) (E:ET) (x1:Int) (x4 x5:OA) (x6:Int) (H:Heap):Prop :=
 ∃ (I:Int→HP) (μ:Int→Heap→Nat),I x6 H∧∀ (x6:Int) (H:Heap),I x6 H →
 zqj2_5 (fun x6' H1=>I x6' H1∧μ x6' H1 < μ x6 H) Q E x1 x4 x5 x6 H
def zqj2_8_M:Prop:=mI .i64 (τ 1) fun x1=>mP (τ 4) fun x4=>mP (τ 5) fun x5=>mI .i64 (τ 6) fun x6=>zqj2_8 Q E x1 x4 x5 x6 H
theorem zqj2_9ok :Ok Pr (zqj2_8_M Q E) zqj2_p6 (xblock 0 (zqj2_q2 Q E)) E:=fun τ H h =>
  wI 1 h (fun x1 h=>wP 4 h (fun x4 h=>wP 5 h (fun x5 h=>wI 6 h (fun x6 h=>match h with | ⟨I,μ,h0,hr⟩=>(conv (by kernel_rfl) (vc_loopG (c:=sI zqj2_p6) (τ:=(Tau.upd (Tau.upd (Tau.upd (Tau.upd τ 1 (.int .i64 x1)) 4 (.pointer x4)) 5 (.pointer x5)) 6 (.int .i64 x6))) [1,4,5] (fun τ H=>mI .i64 (τ 6) fun x6'=>I x6' H) (fun τ H=>μ (gI (τ 6)) H) (by kernel_rfl) h0 (fun τ1 H1 hf hI=>uF 1 (.int .i64 x1) (hf 1 (by simp)) (uF 4 (.pointer x4) (hf 4 (by simp)) (uF 5 (.pointer x5) (hf 5 (by simp)) (uI 6 hI (fun x6r h=>lgx (zqj2_7ok Q E (fun x6' H2=>I x6' H2∧μ x6' H2 < μ x6r H1) (Tau.upd (Tau.upd (Tau.upd (Tau.upd τ1 1 (.int .i64 x1)) 4 (.pointer x4)) 5 (.pointer x5)) 6 (.int .i64 x6r)) H1 (conv (by kernel_rfl) (hr x6r H1 h))) (fun τ2 H2 hk=>kI 6 hk (fun x6' h=>conv (by kernel_rfl) h)))))))))))))
theorem zqj2_10ok :Ok Pr (zqj2_8_M Q E) (sB (sA zqj2_p2)) (zqj2_q2 Q E) E:=fun τ H h =>
  (conv (by kernel_rfl) (zqj2_9ok Q E τ H h))
noncomputable def zqj2_q6 :XT:=(xthen (zqj2_8_M Q E) (zqj2_q2 Q E))
def zqj2_11 (Q:QT) (E:ET) (x0 x1:Int) (x4 x5:OA) (H:Heap):Prop :=
 zqj2_8 Q E x1 x4 x5 x0 H
def zqj2_11_M:Prop:=mI .i64 (τ 0) fun x0=>mI .i64 (τ 1) fun x1=>mP (τ 4) fun x4=>mP (τ 5) fun x5=>zqj2_11 Q E x0 x1 x4 x5 H
theorem zqj2_12ok :Ok Pr (zqj2_11_M Q E) (sA (sA zqj2_p2)) (zqj2_q6 Q E) E:=fun τ H h =>
  wI 0 h (fun x0 h=>wI 1 h (fun x1 h=>wP 4 h (fun x4 h=>wP 5 h (fun x5 h=>(conv (by kernel_rfl) h)))))
theorem zqj2_13ok :Ok Pr (zqj2_11_M Q E) (sA zqj2_p2) (zqj2_q2 Q E) E:=fun τ H h =>
  (conv (by kernel_rfl) (vc_seq (K:=(zqj2_8_M Q E)) (zqj2_12ok Q E τ H h) (zqj2_10ok Q E)))
theorem zqj2_14ok :Ok Pr (zqj2_11_M Q E) zqj2_p2 (zqj2_q1 Q E) E:=fun τ H h =>
  (conv (by kernel_rfl) (vc_seq (K:=(zqj2_1_M Q E)) (zqj2_13ok Q E τ H h) (zqj2_2ok Q E)))
noncomputable def zqj2_q7 :XT:=(xthen (zqj2_11_M Q E) (zqj2_q1 Q E))
def zqj2_15 (Q:QT) (E:ET) (x0 x1:Int) (x4:OA) (H:Heap):Prop :=
 nw (.cells #[(.int .u64 0),(.int .u64 0),(.int .u64 0),(.int .u64 0)] 46 (0,0)) H fun i42 H43 =>
 zqj2_11 Q E x0 x1 x4 (some ⟨i42,0,none⟩) H43
def zqj2_15_M:Prop:=mI .i64 (τ 0) fun x0=>mI .i64 (τ 1) fun x1=>mP (τ 4) fun x4=>zqj2_15 Q E x0 x1 x4 H
theorem zqj2_16ok :Ok Pr (zqj2_15_M Q E) (sA (sB (bodyOf Try.f122))) (zqj2_q7 Q E) E:=fun τ H h =>
  wI 0 h (fun x0 h=>wI 1 h (fun x1 h=>wP 4 h (fun x4 h=>(conv (by kernel_rfl) h))))
theorem zqj2_17ok :Ok Pr (zqj2_15_M Q E) (sB (bodyOf Try.f122)) (zqj2_q1 Q E) E:=fun τ H h =>
  (conv (by kernel_rfl) (vc_seq (K:=(zqj2_11_M Q E)) (zqj2_16ok Q E τ H h) (zqj2_14ok Q E)))
def zqj2 (Q:QT) (E:ET) (a0:Int) (a1:Int) (H:Heap):Prop :=
 nw (.cells #[(.int .u64 0),(.int .u64 0),(.int .u64 0),(.int .u64 0)] 46 (0,0)) H fun i44 H45 =>
 zqj2_15 Q E a0 a1 (some ⟨i44,0,none⟩) H45
theorem zqj2_fn (a0:Int) (a1:Int) (Q:QT) (E:ET) (H:Heap) (h:zqj2 Q E a0 a1 H)  :Does Pr 122 #[(.int .i64 a0),(.int .i64 a1)] H Q E :=
  Fn_of_vc (fn:=Try.f122) (c:=(bodyOf Try.f122)) (args:=[(.int .i64 a0),(.int .i64 a1)]) mixed (by kernel_rfl) (by kernel_rfl) (by kernel_rfl) (by kernel_rfl) (by kernel_rfl) ((conv (B:=vc Pr (bodyOf Try.f122) (argT [(.int .i64 a0),(.int .i64 a1)]) (zqj2_q1 Q E) E H) (by kernel_rfl) (vc_seq (K:=(zqj2_15_M Q E)) (conv (B:=vc Pr (sA (bodyOf Try.f122)) (argT [(.int .i64 a0),(.int .i64 a1)]) (xthen (zqj2_15_M Q E) (zqj2_q1 Q E)) E H) (by kernel_rfl) h) (zqj2_17ok Q E))))
noncomputable def zqk2_q1 (Q:QT) (E:ET) :XT:=(retQ Pr (Try.f123).results.toList Q)
def zqk2 (Q:QT) (E:ET) (a0:Int) (H:Heap):Prop :=
 sel (decide ((a0:Int) ≥ 33))
 (sel (decide ((a0:Int)≤47))
 (Q (.bool true) H)
 (sel (decide ((a0:Int) ≥ 58))
 (sel (decide ((a0:Int)≤64))
 (Q (.bool true) H)
 (sel (decide ((a0:Int) ≥ 91))
 (sel (decide ((a0:Int)≤96))
 (Q (.bool true) H)
 (sel (decide ((a0:Int) ≥ 123))
 (Q (.bool (decide ((a0:Int)≤126))) H)
 (Q (.bool false) H)))
 (sel (decide ((a0:Int) ≥ 123))
 (Q (.bool (decide ((a0:Int)≤126))) H)
 (Q (.bool false) H))))
 (sel (decide ((a0:Int) ≥ 91))
 (sel (decide ((a0:Int)≤96))
 (Q (.bool true) H)
 (sel (decide ((a0:Int) ≥ 123))
 (Q (.bool (decide ((a0:Int)≤126))) H)
 (Q (.bool false) H)))
 (sel (decide ((a0:Int) ≥ 123))
 (Q (.bool (decide ((a0:Int)≤126))) H)
 (Q (.bool false) H)))))
 (sel (decide ((a0:Int) ≥ 58))
 (sel (decide ((a0:Int)≤64))
 (Q (.bool true) H)
 (sel (decide ((a0:Int) ≥ 91))
 (sel (decide ((a0:Int)≤96))
 (Q (.bool true) H)
 (sel (decide ((a0:Int) ≥ 123))
 (Q (.bool (decide ((a0:Int)≤126))) H)
 (Q (.bool false) H)))
 (sel (decide ((a0:Int) ≥ 123))
 (Q (.bool (decide ((a0:Int)≤126))) H)
 (Q (.bool false) H))))
 (sel (decide ((a0:Int) ≥ 91))
 (sel (decide ((a0:Int)≤96))
 (Q (.bool true) H)
 (sel (decide ((a0:Int) ≥ 123))
 (Q (.bool (decide ((a0:Int)≤126))) H)
 (Q (.bool false) H)))
 (sel (decide ((a0:Int) ≥ 123))
 (Q (.bool (decide ((a0:Int)≤126))) H)
 (Q (.bool false) H))))
theorem zqk2_fn (a0:Int) (Q:QT) (E:ET) (H:Heap) (h:zqk2 Q E a0 H)  :Does Pr 123 #[(.int .u8 a0)] H Q E :=
  Fn_of_vc (fn:=Try.f123) (c:=(bodyOf Try.f123)) (args:=[(.int .u8 a0)]) mixed (by kernel_rfl) (by kernel_rfl) (by kernel_rfl) (by kernel_rfl) (by kernel_rfl) ((conv (B:=vc Pr (bodyOf Try.f123) (argT [(.int .u8 a0)]) (zqk2_q1 Q E) E H) (by kernel_rfl) h))
noncomputable def zql2_q1 (Q:QT) (E:ET) :XT:=(retQ Pr (Try.f124).results.toList Q)
noncomputable def zql2_p1:Code:=sB (bodyOf Try.f124)
def zql2_1 (Q:QT) (E:ET) (x2:OA) (x4:Int) (H:Heap):Prop :=
 Does Pr 108 #[(.agg #[(.int .u64 0),(.int .u64 0),(.int .u64 0),(.int .u64 0)]),(.int .u8 x4)] H (fun v22 H23 =>
 ∃ n24 n25 n26 n27:Int,v22=(.agg #[(.int .u64 n24),(.int .u64 n25),(.int .u64 n26),(.int .u64 n27)])∧ptr x2 fun q29 =>
 wr q29 [(.int .u64 n24),(.int .u64 n25),(.int .u64 n26),(.int .u64 n27)] H23 fun H28 =>
 ptr x2 fun q30 =>
 ∃ n31 n32 n33 n34:Int,Heap.rd H28 q30 0 [(.int .u64 n31),(.int .u64 n32),(.int .u64 n33),(.int .u64 n34)]∧Q (.tuple #[(.agg #[(.int .u64 n31),(.int .u64 n32),(.int .u64 n33),(.int .u64 n34)]),(.bool true)]) H28) E
def zql2_1_M:Prop:=mP (τ 2) fun x2=>mI .u8 (τ 4) fun x4=>zql2_1 Q E x2 x4 H
theorem zql2_2ok :Ok Pr (zql2_1_M Q E) (sB (sB (sB zql2_p1))) (zql2_q1 Q E) E:=fun τ H h =>
  wP 2 h (fun x2 h=>wI 4 h (fun x4 h=>(conv (by kernel_rfl) h)))
noncomputable def zql2_q2 :XT:=(xthen (zql2_1_M Q E) (zql2_q1 Q E))
noncomputable def zql2_p5:Code:=sA (sB (sB zql2_p1))
noncomputable def zql2_q3 :XT:=(xblock 0 (zql2_q2 Q E))
noncomputable def zql2_p8:Code:=sB (sI (sB zql2_p5))
def zql2_3 (Q:QT) (E:ET) (x0 x2:OA) (H:Heap):Prop :=
 Does Pr 109 #[(.pointer x0)] H (fun v35 H36 =>
 ∃ n37 n38 n39 n40:Int,∃ b41:Bool,v35=(.tuple #[(.agg #[(.int .u64 n37),(.int .u64 n38),(.int .u64 n39),(.int .u64 n40)]),(.bool b41)])∧ptr x2 fun q43 =>
 wr q43 [(.int .u64 n37),(.int .u64 n38),(.int .u64 n39),(.int .u64 n40)] H36 fun H42 =>
 ptr x2 fun q44 =>
 ∃ n45 n46 n47 n48:Int,Heap.rd H42 q44 0 [(.int .u64 n45),(.int .u64 n46),(.int .u64 n47),(.int .u64 n48)]∧Q (.tuple #[(.agg #[(.int .u64 n45),(.int .u64 n46),(.int .u64 n47),(.int .u64 n48)]),(.bool b41)]) H42) E
def zql2_3_M:Prop:=mP (τ 0) fun x0=>mP (τ 2) fun x2=>zql2_3 Q E x0 x2 H
theorem zql2_4ok :Ok Pr (zql2_3_M Q E) (sT zql2_p8) (zql2_q3 Q E) E:=fun τ H h =>
  wP 0 h (fun x0 h=>wP 2 h (fun x2 h=>(conv (by kernel_rfl) h)))
def zql2_5 (Q:QT) (E:ET) (x0 x2:OA) (x4:Int) (x28:Bool) (H:Heap):Prop :=
 sel x28
 (Does Pr 57 #[(.pointer x0),(.int .i64 80)] H (fun v49 H50 =>
 ptr x2 fun q52 =>
 wr q52 [(.int .u64 0),(.int .u64 0),(.int .u64 0),(.int .u64 0)] H50 fun H51 =>
 ptr x2 fun q53 =>
 ∃ n54 n55 n56 n57:Int,Heap.rd H51 q53 0 [(.int .u64 n54),(.int .u64 n55),(.int .u64 n56),(.int .u64 n57)]∧Q (.tuple #[(.agg #[(.int .u64 n54),(.int .u64 n55),(.int .u64 n56),(.int .u64 n57)]),(.bool false)]) H51) E)
 (zql2_1 Q E x2 x4 H)
def zql2_5_M:Prop:=mP (τ 0) fun x0=>mP (τ 2) fun x2=>mI .u8 (τ 4) fun x4=>mB (τ 28) fun x28=>zql2_5 Q E x0 x2 x4 x28 H
theorem zql2_6ok :Ok Pr (zql2_5_M Q E) (sB (sE zql2_p8)) (zql2_q3 Q E) E:=fun τ H h =>
  wP 0 h (fun x0 h=>wP 2 h (fun x2 h=>wI 4 h (fun x4 h=>wB 28 h (fun x28 h=>(conv (by kernel_rfl) h)))))
noncomputable def zql2_q4 :XT:=(xthen (zql2_5_M Q E) (zql2_q3 Q E))
def zql2_7 (Q:QT) (E:ET) (x0 x2:OA) (x4 x21:Int) (H:Heap):Prop :=
 sel (x21 == 94)
 (zql2_5 Q E x0 x2 x4 (x21 == 94) H)
 (sel (x21 == 45)
 (zql2_5 Q E x0 x2 x4 (x21 == 45) H)
 (zql2_5 Q E x0 x2 x4 (x21 == 93) H))
def zql2_7_M:Prop:=mP (τ 0) fun x0=>mP (τ 2) fun x2=>mI .u8 (τ 4) fun x4=>mI .u8 (τ 21) fun x21=>zql2_7 Q E x0 x2 x4 x21 H
theorem zql2_8ok :Ok Pr (zql2_7_M Q E) (sA (sE zql2_p8)) (zql2_q4 Q E) E:=fun τ H h =>
  wP 0 h (fun x0 h=>wP 2 h (fun x2 h=>wI 4 h (fun x4 h=>wI 21 h (fun x21 h=>(conv (by kernel_rfl) h)))))
theorem zql2_9ok :Ok Pr (zql2_7_M Q E) (sE zql2_p8) (zql2_q3 Q E) E:=fun τ H h =>
  (conv (by kernel_rfl) (vc_seq (K:=(zql2_5_M Q E)) (zql2_8ok Q E τ H h) (zql2_6ok Q E)))
def zql2_10 (Q:QT) (E:ET) (x0 x2:OA) (x4 x21:Int) (x22:Bool) (H:Heap):Prop :=
 sel x22
 (zql2_3 Q E x0 x2 H)
 (zql2_7 Q E x0 x2 x4 x21 H)
def zql2_10_M:Prop:=mP (τ 0) fun x0=>mP (τ 2) fun x2=>mI .u8 (τ 4) fun x4=>mI .u8 (τ 21) fun x21=>mB (τ 22) fun x22=>zql2_10 Q E x0 x2 x4 x21 x22 H
theorem zql2_11ok :Ok Pr (zql2_10_M Q E) zql2_p8 (zql2_q3 Q E) E:=fun τ H h =>
  wP 0 h (fun x0 h=>wP 2 h (fun x2 h=>wI 4 h (fun x4 h=>wI 21 h (fun x21 h=>wB 22 h (fun x22 h=>(conv (by kernel_rfl) (sel_mapT (b:=x22) (τ:=(Tau.upd (Tau.upd (Tau.upd (Tau.upd (Tau.upd τ 0 (.pointer x0)) 2 (.pointer x2)) 4 (.int .u8 x4)) 21 (.int .u8 x21)) 22 (.bool x22))) (H:=H) (zql2_4ok Q E) (zql2_9ok Q E) (conv (by kernel_rfl) h))))))))
noncomputable def zql2_q5 :XT:=(xthen (zql2_10_M Q E) (zql2_q3 Q E))
def zql2_12 (Q:QT) (E:ET) (x0 x2:OA) (x4 x21:Int) (H:Heap):Prop :=
 zql2_10 Q E x0 x2 x4 x21 (x21 == 92) H
def zql2_12_M:Prop:=mP (τ 0) fun x0=>mP (τ 2) fun x2=>mI .u8 (τ 4) fun x4=>mI .u8 (τ 21) fun x21=>zql2_12 Q E x0 x2 x4 x21 H
theorem zql2_13ok :Ok Pr (zql2_12_M Q E) (sA (sI (sB zql2_p5))) (zql2_q5 Q E) E:=fun τ H h =>
  wP 0 h (fun x0 h=>wP 2 h (fun x2 h=>wI 4 h (fun x4 h=>wI 21 h (fun x21 h=>(conv (by kernel_rfl) h)))))
theorem zql2_14ok :Ok Pr (zql2_12_M Q E) (sI (sB zql2_p5)) (zql2_q3 Q E) E:=fun τ H h =>
  (conv (by kernel_rfl) (vc_seq (K:=(zql2_10_M Q E)) (zql2_13ok Q E τ H h) (zql2_11ok Q E)))
theorem zql2_15ok :Ok Pr (zql2_12_M Q E) (sB zql2_p5) (zql2_q2 Q E) E:=fun τ H h =>
  (conv (by kernel_rfl) (zql2_14ok Q E τ H h))
noncomputable def zql2_q6 :XT:=(xthen (zql2_12_M Q E) (zql2_q2 Q E))
def zql2_16 (Q:QT) (E:ET) (x0 x2:OA) (x4:Int) (H:Heap):Prop :=
 zql2_12 Q E x0 x2 x4 x4 H
def zql2_16_M:Prop:=mP (τ 0) fun x0=>mP (τ 2) fun x2=>mI .u8 (τ 4) fun x4=>zql2_16 Q E x0 x2 x4 H
theorem zql2_17ok :Ok Pr (zql2_16_M Q E) (sA zql2_p5) (zql2_q6 Q E) E:=fun τ H h =>
  wP 0 h (fun x0 h=>wP 2 h (fun x2 h=>wI 4 h (fun x4 h=>(conv (by kernel_rfl) h))))
theorem zql2_18ok :Ok Pr (zql2_16_M Q E) zql2_p5 (zql2_q2 Q E) E:=fun τ H h =>
  (conv (by kernel_rfl) (vc_seq (K:=(zql2_12_M Q E)) (zql2_17ok Q E τ H h) (zql2_15ok Q E)))
theorem zql2_19ok :Ok Pr (zql2_16_M Q E) (sB (sB zql2_p1)) (zql2_q1 Q E) E:=fun τ H h =>
  (conv (by kernel_rfl) (vc_seq (K:=(zql2_1_M Q E)) (zql2_18ok Q E τ H h) (zql2_2ok Q E)))
noncomputable def zql2_q7 :XT:=(xthen (zql2_16_M Q E) (zql2_q1 Q E))
def zql2_20 (Q:QT) (E:ET) (x0 x2:OA) (x4:Int) (H:Heap):Prop :=
 ptr x0 fun q58 =>
 ldI .i64 (Addr.add q58 1) H fun n59 =>
 ptr x0 fun q60 =>
 wr (Addr.add q60 1) [(.int .i64 (IntKind.wrap .i64 (n59+1)))] H fun H61 =>
 zql2_16 Q E x0 x2 x4 H61
def zql2_20_M:Prop:=mP (τ 0) fun x0=>mP (τ 2) fun x2=>mI .u8 (τ 4) fun x4=>zql2_20 Q E x0 x2 x4 H
theorem zql2_21ok :Ok Pr (zql2_20_M Q E) (sA (sB zql2_p1)) (zql2_q7 Q E) E:=fun τ H h =>
  wP 0 h (fun x0 h=>wP 2 h (fun x2 h=>wI 4 h (fun x4 h=>(conv (by kernel_rfl) h))))
theorem zql2_22ok :Ok Pr (zql2_20_M Q E) (sB zql2_p1) (zql2_q1 Q E) E:=fun τ H h =>
  (conv (by kernel_rfl) (vc_seq (K:=(zql2_16_M Q E)) (zql2_21ok Q E τ H h) (zql2_19ok Q E)))
noncomputable def zql2_q8 :XT:=(xthen (zql2_20_M Q E) (zql2_q1 Q E))
def zql2_23 (Q:QT) (E:ET) (x0 x2:OA) (H:Heap):Prop :=
 ptr x0 fun q62 =>
 ldS q62 H fun s63 =>
 ptr x0 fun q64 =>
 ldI .i64 (Addr.add q64 1) H fun n65 =>
 (0≤n65∧n65 < ((ByteArray.size s63:Nat):Int))∧zql2_20 Q E x0 x2 (sAt s63 n65) H
def zql2_23_M:Prop:=mP (τ 0) fun x0=>mP (τ 2) fun x2=>zql2_23 Q E x0 x2 H
theorem zql2_24ok :Ok Pr (zql2_23_M Q E) (sA zql2_p1) (zql2_q8 Q E) E:=fun τ H h =>
  wP 0 h (fun x0 h=>wP 2 h (fun x2 h=>(conv (by kernel_rfl) h)))
theorem zql2_25ok :Ok Pr (zql2_23_M Q E) zql2_p1 (zql2_q1 Q E) E:=fun τ H h =>
  (conv (by kernel_rfl) (vc_seq (K:=(zql2_20_M Q E)) (zql2_24ok Q E τ H h) (zql2_22ok Q E)))
def zql2 (Q:QT) (E:ET) (a0:OA) (H:Heap):Prop :=
 nw (.cells #[(.int .u64 0),(.int .u64 0),(.int .u64 0),(.int .u64 0)] 46 (0,0)) H fun i66 H67 =>
 zql2_23 Q E a0 (some ⟨i66,0,none⟩) H67
theorem zql2_fn (a0:OA) (Q:QT) (E:ET) (H:Heap) (h:zql2 Q E a0 H)  :Does Pr 124 #[(.pointer a0)] H Q E :=
  Fn_of_vc (fn:=Try.f124) (c:=(bodyOf Try.f124)) (args:=[(.pointer a0)]) mixed (by kernel_rfl) (by kernel_rfl) (by kernel_rfl) (by kernel_rfl) (by kernel_rfl) ((conv (B:=vc Pr (bodyOf Try.f124) (argT [(.pointer a0)]) (zql2_q1 Q E) E H) (by kernel_rfl) (vc_seq (K:=(zql2_23_M Q E)) (conv (B:=vc Pr (sA (bodyOf Try.f124)) (argT [(.pointer a0)]) (xthen (zql2_23_M Q E) (zql2_q1 Q E)) E H) (by kernel_rfl) h) (zql2_25ok Q E))))
noncomputable def zqm2_q1 (Q:QT) (E:ET) :XT:=(retQ Pr (Try.f125).results.toList Q)
noncomputable def zqm2_p1:Code:=sB (bodyOf Try.f125)
def zqm2_1 (Q:QT) (E:ET)  (H:Heap):Prop :=
 Q (.int .i64 0) H
def zqm2_1_M  (τ:Tau) (H:Heap):Prop:=zqm2_1 Q E  H
theorem zqm2_2ok :Ok Pr (zqm2_1_M Q E) (sB zqm2_p1) (zqm2_q1 Q E) E:=fun τ H h =>
  (conv (by kernel_rfl) h)
noncomputable def zqm2_q2 :XT:=(xthen (zqm2_1_M Q E) (zqm2_q1 Q E))
noncomputable def zqm2_q4 (nx10:Int→HP):XT:=(xthen (fun τ H=>mI .i64 (τ 3) fun x3'=>nx10 x3' H) (xblock 0 (zqm2_q2 Q E)))
noncomputable def zqm2_p6:Code:=sI (sI (sB (sA zqm2_p1)))
def zqm2_3 (nx10:Int→HP) (Q:QT) (E:ET) (x1:OA) (x3:Int) (H:Heap):Prop :=
 nx10 (IntKind.wrap .i64 (x3+1)) H
def zqm2_3_M (nx10:Int→HP) (τ:Tau) (H:Heap):Prop:=mP (τ 1) fun x1=>mI .i64 (τ 3) fun x3=>zqm2_3 nx10 Q E x1 x3 H
theorem zqm2_4ok (nx10:Int→HP):Ok Pr (zqm2_3_M Q E nx10) (sB (sB zqm2_p6)) (zqm2_q4 Q E nx10) E:=fun τ H h =>
  wP 1 h (fun x1 h=>wI 3 h (fun x3 h=>(conv (by kernel_rfl) h)))
def zqm2_5 (nx10:Int→HP) (Q:QT) (E:ET) (x1:OA) (x3:Int) (H:Heap):Prop :=
 ptr x1 fun q19 =>
 ∃ n20 n21 n22 n23:Int,Heap.rd H q19 0 [(.int .u64 n20),(.int .u64 n21),(.int .u64 n22),(.int .u64 n23)]∧Does Pr 73 #[(.agg #[(.int .u64 n20),(.int .u64 n21),(.int .u64 n22),(.int .u64 n23)]),(.int .u8 (IntKind.wrap .u8 x3))] H (fun v24 H25 =>
 ∃ b26:Bool,v24=(.bool b26)∧sel b26
 (Q (.int .i64 x3) H25)
 (zqm2_3 nx10 Q E x1 x3 H25)) E
def zqm2_5_M (nx10:Int→HP) (τ:Tau) (H:Heap):Prop:=mP (τ 1) fun x1=>mI .i64 (τ 3) fun x3=>zqm2_5 nx10 Q E x1 x3 H
theorem zqm2_6ok (nx10:Int→HP):Ok Pr (zqm2_5_M Q E nx10) (sA (sB zqm2_p6)) (xthen (zqm2_3_M Q E nx10) (zqm2_q4 Q E nx10)) E:=fun τ H h =>
  wP 1 h (fun x1 h=>wI 3 h (fun x3 h=>(conv (by kernel_rfl) h)))
theorem zqm2_7ok (nx10:Int→HP):Ok Pr (zqm2_5_M Q E nx10) (sB zqm2_p6) (zqm2_q4 Q E nx10) E:=fun τ H h =>
  (conv (by kernel_rfl) (vc_seq (K:=(zqm2_3_M Q E nx10)) (zqm2_6ok Q E nx10 τ H h) (zqm2_4ok Q E nx10)))
def zqm2_8 (nx10:Int→HP) (Q:QT) (E:ET) (x1:OA) (x3:Int) (H:Heap):Prop :=
 sel (decide (x3 < 256))
 (zqm2_5 nx10 Q E x1 x3 H)
 (zqm2_1 Q E  H)
def zqm2_8_M (nx10:Int→HP) (τ:Tau) (H:Heap):Prop:=mP (τ 1) fun x1=>mI .i64 (τ 3) fun x3=>zqm2_8 nx10 Q E x1 x3 H
theorem zqm2_9ok (nx10:Int→HP):Ok Pr (zqm2_8_M Q E nx10) (sA zqm2_p6) (xthen (zqm2_5_M Q E nx10) (zqm2_q4 Q E nx10)) E:=fun τ H h =>
  wP 1 h (fun x1 h=>wI 3 h (fun x3 h=>(conv (by kernel_rfl) h)))
theorem zqm2_10ok (nx10:Int→HP):Ok Pr (zqm2_8_M Q E nx10) zqm2_p6 (zqm2_q4 Q E nx10) E:=fun τ H h =>
  (conv (by kernel_rfl) (vc_seq (K:=(zqm2_5_M Q E nx10)) (zqm2_9ok Q E nx10 τ H h) (zqm2_7ok Q E nx10)))
def zqm2_11 (Q:QT) (E:ET) (x1:OA) (x3:Int) (H:Heap):Prop :=
 ∃ (I:Int→HP) (μ:Int→Heap→Nat),I x3 H∧∀ (x3:Int) (H:Heap),I x3 H →
 zqm2_8 (fun x3' H1=>I x3' H1∧μ x3' H1 < μ x3 H) Q E x1 x3 H
def zqm2_11_M:Prop:=mP (τ 1) fun x1=>mI .i64 (τ 3) fun x3=>zqm2_11 Q E x1 x3 H
theorem zqm2_12ok :Ok Pr (zqm2_11_M Q E) (sI (sB (sA zqm2_p1))) (xblock 0 (zqm2_q2 Q E)) E:=fun τ H h =>
  wP 1 h (fun x1 h=>wI 3 h (fun x3 h=>match h with | ⟨I,μ,h0,hr⟩=>(conv (by kernel_rfl) (vc_loopG (c:=sI (sI (sB (sA zqm2_p1)))) (τ:=(Tau.upd (Tau.upd τ 1 (.pointer x1)) 3 (.int .i64 x3))) [1] (fun τ H=>mI .i64 (τ 3) fun x3'=>I x3' H) (fun τ H=>μ (gI (τ 3)) H) (by kernel_rfl) h0 (fun τ1 H1 hf hI=>uF 1 (.pointer x1) (hf 1 (by simp)) (uI 3 hI (fun x3r h=>lgx (zqm2_10ok Q E (fun x3' H2=>I x3' H2∧μ x3' H2 < μ x3r H1) (Tau.upd (Tau.upd τ1 1 (.pointer x1)) 3 (.int .i64 x3r)) H1 (conv (by kernel_rfl) (hr x3r H1 h))) (fun τ2 H2 hk=>kI 3 hk (fun x3' h=>conv (by kernel_rfl) h)))))))))
theorem zqm2_13ok :Ok Pr (zqm2_11_M Q E) (sB (sA zqm2_p1)) (zqm2_q2 Q E) E:=fun τ H h =>
  (conv (by kernel_rfl) (zqm2_12ok Q E τ H h))
def zqm2_14 (Q:QT) (E:ET) (x1:OA) (H:Heap):Prop :=
 zqm2_11 Q E x1 0 H
def zqm2_14_M:Prop:=mP (τ 1) fun x1=>zqm2_14 Q E x1 H
theorem zqm2_15ok :Ok Pr (zqm2_14_M Q E) (sA (sA zqm2_p1)) (xthen (zqm2_11_M Q E) (zqm2_q2 Q E)) E:=fun τ H h =>
  wP 1 h (fun x1 h=>(conv (by kernel_rfl) h))
theorem zqm2_16ok :Ok Pr (zqm2_14_M Q E) (sA zqm2_p1) (zqm2_q2 Q E) E:=fun τ H h =>
  (conv (by kernel_rfl) (vc_seq (K:=(zqm2_11_M Q E)) (zqm2_15ok Q E τ H h) (zqm2_13ok Q E)))
theorem zqm2_17ok :Ok Pr (zqm2_14_M Q E) zqm2_p1 (zqm2_q1 Q E) E:=fun τ H h =>
  (conv (by kernel_rfl) (vc_seq (K:=(zqm2_1_M Q E)) (zqm2_16ok Q E τ H h) (zqm2_2ok Q E)))
def zqm2 (Q:QT) (E:ET) (a0_0:Int) (a0_1:Int) (a0_2:Int) (a0_3:Int) (H:Heap):Prop :=
 nw (.cells #[(.int .u64 a0_0),(.int .u64 a0_1),(.int .u64 a0_2),(.int .u64 a0_3)] 46 (0,0)) H fun i27 H28 =>
 zqm2_14 Q E (some ⟨i27,0,none⟩) H28
theorem zqm2_fn (a0_0:Int) (a0_1:Int) (a0_2:Int) (a0_3:Int) (Q:QT) (E:ET) (H:Heap) (h:zqm2 Q E a0_0 a0_1 a0_2 a0_3 H)  :Does Pr 125 #[(.agg #[(.int .u64 a0_0),(.int .u64 a0_1),(.int .u64 a0_2),(.int .u64 a0_3)])] H Q E :=
  Fn_of_vc (fn:=Try.f125) (c:=(bodyOf Try.f125)) (args:=[(.agg #[(.int .u64 a0_0),(.int .u64 a0_1),(.int .u64 a0_2),(.int .u64 a0_3)])]) mixed (by kernel_rfl) (by kernel_rfl) (by kernel_rfl) (by kernel_rfl) (by kernel_rfl) ((conv (B:=vc Pr (bodyOf Try.f125) (argT [(.agg #[(.int .u64 a0_0),(.int .u64 a0_1),(.int .u64 a0_2),(.int .u64 a0_3)])]) (zqm2_q1 Q E) E H) (by kernel_rfl) (vc_seq (K:=(zqm2_14_M Q E)) (conv (B:=vc Pr (sA (bodyOf Try.f125)) (argT [(.agg #[(.int .u64 a0_0),(.int .u64 a0_1),(.int .u64 a0_2),(.int .u64 a0_3)])]) (xthen (zqm2_14_M Q E) (zqm2_q1 Q E)) E H) (by kernel_rfl) h) (zqm2_17ok Q E))))
end Go.Proofs.Ytaffcoiomggpfaa
