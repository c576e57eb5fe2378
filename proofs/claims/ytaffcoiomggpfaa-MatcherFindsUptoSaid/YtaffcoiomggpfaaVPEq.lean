import Derived.Test.YtaffcoiomggpfaaVR08e
import Derived.Test.YtaffcoiomggpfaaVR08b
import Derived.Test.YtaffcoiomggpfaaVMean
import Derived.Test.YtaffcoiomggpfaaVRegex4
/- Contracts of package jobmuxref08 (6): Parse. -/
namespace Go.Proofs.Ytaffcoiomggpfaa
open Go.V
attribute [local irreducible] app
set_option linter.constructorNameAsVariable false
set_option linter.unusedVariables false
def NL (H:Heap) (b:Nat) (p:OA) (l c:Nat) (L:List Nd):Prop:=l=L.length∧Vec H 7 p l c (flat L)∧∀ j,blk p j→j ≠ b
theorem NL.exb {H H':Heap} {b:Nat} {p:OA} {l c:Nat} {L:List Nd} (h:NL H b p l c L) (he:Exb b H H'):NL H' b p l c L :=
  ⟨h.1,h.2.1.keep fun i hi hn=>by
    cases hh:H i with
    | none=>exact absurd hh hn
    | some o=>exact he i o (h.2.2 i hi) hh,h.2.2⟩
theorem NL.nil (H:Heap) (b:Nat):NL H b none 0 0 []:=⟨rfl,Vec.nil H 7,fun j hj=>by obtain ⟨a,ha,_⟩:=hj; cases ha⟩
def AltC (alt:PS→List Nd × PS) (d:Nat):Prop:=∀ (H:Heap) (b:Nat) (q:PS) (Q:Value→Heap→Prop) (E:Chain→Heap→Prop),PSs H b q→d≤q.deep →
  (∀ H' p c,PSs H' b (alt q).2→Exb b H H'→NL H' b p (alt q).1.length c (alt q).1→Q (.slice p (alt q).1.length c) H')→Does Pr 56 #[.pointer (some ⟨b,0,none⟩)] H Q E
variable {H:Heap} {b d:Nat} {q:PS} {Q:QT} {E:ET} {alt:PS→List Nd × PS}
theorem atom8_c (hw:∀ q,PS.Wa q (alt q) 1 0) (hp:d+1≤24→AltC alt (d+1)) (h:PSs H b q) (h0:q.e=0) (hlt:q.at_ < q.s.size) (hd:d≤q.deep)
    (hk:∀ H' p c L q',PS.atom8 alt q=(L,q')→PSs H' b q'→Exb b H H'→NL H' b p L.length c L→Q (.slice p L.length c) H'):Does Pr 105 #[.pointer (some ⟨b,0,none⟩)] H Q E:=by
  refine zqn_fn _ Q E H ?_
  obtain ⟨g1,g2,g3,g4⟩:=id h
  have hbyte:byteAt q.s q.at_=q.byte:=rfl
  have hb255:q.byte≤255:=byteAt_le _ _
  unfold zqn zqn_81
  simp only [ptr_some]
  refine h.ldStr (h.ldAt ⟨⟨by omega,by omega⟩,?_⟩)
  rw [sAt_nat,hbyte]
  unfold zqn_78
  simp only [ptr_some]
  refine h.ldAt (h.incS (by have:=(g3 h0).2; omega) (fun _=>hlt) fun H1 h1 hx1=>?_)
  have leafk:∀ (k:Int) (s:S4) (q':PS) (H2:Heap),PS.atom8 alt q=([ndI k s],q')→PSs H2 b q'→Exb b H1 H2 →
      Does Pr 101 #[.int .i64 k,.agg s.cells] H2 (fun v H3=>∃ (p:OA) (l c:Nat),v=.slice p l c∧Q (.slice p l c) H3) E:=by
    intro k s q' H2 hq h2 hx2
    refine leaf_c fun H3 p c he3 hv3 hf3=>⟨p,1,c,rfl,?_⟩
    exact hk H3 p c [ndI k s] q' hq (h2.ext he3) ((hx1.trans hx2).trans (he3.exb b)) ⟨rfl,hv3,fun j hj e=>by subst e; exact absurd (hf3 _ hj) (by rw [h2.2.2.2]; simp)⟩
  have mkk:∀ (q':PS) (H2:Heap),PS.atom8 alt q=([ndI 2 (S4.zero.with1 q.byte)],q')→PSs H2 b q'→Exb b H1 H2→zqn_1 Q E (q.byte:Nat) H2:=by
    intro q' H2 hq h2 hx2
    unfold zqn_1
    refine With_c (s:=S4.zero) hb255 fun H3 he3=>⟨_,_,_,_,rfl,?_⟩
    exact leafk 2 _ q' H3 hq (h2.ext he3) (hx2.trans (he3.exb b))
  unfold zqn_74 zqn_70 zqn_68
  refine sel_beq (fun hc=>?_) (fun c46=>?_)
  · unfold zqn_3
    refine With_c (s:=S4.zero) (b:=10) (by omega) fun H3 he3=>⟨_,_,_,_,rfl,?_⟩
    refine Not_c (s:=S4.zero.with1 10) fun H4 he4=>⟨_,_,_,_,rfl,?_⟩
    exact leafk 2 _ q.inc H4 (by unfold PS.atom8; rw [if_pos (by omega)]) ((h1.ext he3).ext he4) ((he3.trans he4).exb b)
  unfold zqn_65 zqn_63
  refine sel_beq (fun hc=>?_) (fun c94=>?_)
  · unfold zqn_5
    exact leafk 8 S4.zero q.inc H1 (by unfold PS.atom8; rw [if_neg (by omega),if_pos (by omega)]) h1 (Exb.refl _ _)
  unfold zqn_60 zqn_58
  refine sel_beq (fun hc=>?_) (fun c36=>?_)
  · unfold zqn_7
    exact leafk 9 S4.zero q.inc H1 (by unfold PS.atom8; rw [if_neg (by omega),if_neg (by omega),if_pos (by omega)]) h1 (Exb.refl _ _)
  unfold zqn_55 zqn_53
  refine sel_beq (fun hc=>?_) (fun c92=>?_)
  · unfold zqn_9
    refine escape8_c h1 h0 fun H3 s x q3 hq3 h3 hx3=>⟨_,_,_,_,_,rfl,?_⟩
    refine nw_ext fun i H4 hi he4 hc4=>?_
    have hc4:H4 i=some (cs S4.zero):=hc4
    refine S4.wr s hc4 ⟨_,_,_,_,S4.rd (s:=s) (Heap.set_self _ _ _),?_⟩
    have he5:Ext H3 (H4.set i (.cells s.cells 46 (0,0))):=he4.set hi _
    refine leafk 2 s q3 _ ?_ (h3.ext he5) (hx3.trans (he5.exb b))
    unfold PS.atom8; rw [if_neg (by omega),if_neg (by omega),if_neg (by omega),if_pos (by omega),hq3]
  unfold zqn_50 zqn_48
  refine sel_beq (fun hc=>?_) (fun c91=>?_)
  · unfold zqn_11
    refine class8_c h1 h0 fun H3 s q3 hq3 h3 hx3=>⟨_,_,_,_,rfl,?_⟩
    refine leafk 2 s q3 H3 ?_ h3 hx3
    unfold PS.atom8; rw [if_neg (by omega),if_neg (by omega),if_neg (by omega),if_neg (by omega),if_pos (by omega),hq3]
  unfold zqn_45 zqn_43
  refine sel_beq (fun hc=>?_) (fun c93=>?_)
  · unfold zqn_13
    refine pfail_c (by decide) h1 fun H3 h3 hx3=>mkk _ H3 ?_ h3 hx3
    unfold PS.atom8; rw [if_neg (by omega),if_neg (by omega),if_neg (by omega),if_neg (by omega),if_neg (by omega),if_pos (by omega)]
  have rep:(q.byte=42∨q.byte=43∨q.byte=63)→zqn_15 Q E (some ⟨b,0,none⟩) (q.byte:Nat) H1:=by
    intro hc
    unfold zqn_15
    refine pfail_c (by decide) h1 fun H3 h3 hx3=>mkk _ H3 ?_ h3 hx3
    unfold PS.atom8; rw [if_neg (by omega),if_neg (by omega),if_neg (by omega),if_neg (by omega),if_neg (by omega),if_neg (by omega),if_pos hc]
  unfold zqn_40 zqn_38
  refine sel_beq (fun hc=>?_) (fun c42=>?_)
  · exact sel_beq (fun _=>rep (by omega)) (fun h=>absurd hc h)
  refine sel_beq (fun hc=>?_) (fun c43=>?_)
  · exact sel_beq (fun _=>rep (by omega)) (fun h=>absurd hc h)
  refine sel_beq (fun hc=>rep (by omega)) (fun c63=>?_)
  unfold zqn_35 zqn_33
  refine sel_beq (fun hc=>?_) (fun c40=>?_)
  · have hA : PS.atom8 alt q = if 24 < q.deep + 1 then ([], q.inc.up.fail 84) else
        ((alt q.inc.up).1,(if (alt q.inc.up).2.e=0∧(alt q.inc.up).2.s.size≤(alt q.inc.up).2.at_ then (alt q.inc.up).2.fail 83 else (alt q.inc.up).2).out):=by
      unfold PS.atom8; rw [if_neg (by omega),if_neg (by omega),if_neg (by omega),if_neg (by omega),if_neg (by omega),if_neg (by omega),if_neg (by omega),if_pos (by omega)]
    unfold zqn_28
    simp only [ptr_some]
    refine h1.ldDeep ?_
    have hdw:IntKind.wrap .i64 (((q.inc.deep:Nat):Int)+1)=((q.deep+1:Nat):Int):=by
      have:q.inc.deep=q.deep:=rfl
      rw [this,IntWalk.i64_in _ (by omega)]; omega
    rw [hdw,add_at]
    have hq24:=(g3 h0).2
    refine wr_new h1.2.2.2 (by simp [PS.cells]) rfl (c':=q.inc.up.cells) rfl fun H2 hc2 hb2=>?_
    have hx2:Exb b H1 H2:=fun j o hj ho=>by rw [hb2 j hj]; exact ho
    rw [← add_at]
    simp only [add_at]
    refine ldI_at (n:=((q.deep+1:Nat):Int)) hc2 rfl ?_
    refine sel_dec (fun hgt=>?_) (fun hle=>?_)
    · rw [if_pos (by omega)] at hA
      have e:q.inc.up.fail 84={ q.inc.up with e:=84 }:=if_pos h0
      have hraw:Does Pr 57 #[.pointer (some ⟨b,0,none⟩),.int .i64 84] H2 (fun v H3=>Q (.slice none 0 0) H3) E:=by
        refine zqe_fn _ _ _ _ H2 ?_
        unfold zqe
        simp only [ptr_some,add_at]
        refine ldI_at (n:=q.e) hc2 rfl (sel_beq (fun _=>?_) (fun h=>absurd h0 h))
        refine wr_new hc2 (by simp [PS.cells]) rfl (c':=(q.inc.up.fail 84).cells) (by rw [e]; rfl) fun H3 hc3 hb3=>?_
        refine hk H3 none 0 [] _ hA ⟨by rw [e]; exact g1,by rw [e]; show q.at_+1+(q.deep+1)≤q.s.size+26; omega,fun h=>by rw [e] at h; exact absurd h (by show ¬ (84:Int)=0; decide),hc3⟩ ((hx1.trans hx2).trans fun j o hj ho=>by rw [hb3 j hj]; exact ho) (NL.nil _ _)
      exact hraw
    · rw [if_neg (by omega)] at hA
      have h2:PSs H2 b q.inc.up:=⟨g1,by show q.at_+1+(q.deep+1)≤q.s.size+26; omega,fun _=>⟨hlt,by show q.deep+1≤24; omega⟩,hc2⟩
      unfold zqn_25
      refine hp (by omega) H2 b q.inc.up _ _ h2 (by show d+1≤q.deep+1; omega) fun H3 p c h3 hx3 hn3=>⟨_,_,_,rfl,?_⟩
      have hmo:=(hw q.inc.up).mo
      generalize alt q.inc.up=X at hA h3 hn3 hmo
      have fin:∀ (q4:PS) (H4:Heap),(if X.2.e=0∧X.2.s.size≤X.2.at_ then X.2.fail 83 else X.2)=q4→PSs H4 b q4→Exb b H3 H4 →
          zqn_17 Q E (some ⟨b,0,none⟩) p X.1.length c H4:=by
        intro q4 H4 hq4 h4 hx4
        have hq:q4.at_=X.2.at_∧q4.s=X.2.s∧q4.deep=X.2.deep∧(q4.e=0→X.2.e=0∧X.2.at_ < X.2.s.size):=by
          rw [← hq4]; split
          · have:=PS.fail_at X.2 83
            exact ⟨this.1,this.2.1,this.2.2,fun h=>absurd h (PS.fail_e _ (by decide))⟩
          · rename_i hno
            exact ⟨rfl,rfl,rfl,fun h=>⟨h,by have:=fun h'=>hno ⟨h,h'⟩; omega⟩⟩
        have hdeep:1≤q4.deep:=by rw [hq.2.2.1]; have:=hmo.deep; have e:q.inc.up.deep=q.deep+1:=rfl; omega
        obtain ⟨k1,k2,k3,k4⟩:=h4
        unfold zqn_17
        simp only [ptr_some,add_at]
        refine ldI_at (n:=((q4.at_:Nat):Int)) k4 rfl ?_
        have w1:IntKind.wrap .i64 (((q4.at_:Nat):Int)+1)=((q4.at_+1:Nat):Int):=by rw [IntWalk.i64_in _ (by omega)]; omega
        rw [w1]
        refine wr_new k4 (by simp [PS.cells]) rfl (c':=q4.inc.cells) rfl fun H5 hc5 hb5=>?_
        refine ldI_at (n:=((q4.deep:Nat):Int)) hc5 rfl ?_
        have w2:IntKind.wrap .i64 (((q4.deep:Nat):Int) - 1)=((q4.deep - 1:Nat):Int):=by rw [IntWalk.i64_in _ (by omega)]; omega
        rw [w2]
        refine wr_new hc5 (by simp [PS.cells]) rfl (c':=q4.out.cells) rfl fun H6 hc6 hb6=>?_
        have hx6:Exb b H4 H6:=fun j o hj ho=>by rw [hb6 j hj,hb5 j hj]; exact ho
        refine hk H6 p c X.1 q4.out (by rw [hA,hq4]) ⟨k1,by show q4.at_+1+(q4.deep - 1)≤q4.s.size+26; omega,fun he=>?_,hc6⟩ ((((hx1.trans hx2).trans hx3).trans hx4).trans hx6) (hn3.exb (hx4.trans hx6))
        have:=hq.2.2.2 he
        have:=k3 he
        refine ⟨?_,?_⟩
        · show q4.at_+1≤q4.s.size
          rw [hq.1,hq.2.1]; omega
        · show q4.deep - 1≤24
          omega
      unfold zqn_21
      simp only [ptr_some]
      refine h3.ldE (sel_beq (fun he=>?_) (fun he=>?_))
      · refine h3.ldAt (h3.ldStr ?_)
        unfold zqn_19
        refine sel_dec (fun hge=>?_) (fun hlt'=>?_)
        · exact pfail_c (by decide) h3 fun H4 h4 hx4=>fin _ H4 (if_pos ⟨he,by omega⟩) h4 hx4
        · exact fin _ H3 (if_neg (fun h=>by omega)) h3 (Exb.refl _ _)
      · unfold zqn_19
        exact sel_ff (fin _ H3 (if_neg (fun h=>he h.1)) h3 (Exb.refl _ _))
  · unfold zqn_31
    refine mkk q.inc H1 ?_ h1 (Exb.refl _ _)
    unfold PS.atom8; rw [if_neg (by omega),if_neg (by omega),if_neg (by omega),if_neg (by omega),if_neg (by omega),if_neg (by omega),if_neg (by omega),if_neg (by omega)]
theorem signOf_42 {n:Nat} (h:(n:Int)=42):signOf n=5:=by unfold signOf; rw [if_pos (by omega)]
theorem signOf_43 {n:Nat} (h:(n:Int)=43):signOf n=6:=by unfold signOf; rw [if_neg (by omega),if_pos (by omega)]
theorem signOf_63 {n:Nat} (h:(n:Int)=63):signOf n=7:=by unfold signOf; rw [if_neg (by omega),if_neg (by omega),if_pos (by omega)]
theorem signOf_no {n:Nat} (h:(n:Int) ≠ 42) (h':(n:Int) ≠ 43) (h'':(n:Int) ≠ 63):signOf n=0:=by unfold signOf; rw [if_neg (by omega),if_neg (by omega),if_neg (by omega)]
theorem part8_c (hw:∀ q,PS.Wa q (alt q) 1 0) (hp:d+1≤24→AltC alt (d+1)) (h:PSs H b q) (h0:q.e=0) (hlt:q.at_ < q.s.size) (hd:d≤q.deep)
    (hk:∀ H' p c L q',PS.part8 alt q=(L,q')→PSs H' b q'→Exb b H H'→NL H' b p L.length c L→Q (.slice p L.length c) H'):Does Pr 100 #[.pointer (some ⟨b,0,none⟩)] H Q E:=by
  refine zqk_fn _ Q E H ?_
  unfold zqk zqk_16
  refine atom8_c hw hp h h0 hlt hd fun H1 p c L q1 hq1 h1 hx1 hn1=>⟨_,_,_,rfl,?_⟩
  have hwa:=PS.atom8_wa hw q
  have hR:PS.part8 alt q=PS.signs8 (q.s.size+28) L q1:=by unfold PS.part8; rw [hq1]
  rw [hq1] at hwa
  obtain ⟨w1,w2,w3⟩:=hwa
  dsimp only at w1 w2 w3
  have hs:=h.1
  unfold zqk_12
  refine ⟨fun p l c H'=>∃ (f:Nat) (L:List Nd) (q':PS),l=L.length∧q'.s.size+27 < f+q'.at_∧PS.signs8 f L q'=PS.part8 alt q∧q'.s=q.s∧PSs H' b q'∧Exb b H H'∧NL H' b p L.length c L∧(L.length:Int)≤2 * q'.at_+1,
    fun _ _ _ H'=>q.s.size+27 - atOf b H',⟨_,L,q1,rfl,by rw [w1.s]; omega,hR.symm,w1.s,h1,hx1,hn1,by omega⟩,?_⟩
  rintro p l c H2 ⟨f,L,q',rfl,hf,hr,hs',h2,hx2,hn2,hL⟩
  have h2b:=h2.2.1
  have h2s:=h2.1
  cases f with
  | zero=>omega
  | succ f =>
    simp only [PS.signs8] at hr
    have fin:¬ (q'.more=true∧signOf q'.byte ≠ 0)→Q (.slice p L.length c) H2:=fun hno=>by
      rw [if_neg hno] at hr
      exact hk H2 p c L q' hr.symm h2 hx2 hn2
    unfold zqk_9
    refine more_c h2 ⟨_,rfl,sel_mk (fun hm=>?_) (fun hm=>?_)⟩
    · obtain ⟨m1,m2⟩:=PS.more_iff.1 hm
      unfold zqk_5
      simp only [ptr_some]
      refine h2.ldStr (h2.ldAt ⟨⟨by omega,by omega⟩,?_⟩)
      rw [sAt_nat]
      have hbyte:byteAt q'.s q'.at_=q'.byte:=rfl
      rw [hbyte]
      have go:∀ k:Nat,signOf q'.byte=k→k ≠ 0→Does Pr 91 #[.int .i64 (k:Nat),.slice p L.length c,.slice none 0 0] H2 (fun v H3=>∃ (p':OA) (l' c':Nat),v=.slice p' l' c' ∧
          zqk_3 (fun p l c H'=>(∃ (f:Nat) (L:List Nd) (q':PS),l=L.length∧q'.s.size+27 < f+q'.at_∧PS.signs8 f L q'=PS.part8 alt q∧q'.s=q.s∧PSs H' b q'∧Exb b H H'∧NL H' b p L.length c L∧(L.length:Int)≤2 * q'.at_+1) ∧
            q.s.size+27 - atOf b H' < q.s.size+27 - atOf b H2) Q E (some ⟨b,0,none⟩) p' l' c' H3) E:=by
        intro k hk' hk0
        rw [if_pos ⟨hm,by rw [hk']; exact hk0⟩,hk'] at hr
        refine join_c (L:=L) (R:=[]) hn2.2.1 (Vec.nil _ 7) rfl rfl (by omega) fun H3 p3 c3 he3 hv3 hf3=>⟨_,_,_,rfl,?_⟩
        have h3:=h2.ext he3
        unfold zqk_3
        simp only [ptr_some]
        refine h3.ldAt (h3.incS (by have:=(h2.2.2.1 m1).2; omega) (fun _=>m2) fun H4 h4 hx4=>?_)
        have hn3:NL H3 b p3 (joinN (k:Nat) L []).length c3 (joinN (k:Nat) L []):=⟨rfl,hv3,fun j hj e=>by subst e; exact absurd (hf3 _ hj) (by rw [h2.2.2.2]; simp)⟩
        have hl:=joinN_length (k:Nat) L []
        refine ⟨⟨f,_,q'.inc,rfl,by show q'.s.size+27 < f+(q'.at_+1); omega,hr,hs',h4,(hx2.trans (he3.exb b)).trans hx4,hn3.exb hx4,by rw [hl]; show _≤2 * ((q'.at_+1:Nat):Int)+1; simp only [List.length_nil]; omega⟩,?_⟩
        rw [h4.atOf,h2.atOf]
        show q.s.size+27 - (q'.at_+1) < _
        rw [hs'] at m2
        omega
      refine sel_beq (fun hc=>go 5 (signOf_42 hc) (by decide)) (fun c1=>?_)
      refine sel_beq (fun hc=>go 6 (signOf_43 hc) (by decide)) (fun c2=>?_)
      refine sel_beq (fun hc=>go 7 (signOf_63 hc) (by decide)) (fun c3=>?_)
      exact fin (by rw [signOf_no c1 c2 c3]; simp)
    · unfold zqk_1
      exact fin (by simp [hm])
theorem cat8_c (hw:∀ q,PS.Wa q (alt q) 1 0) (hp:d+1≤24→AltC alt (d+1)) (h:PSs H b q) (hd:d≤q.deep)
    (hk:∀ H' p c L q',PS.cat8 alt q=(L,q')→PSs H' b q'→Exb b H H'→NL H' b p L.length c L→Q (.slice p L.length c) H'):Does Pr 89 #[.pointer (some ⟨b,0,none⟩)] H Q E:=by
  refine zqh_fn _ Q E H ?_
  have hs:=h.1
  unfold zqh zqh_25 zqh_21
  refine ⟨fun p l c H'=>∃ (f:Nat) (L:List Nd) (q':PS),l=L.length∧q'.s.size+27 < f+q'.at_∧PS.catLoop8 alt f L q'=PS.cat8 alt q∧q'.s=q.s∧d≤q'.deep∧PSs H' b q'∧Exb b H H'∧NL H' b p L.length c L∧(L.length:Int)≤2 * q'.at_+1,
    fun _ _ _ H'=>q.s.size+27 - atOf b H',⟨q.s.size+28,[],q,rfl,by omega,rfl,rfl,hd,h,Exb.refl _ _,NL.nil _ _,by simp only [List.length_nil]; omega⟩,?_⟩
  rintro p l c H2 ⟨f,L,q',rfl,hf,hr,hs',hd',h2,hx2,hn2,hL⟩
  have h2b:=h2.2.1
  cases f with
  | zero=>omega
  | succ f =>
    simp only [PS.catLoop8] at hr
    -- the end
    have stop:¬ (q'.more=true∧q'.byte ≠ 124∧q'.byte ≠ 41)→zqh_3 Q E p L.length c H2:=fun hno=>by
      rw [if_neg hno] at hr
      unfold zqh_3
      refine sel_beq (fun hl=>?_) (fun hl=>?_)
      · rw [if_pos (by omega)] at hr
        refine leaf_c (s:=S4.zero) fun H3 p3 c3 he3 hv3 hf3=>⟨_,_,_,rfl,?_⟩
        exact hk H3 p3 c3 [ndI 1 S4.zero] q' hr.symm (h2.ext he3) (hx2.trans (he3.exb b)) ⟨rfl,hv3,fun j hj e=>by subst e; exact absurd (hf3 _ hj) (by rw [h2.2.2.2]; simp)⟩
      · rw [if_neg (by omega)] at hr
        unfold zqh_1
        exact hk H2 p c L q' hr.symm h2 hx2 hn2
    have off:¬ (q'.more=true∧q'.byte ≠ 124∧q'.byte ≠ 41)→∀ nx,zqh_15 nx Q E (some ⟨b,0,none⟩) p L.length c false H2:=fun hno nx=>by
      unfold zqh_15
      exact sel_ff (stop hno)
    unfold zqh_17
    refine more_c h2 ⟨_,rfl,sel_mk (fun hm=>?_) (fun hm=>off (by simp [hm]) _)⟩
    obtain ⟨m1,m2⟩:=PS.more_iff.1 hm
    have hbyte:byteAt q'.s q'.at_=q'.byte:=rfl
    simp only [ptr_some]
    refine h2.ldStr (h2.ldAt ⟨⟨by omega,by omega⟩,?_⟩)
    rw [sAt_nat,hbyte]
    refine sel_bne (fun c1=>?_) (fun c1=>off (by intro h; omega) _)
    refine h2.ldStr (h2.ldAt ⟨⟨by omega,by omega⟩,?_⟩)
    rw [sAt_nat,hbyte]
    unfold zqh_15
    refine sel_bne (fun c2=>?_) (fun c2=>stop (by intro h; omega))
    rw [if_pos ⟨hm,by omega,by omega⟩] at hr
    unfold zqh_11
    refine part8_c hw hp h2 m1 m2 hd' fun H3 p3 c3 L3 q3 hq3 h3 hx3 hn3=>⟨_,_,_,rfl,?_⟩
    have hwa:=PS.part8_wa hw q'
    rw [hq3] at hwa hr
    obtain ⟨w1,w2,w3⟩:=hwa
    dsimp only at w1 w2 w3 hr
    unfold zqh_8
    simp only [ptr_some]
    refine h3.ldE (sel_bne (fun he=>?_) (fun he=>?_))
    · rw [if_pos he] at hr
      exact hk H3 none 0 [] q3 hr.symm h3 (hx2.trans hx3) (NL.nil _ _)
    rw [if_neg (by simp [he])] at hr
    have hlt:q.s.size+27 - q3.at_ < q.s.size+27 - q'.at_:=by rw [hs'] at m2; omega
    unfold zqh_6
    refine sel_beq (fun hl=>?_) (fun hl=>?_)
    · rw [if_pos (by omega)] at hr
      refine ⟨⟨f,L3,q3,rfl,by rw [w1.s]; omega,hr,w1.s.trans hs',Nat.le_trans hd' w1.deep,h3,hx2.trans hx3,hn3,by omega⟩,?_⟩
      rw [h3.atOf,h2.atOf]; exact hlt
    · rw [if_neg (by omega)] at hr
      have h3b:=h3.2.1
      rw [w1.s] at h3b
      have h2s:=h2.1
      have hl:=joinN_length 3 L L3
      refine join_c (L:=L) (R:=L3) (hn2.exb hx3).2.1 hn3.2.1 rfl rfl (by omega) fun H4 p4 c4 he4 hv4 hf4=>⟨_,_,_,rfl,?_⟩
      have h4:=h3.ext he4
      refine ⟨⟨f,joinN 3 L L3,q3,rfl,by rw [w1.s]; omega,hr,w1.s.trans hs',Nat.le_trans hd' w1.deep,h4,(hx2.trans hx3).trans (he4.exb b),⟨rfl,hv4,fun j hj e=>by subst e; exact absurd (hf4 _ hj) (by rw [h3.2.2.2]; simp)⟩,by rw [hl]; push_cast; omega⟩,?_⟩
      rw [h4.atOf,h2.atOf]; exact hlt
theorem alt8_c (hw:∀ q,PS.Wa q (alt q) 1 0) (hp:d+1≤24→AltC alt (d+1)):AltC (PS.alt8 alt) d:=by
  intro H b q Q E h hd hk
  refine zqd_fn _ Q E H ?_
  have hs:=h.1
  unfold zqd zqd_25
  refine cat8_c hw hp h hd fun H1 p c L q1 hq1 h1 hx1 hn1=>⟨_,_,_,rfl,?_⟩
  have hwa:=PS.cat8_wa hw q
  have hR:PS.alt8 alt q=PS.altLoop8 alt (q.s.size+28) L q1:=by unfold PS.alt8; rw [hq1]
  rw [hq1] at hwa
  obtain ⟨w1,w2,w3⟩:=hwa
  dsimp only at w1 w2 w3
  unfold zqd_21
  refine ⟨fun p l c H'=>∃ (f:Nat) (L:List Nd) (q':PS),l=L.length∧q'.s.size+27 < f+q'.at_∧PS.altLoop8 alt f L q'=PS.alt8 alt q∧q'.s=q.s∧d≤q'.deep∧PSs H' b q'∧Exb b H H'∧NL H' b p L.length c L∧(L.length:Int)≤2 * q'.at_+1,
    fun _ _ _ H'=>q.s.size+27 - atOf b H',⟨q.s.size+28,L,q1,rfl,by rw [w1.s]; omega,hR.symm,w1.s,Nat.le_trans hd w1.deep,h1,hx1,hn1,by omega⟩,?_⟩
  rintro p l c H2 ⟨f,L,q',rfl,hf,hr,hs',hd',h2,hx2,hn2,hL⟩
  have h2b:=h2.2.1
  cases f with
  | zero=>omega
  | succ f =>
    simp only [PS.altLoop8] at hr
    have stop:¬ (q'.more=true∧q'.byte=124)→Q (.slice p L.length c) H2:=fun hno=>by
      rw [if_neg hno] at hr
      rw [← hr] at hk
      exact hk H2 p c h2 hx2 hn2
    unfold zqd_17
    refine more_c h2 ⟨_,rfl,sel_mk (fun hm=>?_) (fun hm=>?_)⟩
    · obtain ⟨m1,m2⟩:=PS.more_iff.1 hm
      have hbyte:byteAt q'.s q'.at_=q'.byte:=rfl
      simp only [ptr_some]
      refine h2.ldStr (h2.ldAt ⟨⟨by omega,by omega⟩,?_⟩)
      rw [sAt_nat,hbyte]
      unfold zqd_15
      refine sel_beq (fun c1=>?_) (fun c1=>?_)
      · rw [if_pos ⟨hm,by omega⟩] at hr
        unfold zqd_11
        simp only [ptr_some]
        refine h2.ldAt (h2.incS (by have:=(h2.2.2.1 m1).2; omega) (fun _=>m2) fun H3 h3 hx3=>?_)
        unfold zqd_8
        refine cat8_c hw hp h3 hd' fun H4 p4 c4 L4 q4 hq4 h4 hx4 hn4=>⟨_,_,_,rfl,?_⟩
        have hwa:=PS.cat8_wa hw q'.inc
        rw [hq4] at hwa hr
        obtain ⟨w1,w2,w3⟩:=hwa
        dsimp only at w1 w2 w3 hr
        have e1:q'.inc.at_=q'.at_+1:=rfl
        rw [e1] at w2 w3
        have e2:q4.s=q'.s:=w1.s
        have e3:q'.deep≤q4.deep:=w1.deep
        unfold zqd_5
        simp only [ptr_some]
        refine h4.ldE (sel_bne (fun he=>?_) (fun he=>?_))
        · rw [if_pos he] at hr
          rw [← hr] at hk
          exact hk H4 none 0 h4 ((hx2.trans hx3).trans hx4) (NL.nil _ _)
        rw [if_neg (by simp [he])] at hr
        have h4b:=h4.2.1
        rw [e2] at h4b
        have h2s:=h2.1
        have hl:=joinN_length 4 L L4
        unfold zqd_3
        refine join_c (L:=L) (R:=L4) (hn2.exb (hx3.trans hx4)).2.1 hn4.2.1 rfl rfl (by omega) fun H5 p5 c5 he5 hv5 hf5=>⟨_,_,_,rfl,?_⟩
        have h5:=h4.ext he5
        refine ⟨⟨f,joinN 4 L L4,q4,rfl,by rw [e2]; omega,hr,e2.trans hs',Nat.le_trans hd' e3,h5,((hx2.trans hx3).trans hx4).trans (he5.exb b),⟨rfl,hv5,fun j hj e=>by subst e; exact absurd (hf5 _ hj) (by rw [h4.2.2.2]; simp)⟩,by rw [hl]; push_cast; push_cast at w3; omega⟩,?_⟩
        rw [h5.atOf,h2.atOf]
        rw [hs'] at m2
        omega
      · unfold zqd_1
        exact stop (by intro h; omega)
    · unfold zqd_15 zqd_1
      exact sel_ff (stop (by simp [hm]))
theorem altN8_c:∀ (n d:Nat),24 < n+d→d≤24→AltC (PS.altN8 n) d
  | 0,d,h,h'=>by omega
  | n+1,d,h,h'=>alt8_c (PS.altN8_wa n) fun h2=>altN8_c n (d+1) (by omega) h2
def rParse (s:ByteArray):List Nd × Int :=
  if 128 < s.size then ([],1)
  else
    let x:=PS.altN8 25 ⟨s,0,0,0⟩
    let q1:=if x.2.e=0∧x.2.at_ < s.size then x.2.fail 83 else x.2
    let q2:=if q1.e=0∧256 < x.1.length then q1.fail 1 else q1
    if q2.e ≠ 0 then ([],q2.e) else (x.1,0)
theorem rParse_c {s:ByteArray} (hk:∀ H' p c L e,rParse s=(L,e)→L.length≤256→Ext H H'→Vec H' 7 p L.length c (flat L)→Q (.tuple #[.slice p L.length c,.int .i64 e]) H') :
    Does Pr 23 #[.string s] H Q E:=by
  refine zqa_fn _ Q E H ?_
  unfold zqa zqa_24
  refine sel_dec (fun hd=>?_) (fun hd=>?_)
  · exact hk H none 0 [] 1 (by unfold rParse; rw [if_pos (by omega)]) (by simp) (Ext.refl _) (Vec.nil _ 7)
  unfold zqa_21
  refine nw_ext fun i H1 hi he1 hc1=>?_
  have h1:PSs H1 i ⟨s,0,0,0⟩:=⟨by show s.size≤4096; omega,by show 0+0≤s.size+26; omega,fun _=>⟨by show 0≤s.size; omega,by show 0≤24; omega⟩,hc1⟩
  unfold zqa_18
  refine altN8_c 25 0 (by omega) (by omega) H1 i _ _ _ h1 (Nat.zero_le _) fun H2 p c h2 hx2 hn2=>⟨_,_,_,rfl,?_⟩
  have hR:rParse s=(let x:=PS.altN8 25 ⟨s,0,0,0⟩
    let q1:=if x.2.e=0∧x.2.at_ < s.size then x.2.fail 83 else x.2
    let q2:=if q1.e=0∧256 < x.1.length then q1.fail 1 else q1
    if q2.e ≠ 0 then ([],q2.e) else (x.1,0)):=by unfold rParse; rw [if_neg (by omega)]
  have hwa:=PS.altN8_wa 25 ⟨s,0,0,0⟩
  dsimp only at hR
  revert hwa hR h2 hn2
  generalize PS.altN8 25 ⟨s,0,0,0⟩=X
  intro h2 hn2 hR hwa
  have hxs:X.2.s=s:=hwa.mo.s
  have ext:∀ H',Exb i H2 H'→Ext H H':=fun H' hx j o hj=>by
    have hji:j ≠ i:=fun e=>by subst e; rw [hi] at hj; cases hj
    exact hx j o hji (hx2 j o hji (he1 j o hj))
  have fin3:∀ (q1 q2:PS) (H3:Heap),(if X.2.e=0∧X.2.at_ < s.size then X.2.fail 83 else X.2)=q1→(if q1.e=0∧256 < X.1.length then q1.fail 1 else q1)=q2→PSs H3 i q2→Exb i H2 H3 →
      zqa_3 Q E (some ⟨i,0,none⟩) p X.1.length c H3:=by
    intro q1 q2 H3 hq1 hq2 h3 hx3
    rw [hq1,hq2] at hR
    unfold zqa_3
    simp only [ptr_some]
    refine h3.ldE (sel_bne (fun he=>?_) (fun he=>?_))
    · rw [if_pos he] at hR
      exact h3.ldE (hk H3 none 0 [] q2.e hR (by simp) (ext _ hx3) (Vec.nil _ 7))
    · rw [if_neg (by simp [he])] at hR
      unfold zqa_1
      refine hk H3 p c X.1 0 hR ?_ (ext _ hx3) (hn2.exb hx3).2.1
      by_cases hl:256 < X.1.length
      · exfalso
        by_cases h1:q1.e=0
        · rw [if_pos ⟨h1,hl⟩] at hq2
          exact PS.fail_e q1 (by decide:(1:Int) ≠ 0) (by rw [hq2]; exact he)
        · rw [if_neg (fun h=>h1 h.1)] at hq2
          exact h1 (by rw [hq2]; exact he)
      · omega
  have fin8:∀ (q1:PS) (H3:Heap),(if X.2.e=0∧X.2.at_ < s.size then X.2.fail 83 else X.2)=q1→PSs H3 i q1→Exb i H2 H3→zqa_8 Q E (some ⟨i,0,none⟩) p X.1.length c H3:=by
    intro q1 H3 hq1 h3 hx3
    unfold zqa_8 zqa_6
    simp only [ptr_some]
    refine h3.ldE (sel_beq (fun he=>?_) (fun he=>?_))
    · refine sel_dec (fun hg=>?_) (fun hg=>?_)
      · exact pfail_c (by decide) h3 fun H4 h4 hx4=>fin3 q1 _ H4 hq1 (if_pos ⟨he,by omega⟩) h4 (hx3.trans hx4)
      · exact fin3 q1 q1 H3 hq1 (if_neg (fun h=>by omega)) h3 hx3
    · exact sel_ff (fin3 q1 q1 H3 hq1 (if_neg (fun h=>he h.1)) h3 hx3)
  unfold zqa_14 zqa_12
  simp only [ptr_some]
  refine h2.ldE (sel_beq (fun he=>?_) (fun he=>?_))
  · refine h2.ldAt (sel_dec (fun hg=>?_) (fun hg=>?_))
    · exact pfail_c (by decide) h2 fun H4 h4 hx4=>fin8 _ H4 (if_pos ⟨he,by omega⟩) h4 hx4
    · exact fin8 _ H2 (if_neg (fun h=>by omega)) h2 (Exb.refl _ _)
  · exact sel_ff (fin8 _ H2 (if_neg (fun h=>he h.1)) h2 (Exb.refl _ _))
end Go.Proofs.Ytaffcoiomggpfaa
/- The tree of a list of nodes,and what it means: the patterns of LangAlgebra. -/
namespace Go.Proofs.Ytaffcoiomggpfaa
open Go.V
attribute [local irreducible] app
set_option linter.unusedVariables false
inductive Tr where
  | nil
  | leaf (x:Nd)
  | cat (a b:Tr)
  | alt (a b:Tr)
  | star (a:Tr)
  | plus (a:Tr)
  | opt (a:Tr)
  deriving DecidableEq
def Tr.mean (t:List Nat):Tr→Nat→Nat→Prop
  | .nil,i,j=>j=i
  | .leaf x,i,j=>leafR x t i j
  | .cat a b,i,j=>∃ m,a.mean t i m∧b.mean t m j
  | .alt a b,i,j=>a.mean t i j∨b.mean t i j
  | .star a,i,j=>Star (a.mean t) i j
  | .plus a,i,j=>∃ m,a.mean t i m∧Star (a.mean t) m j
  | .opt a,i,j=>a.mean t i j∨j=i
end Go.Proofs.Ytaffcoiomggpfaa
/- A pattern in parentheses has the same nodes: the parser,one byte and one level further on. -/
namespace Go.Proofs.Ytaffcoiomggpfaa
open Go.V
attribute [local irreducible] app
set_option linter.unusedVariables false
def wrap (s:ByteArray):ByteArray:=(⟨[40].toArray⟩++s)++⟨[41].toArray⟩
theorem wrap_data (s:ByteArray):(wrap s).data.toList=40 :: (s.data.toList++[41]):=by
  unfold wrap; rw [ByteArray.data_append,ByteArray.data_append]; simp
theorem wrap_size (s:ByteArray):(wrap s).size=s.size+2:=by
  rw [← ByteArray.size_data,← Array.length_toList,wrap_data]; simp [← ByteArray.size_data]
theorem byteAt_list (s:ByteArray) (i:Nat):byteAt s i=((s.data.toList[i]?).getD 0).toNat:=by
  unfold byteAt
  simp
theorem wrap_in (s:ByteArray) {i:Nat} (h:i < s.size):byteAt (wrap s) (i+1)=byteAt s i:=by
  rw [byteAt_list,byteAt_list,wrap_data,List.getElem?_cons_succ,List.getElem?_append_left (by simpa [← ByteArray.size_data] using h)]
theorem wrap_end (s:ByteArray):byteAt (wrap s) (s.size+1)=41:=by
  rw [byteAt_list,wrap_data,List.getElem?_cons_succ,List.getElem?_append_right (by simp [← ByteArray.size_data])]
  simp [← ByteArray.size_data]
def shr (r:RP):RP:={ s:=wrap r.s,at_:=r.at_+1,op:=r.op+1,nds:=r.nds,e:=r.e }
theorem sh_next (r:RP) (h:r.at_≤r.s.size):(shr r).next=r.next∨r.next=(0,false)∧(shr r).next=(41,true):=by
  unfold RP.next
  have hs:(shr r).s.size=r.s.size+2:=wrap_size r.s
  have ha:(shr r).at_=r.at_+1:=rfl
  have he:(shr r).e=r.e:=rfl
  by_cases h1:r.e ≠ 0
  · left; rw [if_pos (.inl (by rw [he]; exact h1)),if_pos (.inl h1)]
  · by_cases h2:r.s.size≤r.at_
    · right
      have h3:r.at_=r.s.size:=by omega
      refine ⟨if_pos (.inr h2),?_⟩
      rw [if_neg (by rw [he,hs,ha]; omega)]
      rw [ha,h3]; exact congrArg (·,true) (wrap_end r.s)
    · left
      rw [if_neg (by rw [he,hs,ha]; omega),if_neg (by omega),ha]
      exact congrArg (·,true) (wrap_in r.s (by omega))
theorem sh_next_some {r:RP} (h:r.at_≤r.s.size) {c:Nat} (hn:r.next=(c,true)):(shr r).next=(c,true):=by
  rcases sh_next r h with h | ⟨h,_⟩
  · rw [h,hn]
  · rw [h] at hn; cases hn
theorem sh_next_is {r:RP} (h:r.at_≤r.s.size) {c:Nat} (hc:c ≠ 41):(shr r).next=(c,true)↔r.next=(c,true):=by
  rcases sh_next r h with h | ⟨h,h'⟩
  · rw [h]
  · rw [h,h']; constructor
    · intro h; cases h; exact absurd rfl hc
    · intro h; cases h
theorem fail_ne (r:RP) {e:Int} (he:e ≠ 0) (h:(r.fail e).e=0):False:=RP.fail_e r he h
theorem escape_sh {r:RP} (h:r.at_ < r.s.size) (h0:r.escape.2.e=0):(shr r).escape=(r.escape.1,shr r.escape.2)∧r.escape.2.at_≤r.s.size:=by
  unfold RP.escape at h0 ⊢
  have hi:(shr r).inc=shr r.inc:=rfl
  rw [hi]
  cases hn:r.inc.next with
  | mk c k =>
    rw [hn] at h0
    cases k with
    | false=>exact (fail_ne _ (by decide) h0).elim
    | true =>
      obtain ⟨_,g2,_⟩:=RP.next_some hn
      rw [sh_next_some (r:=r.inc) (by simp only [RP.inc]; omega) hn]
      dsimp only at h0 ⊢
      cases hm:named c with
      | mk s k =>
        rw [hm] at h0
        cases k with
        | true=>exact ⟨rfl,g2⟩
        | false =>
          dsimp only at h0 ⊢
          cases hs:single c with
          | mk n k =>
            rw [hs] at h0
            cases k with
            | true=>exact ⟨rfl,g2⟩
            | false=>exact (fail_ne r.inc.inc (e:=82) (by decide) h0).elim
theorem member_sh {r:RP} (h:r.at_≤r.s.size) (h0:r.member.2.e=0):(shr r).member=(r.member.1,shr r.member.2)∧r.member.2.at_≤r.s.size:=by
  unfold RP.member at h0 ⊢
  cases hn:r.next with
  | mk c k =>
    rw [hn] at h0
    cases k with
    | false=>exact (fail_ne _ (by decide) h0).elim
    | true =>
      obtain ⟨_,g2,_⟩:=RP.next_some hn
      rw [sh_next_some h hn]
      dsimp only at h0 ⊢
      by_cases h1:c=93∨c=94∨c=45
      · rw [if_pos h1] at h0; exact (fail_ne _ (by decide) h0).elim
      · rw [if_neg h1] at h0 ⊢
        rw [if_neg h1]
        by_cases h2:c=92
        · rw [if_pos h2] at h0 ⊢; rw [if_pos h2]; exact escape_sh g2 h0
        · rw [if_neg h2,if_neg h2]; exact ⟨rfl,g2⟩
theorem RP.Le.ok {a b:RP} (h:a.Le b) (hb:b.e=0):a.e=0:=by
  by_cases ha:a.e=0
  · exact ha
  · have:=h.e ha; omega
theorem Up.ok {a b:RP} {d:Int} {m:Nat} (h:Up a b d m) (hb:b.e=0):a.e=0:=by
  by_cases ha:a.e=0
  · exact ha
  · have:=h.e ha; omega
theorem elem_sh {r:RP} {first:Nat} {set:S4} {many:Bool} (h:r.at_≤r.s.size) (h0:(r.elem first set many).2.e=0) :
    (shr r).elem first set many=((r.elem first set many).1,shr (r.elem first set many).2)∧(r.elem first set many).2.at_≤r.s.size:=by
  unfold RP.elem at h0 ⊢
  by_cases hn:r.next=(45,true)
  · rw [if_pos hn] at h0 ⊢
    rw [if_pos ((sh_next_is h (by decide)).2 hn)]
    obtain ⟨_,g2,_⟩:=RP.next_some hn
    cases many with
    | true =>
      rw [if_pos rfl] at h0
      have hl:(r.inc.fail 80).Le _:=(member_le (x:=(r.inc.fail 80).member.1) (r':=(r.inc.fail 80).member.2) rfl).1
      have he:=RP.fail_e r.inc (e:=80) (by decide)
      have he2:(r.inc.fail 80).member.2.e ≠ 0:=by rw [hl.e he]; exact he
      dsimp only at h0
      split at h0
      · exact (fail_ne _ (by decide) h0).elim
      · exact absurd h0 he2
    | false =>
      rw [if_neg (by decide)] at h0 ⊢
      rw [if_neg (by decide)]
      dsimp only at h0 ⊢
      by_cases hb:r.inc.member.1.2.2=true∨r.inc.member.1.1 < first
      · rw [if_pos hb] at h0; exact (fail_ne _ (by decide) h0).elim
      · rw [if_neg hb] at h0 ⊢
        have hi:(shr r).inc=shr r.inc:=rfl
        obtain ⟨e1,e2⟩:=member_sh (r:=r.inc) g2 h0
        rw [hi,e1]
        exact ⟨by dsimp only; rw [if_neg hb],e2⟩
  · rw [if_neg hn,if_neg (fun h'=>hn ((sh_next_is h (by decide)).1 h'))]
    exact ⟨rfl,h⟩
theorem classLoop_sh:∀ (f f':Nat) (x:Bool) (out:S4) (r:RP),r.at_≤r.s.size→r.s.size < f+r.at_→r.s.size < f'+r.at_→(r.classLoop f x out).2.e=0 →
    (shr r).classLoop f' x out=((r.classLoop f x out).1,shr (r.classLoop f x out).2)∧(r.classLoop f x out).2.at_≤r.s.size
  | 0,_,_,_,r,h,hf,_,_=>absurd hf (by omega)
  | _,0,_,_,r,h,_,hf,_=>absurd hf (by omega)
  | f+1,f'+1,x,out,r,h,hf,hf',h0=>by
    unfold RP.classLoop at h0 ⊢
    by_cases hn:r.next=(93,true)∧x=true
    · rw [if_pos hn,if_pos ⟨(sh_next_is h (by decide)).2 hn.1,hn.2⟩]
      obtain ⟨_,g2,_⟩:=RP.next_some hn.1
      exact ⟨rfl,g2⟩
    · rw [if_neg hn] at h0 ⊢
      rw [if_neg (fun h'=>hn ⟨(sh_next_is h (by decide)).1 h'.1,h'.2⟩)]
      dsimp only at h0 ⊢
      by_cases hb:(r.member.2.elem r.member.1.1 r.member.1.2.1 r.member.1.2.2).2.e ≠ 0
      · rw [if_pos hb] at h0; exact absurd h0 hb
      · have hb':(r.member.2.elem r.member.1.1 r.member.1.2.1 r.member.1.2.2).2.e=0:=by omega
        rw [if_neg hb] at h0 ⊢
        have hl:r.member.2.Le (r.member.2.elem r.member.1.1 r.member.1.2.1 r.member.1.2.2).2:=elem_le (r1:=r.member.2) (first:=r.member.1.1) (set:=r.member.1.2.1) (many:=r.member.1.2.2) (set':=(r.member.2.elem r.member.1.1 r.member.1.2.1 r.member.1.2.2).1) rfl
        have hm:r.Le r.member.2∧(r.member.2.e=0→r.at_ < r.member.2.at_):=member_le (r:=r) (x:=r.member.1) rfl
        obtain ⟨e1,e2⟩:=member_sh h (hl.ok hb')
        rw [e1]
        dsimp only
        obtain ⟨e3,e4⟩:=elem_sh (r:=r.member.2) (by rw [hm.1.s]; exact e2) hb'
        rw [e3]
        dsimp only
        rw [if_neg (show ¬ (shr (r.member.2.elem r.member.1.1 r.member.1.2.1 r.member.1.2.2).2).e ≠ 0 from hb)]
        have hs:=hl.s.trans hm.1.s
        have hat:=Nat.lt_of_lt_of_le (hm.2 (hl.ok hb')) hl.at_
        have ih:=classLoop_sh f f' true (out.or (r.member.2.elem r.member.1.1 r.member.1.2.1 r.member.1.2.2).1) (r.member.2.elem r.member.1.1 r.member.1.2.1 r.member.1.2.2).2
          (by rw [hl.s]; exact e4) (by rw [hs]; omega) (by rw [hs]; omega) h0
        rw [hs] at ih
        exact ih
theorem class_sh {r:RP} (h:r.at_≤r.s.size) (h0:r.class.2.e=0):(shr r).class=(r.class.1,shr r.class.2)∧r.class.2.at_≤r.s.size:=by
  have h9:(shr r).next.1=94↔r.next.1=94:=by
    rcases sh_next r h with h | ⟨h,h'⟩
    · rw [h]
    · rw [h,h']; decide
  have h1:(if (shr r).next.1=94 then (shr r).inc else shr r)=shr (if r.next.1=94 then r.inc else r):=by
    by_cases hc:r.next.1=94
    · rw [if_pos hc,if_pos (h9.2 hc)]; rfl
    · rw [if_neg hc,if_neg (fun h=>hc (h9.1 h))]
  have h2:(if r.next.1=94 then r.inc else r).at_≤r.s.size∧(if r.next.1=94 then r.inc else r).s=r.s∧r.at_≤(if r.next.1=94 then r.inc else r).at_:=by
    split
    · rename_i hc
      have hk:r.next=(94,true):=by
        cases hn:r.next with
        | mk c k =>
          rw [hn] at hc
          cases k with
          | true=>exact congrArg (·,true) hc
          | false=>exact absurd ((RP.next_none hn).1.symm.trans hc) (by decide)
      obtain ⟨_,g2,_⟩:=RP.next_some hk
      exact ⟨g2,rfl,Nat.le_succ _⟩
    · exact ⟨h,rfl,Nat.le_refl _⟩
  have hco:∀ (c c':Nat) (R:(S4 × Bool) × RP) (g:RP→RP),(c'=94↔c=94)→classOut c' (R.1,g R.2)=((classOut c R).1,g (classOut c R).2):=by
    intro c c' R g hcc
    obtain ⟨⟨o,k⟩,r'⟩:=R
    cases k
    · rfl
    · show ((if c'=94 then o.not else o,g r'):S4 × RP)=(if c=94 then o.not else o,g r')
      by_cases hc:c=94
      · rw [if_pos hc,if_pos (hcc.2 hc)]
      · rw [if_neg hc,if_neg (fun h=>hc (hcc.1 h))]
  have hc2:∀ (c:Nat) (R:(S4 × Bool) × RP),(classOut c R).2=R.2:=fun c R=>by obtain ⟨⟨o,k⟩,r'⟩:=R; cases k <;> rfl
  unfold RP.class at h0 ⊢
  rw [h1]
  rw [hc2] at h0 ⊢
  obtain ⟨a1,a2,a3⟩:=h2
  have hs:(shr r).s.size=r.s.size+2:=wrap_size r.s
  obtain ⟨e1,e2⟩:=classLoop_sh (r.s.size+1) ((shr r).s.size+1) false S4.zero (if r.next.1=94 then r.inc else r) (by rw [a2]; exact a1) (by rw [a2]; omega) (by rw [a2,hs]; omega) h0
  rw [e1]
  exact ⟨(hco _ _ _ shr h9).trans (by rw [hc2]),by rw [a2] at e2; exact e2⟩
end Go.Proofs.Ytaffcoiomggpfaa
/- The two parsers of patterns find the same: escapes and classes. -/
namespace Go.Proofs.Ytaffcoiomggpfaa
open Go.V
attribute [local irreducible] app
set_option linter.unusedVariables false
/-! ### Sets -/
theorem with1_256:(List.range 256).all (fun c=>decide ((S4.zero.with1 c).with1 c=S4.zero.with1 c) && decide (only8 (S4.zero.with1 c)=c))=true:=by decide +kernel
theorem with1_twice {c:Nat} (h:c≤255):(S4.zero.with1 c).with1 c=S4.zero.with1 c:=by
  have:=List.all_eq_true.1 with1_256 c (List.mem_range.2 (by omega))
  simp only [Bool.and_eq_true,decide_eq_true_eq] at this; exact this.1
theorem only_with1 {c:Nat} (h:c≤255):only8 (S4.zero.with1 c)=c:=by
  have:=List.all_eq_true.1 with1_256 c (List.mem_range.2 (by omega))
  simp only [Bool.and_eq_true,decide_eq_true_eq] at this; exact this.2
theorem with_self (s:S4) (c:Nat):s.with_ c c=s.with1 c:=by
  unfold S4.with_; rw [show c+1 - c=1 by omega]; rfl
theorem withN_first (s:S4) (f:Nat) (h:(s.with1 f).with1 f=s.with1 f):∀ n,(s.with1 f).withN f (n+1)=s.withN f (n+1)
  | 0=>h
  | n+1=>by
    have:=withN_first s f h n
    show ((s.with1 f).withN f (n+1)).with1 _=(s.withN f (n+1)).with1 _
    rw [this]
theorem with_range {f l:Nat} (hf:f≤255) (hl:f≤l):(S4.zero.with1 f).with_ f l=S4.zero.with_ f l:=by
  unfold S4.with_
  rw [show l+1 - f=(l - f)+1 by omega]
  exact withN_first _ _ (with1_twice hf) _
def esc (c:Nat):Nat × S4 × Bool × Bool:=match named c with
  | (s,true)=>(0,s,true,true)
  | (_,false)=>match single c with
    | (n,k)=>(n,S4.zero.with_ n n,false,k)
def escOk (c:Nat):Bool :=
  let x:=esc c
  let y:=named8 c
  decide (x.2.2.2=y.2.2) && (!y.2.2 || decide (x.2.1=y.1) && decide (y.2.1=!x.2.2.1) && (x.2.2.1 || decide (x.2.1=S4.zero.with1 x.1) && decide (x.1≤255)))
theorem esc_256:(List.range 256).all escOk=true:=by decide +kernel
theorem esc_eq {c:Nat} (h:c≤255):(esc c).2.2.2=(named8 c).2.2∧((named8 c).2.2=true→(esc c).2.1=(named8 c).1∧(named8 c).2.1=!(esc c).2.2.1∧((esc c).2.2.1=false→(esc c).2.1=S4.zero.with1 (esc c).1∧(esc c).1≤255)):=by
  have:=List.all_eq_true.1 esc_256 c (List.mem_range.2 (by omega))
  unfold escOk at this
  simp only [Bool.and_eq_true,decide_eq_true_eq,Bool.or_eq_true,Bool.not_eq_true'] at this
  refine ⟨this.1,fun hy=>?_⟩
  rcases this.2 with h | ⟨⟨h1,h2⟩,h3⟩
  · rw [hy] at h; cases h
  · refine ⟨h1,h2,fun hm=>?_⟩
    rcases h3 with h3 | h3
    · rw [hm] at h3; cases h3
    · exact h3
theorem escape_esc (r:RP):r.escape=(match r.inc.next with
  | (c,false)=>((0,S4.zero,false),r.inc.fail 82)
  | (c,true)=>(((esc c).1,(esc c).2.1,(esc c).2.2.1),if (esc c).2.2.2=true then r.inc.inc else r.inc.inc.fail 82)):=by
  unfold RP.escape
  cases r.inc.next with
  | mk c k =>
    cases k with
    | false=>rfl
    | true =>
      dsimp only
      unfold esc
      cases named c with
      | mk s k =>
        cases k with
        | true=>rfl
        | false=>rfl
/-! ### The two states -/
structure Al (r:RP) (q:PS):Prop where
  s:r.s=q.s
  e:r.e=q.e
  at_:r.e=0→r.at_=q.at_
theorem Al.more {r:RP} {q:PS} (h:Al r q):r.next=(if q.more=true then (q.byte,true) else (0,false)):=by
  unfold RP.next PS.more PS.byte
  by_cases he:r.e=0
  · have:=h.at_ he
    have h2:=h.e
    rw [h.s,this]
    by_cases hlt:q.at_ < q.s.size
    · rw [if_neg (by omega),if_pos (by simp; omega)]
    · rw [if_pos (by omega),if_neg (by simp; omega)]
  · have h2:=h.e
    rw [if_pos (.inl he),if_neg (by simp; omega)]
theorem Al.inc {r:RP} {q:PS} (h:Al r q):Al r.inc q.inc:=⟨h.s,h.e,fun he=>congrArg (·+1) (h.at_ he)⟩
theorem Al.fail {r:RP} {q:PS} (h:Al r q) (e:Int) (he:e ≠ 0):Al (r.fail e) (q.fail e):=by
  unfold RP.fail PS.fail
  have h2:=h.e
  by_cases hr:r.e=0
  · rw [if_pos hr,if_pos (by omega)]; exact ⟨h.s,rfl,fun h'=>absurd h' he⟩
  · rw [if_neg hr,if_neg (by omega)]; exact h
theorem Al.err {r:RP} {q:PS} (hs:r.s=q.s) (he:r.e=q.e) (hn:r.e ≠ 0):Al r q:=⟨hs,he,fun h=>absurd h hn⟩
theorem Al.failInc {r:RP} {q:PS} (h:Al r q) (e:Int) (he:e ≠ 0):Al (r.fail e) (q.inc.fail e):=by
  unfold RP.fail PS.fail
  have h2:=h.e
  by_cases hr:r.e=0
  · rw [if_pos hr,if_pos (show q.inc.e=0 from by simp only [PS.inc]; omega)]; exact ⟨h.s,rfl,fun h'=>absurd h' he⟩
  · rw [if_neg hr,if_neg (show ¬ q.inc.e=0 from by simp only [PS.inc]; omega)]; exact ⟨h.s,h.e,fun h'=>absurd h' hr⟩
theorem Al.failInc' {r:RP} {q:PS} (h:Al r q) (e:Int) (he:e ≠ 0):Al (r.fail e) (q.fail e).inc:=by
  have:=h.fail e he
  have hn:(r.fail e).e ≠ 0:=RP.fail_e r he
  exact ⟨this.s,this.e,fun h'=>absurd h' hn⟩
theorem byte_le (q:PS):q.byte≤255:=byteAt_le _ _
theorem escape_al {r:RP} {q:PS} (h:Al r q) (h0:r.e=0):Al r.escape.2 q.inc.escape8.2.2 ∧
    (r.escape.2.e=0→r.escape.1.2.1=q.inc.escape8.1∧q.inc.escape8.2.1=!r.escape.1.2.2∧(r.escape.1.2.2=false→r.escape.1.2.1=S4.zero.with1 r.escape.1.1∧r.escape.1.1≤255)):=by
  have hi:=h.inc
  have hm:=hi.more
  have hie:q.inc.e=0:=by rw [← hi.e]; exact h0
  rw [escape_esc,hm]
  unfold PS.escape8
  by_cases hlt:q.inc.at_ < q.inc.s.size
  · rw [if_pos (PS.more_iff.2 ⟨hie,hlt⟩),if_neg (by omega)]
    dsimp only
    obtain ⟨e1,e2⟩:=esc_eq (byte_le q.inc)
    generalize hx:esc q.inc.byte=x at e1 e2
    generalize hy:named8 q.inc.byte=y at e1 e2
    obtain ⟨n,s,m,k⟩:=x
    obtain ⟨s',o,k'⟩:=y
    dsimp only at e1 e2
    subst e1
    cases k with
    | true=>exact ⟨hi.inc,fun _=>e2 rfl⟩
    | false =>
      refine ⟨?_,fun h'=>absurd h' (RP.fail_e r.inc.inc (by decide))⟩
      show Al (r.inc.inc.fail 82) (q.inc.fail 82).inc
      have:=hi.failInc' (e:=82) (by decide)
      refine Al.err (by rw [(fail_op _ _).2.2.2,← this.s,(fail_op _ _).2.2.2]; rfl) ?_ (RP.fail_e _ (by decide))
      rw [← this.e]; unfold RP.fail
      rw [if_pos (show r.inc.inc.e=0 from h0),if_pos (show r.inc.e=0 from h0)]
  · rw [if_neg (fun h=>hlt (PS.more_iff.1 h).2),if_pos (by omega)]
    exact ⟨hi.fail 82 (by decide),fun h'=>absurd h' (RP.fail_e r.inc (by decide))⟩
theorem member_al {r:RP} {q:PS} (h:Al r q) (h0:r.e=0) (hlt:q.at_ < q.s.size):Al r.member.2 q.single8.2.2 ∧
    (r.member.2.e=0→r.member.1.2.1=q.single8.1∧q.single8.2.1=!r.member.1.2.2∧(r.member.1.2.2=false→r.member.1.2.1=S4.zero.with1 r.member.1.1∧r.member.1.1≤255)):=by
  have hm:=h.more
  rw [if_pos (PS.more_iff.2 ⟨by rw [← h.e]; exact h0,hlt⟩)] at hm
  have hb:=byte_le q
  unfold RP.member PS.single8
  rw [hm]
  dsimp only
  by_cases c1:q.byte=93∨q.byte=94∨q.byte=45
  · rw [if_pos c1,if_neg (by omega),if_pos (by omega)]
    exact ⟨h.failInc 80 (by decide),fun h'=>absurd h' (RP.fail_e r (by decide))⟩
  · rw [if_neg c1]
    by_cases c2:q.byte=92
    · rw [if_pos c2,if_pos c2]; exact escape_al h h0
    · rw [if_neg c2,if_neg c2,if_neg (by omega)]
      exact ⟨h.inc,fun _=>⟨with_self _ _,rfl,fun _=>⟨with_self _ _,hb⟩⟩⟩
theorem element_al {r:RP} {q:PS} (h:Al r q) (h0:r.e=0) (hlt:q.at_ < q.s.size) :
    Al (r.member.2.elem r.member.1.1 r.member.1.2.1 r.member.1.2.2).2 q.element8.2∧((r.member.2.elem r.member.1.1 r.member.1.2.1 r.member.1.2.2).2.e=0→(r.member.2.elem r.member.1.1 r.member.1.2.1 r.member.1.2.2).1=q.element8.1):=by
  obtain ⟨a1,a2⟩:=member_al h h0 hlt
  unfold PS.element8
  generalize r.member=X at a1 a2
  generalize q.single8=Y at a1 a2
  obtain ⟨⟨f,set,many⟩,r1⟩:=X
  obtain ⟨a,one,q1⟩:=Y
  dsimp only at a1 a2 ⊢
  have hm:=a1.more
  unfold RP.elem
  by_cases hc:q1.more=true∧q1.byte=45
  · rw [if_pos hc]
    rw [if_pos hc.1,hc.2] at hm
    rw [if_pos hm]
    obtain ⟨g1,g2⟩:=PS.more_iff.1 hc.1
    have r0:r1.e=0:=by rw [a1.e]; exact g1
    obtain ⟨b1,b2,b3⟩:=a2 r0
    subst b1 b2
    cases many with
    | true =>
      rw [if_pos (show (!true)=false∨q1.s.size≤q1.at_+1 from Or.inl rfl)]
      rw [show (if (true=true) then r1.inc.fail 80 else r1.inc)=r1.inc.fail 80 from if_pos rfl]
      have hal:=a1.inc.fail 80 (by decide)
      have hne:=RP.fail_e r1.inc (e:=80) (by decide)
      have hl:(r1.inc.fail 80).Le (r1.inc.fail 80).member.2:=(member_le (x:=(r1.inc.fail 80).member.1) rfl).1
      have e1:(r1.inc.fail 80).member.2.e=(r1.inc.fail 80).e:=hl.e hne
      have hne2:(r1.inc.fail 80).member.2.e ≠ 0:=by rw [e1]; exact hne
      have e2:∀ c:Prop,∀ _:Decidable c,(if c then (r1.inc.fail 80).member.2.fail 80 else (r1.inc.fail 80).member.2).e=(r1.inc.fail 80).e∧(if c then (r1.inc.fail 80).member.2.fail 80 else (r1.inc.fail 80).member.2).s=(r1.inc.fail 80).s:=by
        intro c _
        by_cases hc:c
        · rw [if_pos hc]; unfold RP.fail at hne2 e1 ⊢; rw [if_neg hne2]; exact ⟨e1,hl.s⟩
        · rw [if_neg hc]; exact ⟨e1,hl.s⟩
      dsimp only
      obtain ⟨e3,e4⟩:=e2 ((r1.inc.fail 80).member.1.2.2=true∨(r1.inc.fail 80).member.1.1 < f) inferInstance
      exact ⟨Al.err (e4.trans hal.s) (e3.trans hal.e) (by rw [e3]; exact hne),fun h'=>absurd h' (by rw [e3]; exact hne)⟩
    | false =>
      rw [show (if (false=true) then r1.inc.fail 80 else r1.inc)=r1.inc from if_neg (by decide)]
      by_cases hend:q1.s.size≤q1.at_+1
      · rw [if_pos (.inr hend)]
        have hn:r1.inc.next=(0,false):=by
          rw [a1.inc.more,if_neg (fun h=>by have:=(PS.more_iff.1 h).2; simp only [PS.inc] at this; omega)]
        have hmem:r1.inc.member=((0,S4.zero,false),r1.inc.fail 80):=by unfold RP.member; rw [hn]
        rw [hmem]
        dsimp only
        have hne:=RP.fail_e r1.inc (e:=80) (by decide)
        have hff:(r1.inc.fail 80).fail 80=r1.inc.fail 80:=by
          conv=>lhs; unfold RP.fail
          exact if_neg hne
        rw [hff,ite_self]
        exact ⟨a1.inc.fail 80 (by decide),fun h'=>absurd h' hne⟩
      · rw [if_neg (by rintro (h | h); · exact absurd h (by decide)
                       · exact hend h)]
        obtain ⟨k1,k2⟩:=member_al a1.inc r0 (by simp only [PS.inc]; omega)
        have hml:r1.inc.Le r1.inc.member.2:=(member_le (x:=r1.inc.member.1) rfl).1
        generalize r1.inc.member=Z at k1 k2 hml
        generalize q1.inc.single8=W at k1 k2
        obtain ⟨⟨last,s2,many2⟩,r4⟩:=Z
        obtain ⟨b,two,q3⟩:=W
        dsimp only at k1 k2 ⊢
        by_cases he:r4.e=0
        · obtain ⟨c1,c2,c3⟩:=k2 he
          subst c1 c2
          have he3:q3.e=0:=by rw [← k1.e]; exact he
          obtain ⟨d1,d2⟩:=b3 rfl
          subst d1
          rw [only_with1 d2]
          cases many2 with
          | true =>
            rw [if_pos (.inl rfl),if_pos ⟨he3,.inl rfl⟩]
            exact ⟨k1.fail 80 (by decide),fun h'=>absurd h' (RP.fail_e r4 (by decide))⟩
          | false =>
            obtain ⟨d3,d4⟩:=c3 rfl
            subst d3
            rw [only_with1 d4]
            by_cases hlf:last < f
            · rw [if_pos (.inr hlf),if_pos ⟨he3,.inr hlf⟩]
              exact ⟨k1.fail 80 (by decide),fun h'=>absurd h' (RP.fail_e r4 (by decide))⟩
            · rw [if_neg (by rintro (h | h); · exact absurd h (by decide)
                             · exact hlf h), if_neg (by rintro ⟨_, h | h⟩; · exact absurd h (by decide)
                                                        · exact hlf h)]
              exact ⟨k1,fun _=>with_range d2 (by omega)⟩
        · have he3:¬ q3.e=0:=by rw [← k1.e]; exact he
          have hrf:∀ c:Prop,∀ _:Decidable c,(if c then r4.fail 80 else r4)=r4:=by
            intro c _
            by_cases hc:c
            · rw [if_pos hc]; unfold RP.fail; rw [if_neg he]
            · rw [if_neg hc]
          rw [hrf,if_neg (fun h=>he3 h.1)]
          exact ⟨k1,fun h'=>absurd h' he⟩
  · rw [if_neg hc]
    have hn:¬ r1.next=(45,true):=by
      intro hn
      rw [hn] at hm
      by_cases hq:q1.more=true
      · rw [if_pos hq] at hm; exact hc ⟨hq,(Prod.mk.inj hm).1.symm⟩
      · rw [if_neg hq] at hm; exact absurd (Prod.mk.inj hm).2 (by decide)
    rw [if_neg hn]
    exact ⟨a1,fun h'=>(a2 h').1⟩
theorem classLoop8_e:∀ (f:Nat) (neg:Bool) (n:Nat) (s:S4) (q:PS),q.e ≠ 0→(PS.classLoop8 f neg n s q).2.e=q.e∧(PS.classLoop8 f neg n s q).2.s=q.s
  | 0,_,_,_,q,h=>⟨rfl,rfl⟩
  | f+1,neg,n,s,q,h=>by
    unfold PS.classLoop8
    rw [if_neg (fun hm=>h (PS.more_iff.1 hm).1)]
    unfold PS.fail; rw [if_neg h]; exact ⟨rfl,rfl⟩
theorem classLoop_al (neg:Bool):∀ (f f' n:Nat) (some_:Bool) (s:S4) (r:RP) (q:PS),Al r q→r.e=0→(some_=true↔n ≠ 0)→q.at_≤q.s.size→q.s.size < f+q.at_→q.s.size < f'+q.at_ →
    Al (r.classLoop f some_ s).2 (PS.classLoop8 f' neg n s q).2∧((r.classLoop f some_ s).2.e=0→(r.classLoop f some_ s).1.2=true∧(PS.classLoop8 f' neg n s q).1=(if neg=true then (r.classLoop f some_ s).1.1.not else (r.classLoop f some_ s).1.1))
  | 0,_,_,_,_,_,_,_,_,_,h,hf,_=>absurd hf (by omega)
  | _,0,_,_,_,_,_,_,_,_,h,_,hf=>absurd hf (by omega)
  | f+1,f'+1,n,some_,s,r,q,h,h0,hs,hat,hf,hf'=>by
    have hm:=h.more
    have hq0:q.e=0:=by rw [← h.e]; exact h0
    unfold RP.classLoop PS.classLoop8
    by_cases hlt:q.at_ < q.s.size
    · have hmo:q.more=true:=PS.more_iff.2 ⟨hq0,hlt⟩
      rw [if_pos hmo] at hm ⊢
      have main:¬ (r.next=(93,true)∧some_=true)→q.byte ≠ 93 →
          Al (if (r.member.2.elem r.member.1.1 r.member.1.2.1 r.member.1.2.2).2.e ≠ 0 then ((S4.zero,false),(r.member.2.elem r.member.1.1 r.member.1.2.1 r.member.1.2.2).2) else RP.classLoop f true (s.or (r.member.2.elem r.member.1.1 r.member.1.2.1 r.member.1.2.2).1) (r.member.2.elem r.member.1.1 r.member.1.2.1 r.member.1.2.2).2).2
            (PS.classLoop8 f' neg (n+1) (s.or q.element8.1) q.element8.2).2 ∧
          ((if (r.member.2.elem r.member.1.1 r.member.1.2.1 r.member.1.2.2).2.e ≠ 0 then ((S4.zero,false),(r.member.2.elem r.member.1.1 r.member.1.2.1 r.member.1.2.2).2) else RP.classLoop f true (s.or (r.member.2.elem r.member.1.1 r.member.1.2.1 r.member.1.2.2).1) (r.member.2.elem r.member.1.1 r.member.1.2.1 r.member.1.2.2).2).2.e=0 →
            (if (r.member.2.elem r.member.1.1 r.member.1.2.1 r.member.1.2.2).2.e ≠ 0 then ((S4.zero,false),(r.member.2.elem r.member.1.1 r.member.1.2.1 r.member.1.2.2).2) else RP.classLoop f true (s.or (r.member.2.elem r.member.1.1 r.member.1.2.1 r.member.1.2.2).1) (r.member.2.elem r.member.1.1 r.member.1.2.1 r.member.1.2.2).2).1.2=true ∧
            (PS.classLoop8 f' neg (n+1) (s.or q.element8.1) q.element8.2).1=(if neg=true then (if (r.member.2.elem r.member.1.1 r.member.1.2.1 r.member.1.2.2).2.e ≠ 0 then ((S4.zero,false),(r.member.2.elem r.member.1.1 r.member.1.2.1 r.member.1.2.2).2) else RP.classLoop f true (s.or (r.member.2.elem r.member.1.1 r.member.1.2.1 r.member.1.2.2).1) (r.member.2.elem r.member.1.1 r.member.1.2.1 r.member.1.2.2).2).1.1.not
              else (if (r.member.2.elem r.member.1.1 r.member.1.2.1 r.member.1.2.2).2.e ≠ 0 then ((S4.zero,false),(r.member.2.elem r.member.1.1 r.member.1.2.1 r.member.1.2.2).2) else RP.classLoop f true (s.or (r.member.2.elem r.member.1.1 r.member.1.2.1 r.member.1.2.2).1) (r.member.2.elem r.member.1.1 r.member.1.2.1 r.member.1.2.2).2).1.1)):=by
        intro _ _
        obtain ⟨e1,e2⟩:=element_al h h0 hlt
        have hml:r.Le r.member.2∧_:=member_le (x:=r.member.1) rfl
        have hel:r.member.2.Le (r.member.2.elem r.member.1.1 r.member.1.2.1 r.member.1.2.2).2:=elem_le (r1:=r.member.2) (first:=r.member.1.1) (set:=r.member.1.2.1) (many:=r.member.1.2.2) (set':=(r.member.2.elem r.member.1.1 r.member.1.2.1 r.member.1.2.2).1) rfl
        have hmo:=PS.element8_mo q
        have hra:(r.member.2.elem r.member.1.1 r.member.1.2.1 r.member.1.2.2).2.e=0→(r.member.2.elem r.member.1.1 r.member.1.2.1 r.member.1.2.2).2.at_≤r.s.size:=fun h5=>by
          have h6:=(member_sh (r:=r) (by rw [h.s,h.at_ h0]; exact hat) (hel.ok h5)).2
          have:=(elem_sh (r:=r.member.2) (first:=r.member.1.1) (set:=r.member.1.2.1) (many:=r.member.1.2.2) (by rw [hml.1.s]; exact h6) h5).2
          rw [hml.1.s] at this; exact this
        generalize r.member.2.elem r.member.1.1 r.member.1.2.1 r.member.1.2.2=X at e1 e2 hel hra
        generalize q.element8=Y at e1 e2 hmo
        obtain ⟨set',r5⟩:=X
        obtain ⟨x,q1⟩:=Y
        dsimp only at e1 e2 hmo hel hra ⊢
        by_cases he:r5.e ≠ 0
        · rw [if_pos he]
          obtain ⟨k1,k2⟩:=classLoop8_e f' neg (n+1) (s.or x) q1 (by rw [← e1.e]; exact he)
          exact ⟨Al.err (by rw [k2]; exact e1.s) (by rw [k1]; exact e1.e) he,fun h'=>absurd h' he⟩
        · rw [if_neg he]
          have he:r5.e=0:=by omega
          have:=e2 he
          subst this
          have hqs:=hmo.1.s
          have hqa:q1.at_≤q1.s.size:=by
            have:=hra he
            rw [hqs,← h.s,← e1.at_ he]; exact this
          exact classLoop_al neg f f' (n+1) true _ r5 q1 e1 he (by simp) hqa (by rw [hqs]; have:=hmo.2; omega) (by rw [hqs]; have:=hmo.2; omega)
      by_cases hb:q.byte=93
      · rw [if_pos hb]
        cases some_ with
        | true =>
          have hn0:n ≠ 0:=hs.1 rfl
          rw [if_pos ⟨by rw [hm,hb],rfl⟩,if_neg hn0]
          exact ⟨h.inc,fun _=>⟨rfl,rfl⟩⟩
        | false =>
          have hn0:n=0:=by
            by_cases hn:n=0
            · exact hn
            · exact absurd (hs.2 hn) (by decide)
          rw [if_neg (fun h=>absurd h.2 (by decide)),if_pos hn0]
          have hmem:r.member=((0,S4.zero,false),r.fail 80):=by
            unfold RP.member; rw [hm]; dsimp only; rw [if_pos (.inl hb)]
          have hne:=RP.fail_e r (e:=80) (by decide)
          have hel:(r.fail 80).elem 0 S4.zero false=(S4.zero,r.fail 80):=by
            unfold RP.elem
            rw [if_neg]
            intro hx
            exact hne (RP.next_some hx).1
          rw [hmem]
          dsimp only
          rw [hel]
          dsimp only
          rw [if_pos hne]
          exact ⟨h.failInc' 80 (by decide),fun h'=>absurd h' hne⟩
      · rw [if_neg hb]
        have hno:¬ (r.next=(93,true)∧some_=true):=fun h=>hb (by rw [hm] at h; exact (Prod.mk.inj h.1).1)
        rw [if_neg hno]
        exact main hno hb
    · have hmo:¬ q.more=true:=fun h=>hlt (PS.more_iff.1 h).2
      rw [if_neg hmo] at hm ⊢
      rw [if_neg (fun h=>by rw [hm] at h; exact absurd (Prod.mk.inj h.1).2 (by decide))]
      have hmem:r.member=((0,S4.zero,false),r.fail 80):=by
        unfold RP.member; rw [hm]
      have hne:=RP.fail_e r (e:=80) (by decide)
      have hel:(r.fail 80).elem 0 S4.zero false=(S4.zero,r.fail 80):=by
        unfold RP.elem
        rw [if_neg]
        intro hx
        exact hne (RP.next_some hx).1
      rw [hmem]
      dsimp only
      rw [hel]
      dsimp only
      rw [if_pos hne]
      exact ⟨h.fail 80 (by decide),fun h'=>absurd h' hne⟩
end Go.Proofs.Ytaffcoiomggpfaa
