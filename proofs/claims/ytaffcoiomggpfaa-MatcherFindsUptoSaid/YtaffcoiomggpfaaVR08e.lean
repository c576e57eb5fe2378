import Derived.Test.YtaffcoiomggpfaaVR08b
/- Contracts of package jobmuxref08 (3): classes. -/
namespace Go.Proofs.Ytaffcoiomggpfaa
open Go.V
attribute [local irreducible] app
set_option linter.constructorNameAsVariable false
set_option linter.unusedVariables false
variable {H:Heap} {b:Nat} {q:PS} {Q:QT} {E:ET}
theorem element8_c (h:PSs H b q) (h0:q.e=0) (hlt:q.at_ < q.s.size) (hk:∀ H' s q',q.element8=(s,q')→PSs H' b q'→Exb b H H'→Q (.agg s.cells) H'):Does Pr 118 #[.pointer (some ⟨b,0,none⟩)] H Q E:=by
  refine zqi2_fn _ Q E H ?_
  unfold zqi2
  refine nw_ext fun i H1 hi he1 hc1=>?_
  have hc1:H1 i=some (cs S4.zero):=hc1
  have hbi:=h.ne hi
  have h1:=h.ext he1
  have hib:i ≠ b:=Ne.symm hbi
  obtain ⟨g1,g2,g3,g4⟩:=id h
  unfold zqi2_27
  refine single8_c h1 h0 hlt fun H2 a one q1 hq1 h2 hx2=>⟨_,_,_,_,_,rfl,?_⟩
  refine nw_ext fun j H3 hj he3 hc3=>?_
  have hc3:H3 j=some (cs S4.zero):=hc3
  have hbj:=h2.ne hj
  have hjb:j ≠ b:=Ne.symm hbj
  have hij:i ≠ j:=ne_of (hx2 _ _ hib hc1) hj
  refine S4.wr a hc3 ?_
  have h4:PSs (H3.set j (cs a)) b q1:=(h2.ext he3).other hbj
  have hj4:(H3.set j (cs a)) j=some (cs a):=Heap.set_self _ _ _
  have hi4:(H3.set j (cs a)) i=some (cs S4.zero):=by rw [Heap.set_ne _ _ hij]; exact he3 _ _ (hx2 _ _ hib hc1)
  have hj0:H j=none:=by
    cases hh:H j with
    | none=>rfl
    | some o=>rw [hx2 _ _ hjb (he1 _ _ hh)] at hj; cases hj
  have hx4:Exb b H (H3.set j (cs a)):=(((he1.exb b).trans hx2).trans (he3.exb b)).set hj0 _
  change zqi2_23 _ _ _ _ _ _ (H3.set j (cs a))
  revert h4 hj4 hi4 hx4
  generalize H3.set j (cs a)=H4
  intro h4 hj4 hi4 hx4
  have hmo:=PS.single8_mo q
  rw [hq1] at hmo
  dsimp only at hmo
  -- the end: a set is returned
  have ret:∀ (s:S4) (q':PS) (H5:Heap),q.element8=(s,q')→PSs H5 b q'→Exb b H4 H5→wr ⟨i,0,none⟩ [.int .u64 s.a,.int .u64 s.b,.int .u64 s.c,.int .u64 s.d] H5 fun H6 =>
      ∃ n1 n2 n3 n4:Int,H6.rd ⟨i,0,none⟩ 0 [(.int .u64 n1),(.int .u64 n2),(.int .u64 n3),(.int .u64 n4)]∧Q (.agg #[(.int .u64 n1),(.int .u64 n2),(.int .u64 n3),(.int .u64 n4)]) H6:=by
    intro s q' H5 hq' h5 hx5
    exact S4.wr s (hx5 _ _ hib hi4) ⟨_,_,_,_,S4.rd (s:=s) (Heap.set_self _ _ _),hk _ s q' hq' (h5.other hbi) ((hx4.trans hx5).set hi _)⟩
  have no:¬ (q1.more=true∧q1.byte=45)→zqi2_21 Q E (some ⟨b,0,none⟩) (some ⟨i,0,none⟩) (some ⟨j,0,none⟩) one true H4:=by
    intro hno
    unfold zqi2_21
    refine sel_tt ?_
    simp only [ptr_some]
    refine ⟨_,_,_,_,S4.rd hj4,ret a q1 H4 ?_ h4 (Exb.refl _ _)⟩
    unfold PS.element8; rw [hq1]; dsimp only; rw [if_neg hno]
  unfold zqi2_23
  refine more_c h4 ⟨_,rfl,sel_not (fun hm=>no (by simp [hm])) (fun hm=>?_)⟩
  obtain ⟨m1,m2⟩:=PS.more_iff.1 hm
  simp only [ptr_some]
  refine h4.ldStr (h4.ldAt ⟨⟨by omega,by omega⟩,?_⟩)
  rw [sAt_nat]
  have hbyte:byteAt q1.s q1.at_=q1.byte:=rfl
  rw [hbyte]
  cases h45:((q1.byte:Int) != 45) with
  | true => exact no (by have : (q1.byte : Int) ≠ 45 := by simpa using h45
                         intro h; omega)
  | false =>
    have h45:q1.byte=45:=by
      have:(q1.byte:Int)=45:=by simpa using h45
      omega
    have hel:q.element8=if one=false∨q1.s.size≤q1.at_+1 then (a,q1.inc.fail 80)
      else match q1.inc.single8 with
        | (b,two,q3)=>(S4.zero.with_ (only8 a) (only8 b),if q3.e=0∧(two=false∨only8 b < only8 a) then q3.fail 80 else q3):=by
      unfold PS.element8; rw [hq1]; dsimp only; rw [if_pos ⟨hm,h45⟩]
    unfold zqi2_21
    refine sel_ff ?_
    unfold zqi2_18
    simp only [ptr_some]
    refine h4.ldAt (h4.incS (by have:=h4.2.2.1 m1; omega) (fun _=>m2) fun H5 h5 hx5=>?_)
    -- a fault
    have bad:(one=false∨q1.s.size≤q1.at_+1)→zqi2_12 Q E (some ⟨b,0,none⟩) (some ⟨i,0,none⟩) (some ⟨j,0,none⟩) true H5:=by
      intro hb
      unfold zqi2_12
      refine sel_tt (pfail_c (by decide) h5 fun H6 h6 hx6=>?_)
      simp only [ptr_some]
      refine ⟨_,_,_,_,S4.rd (hx6 _ _ hjb (hx5 _ _ hjb hj4)),ret a _ H6 (by rw [hel,if_pos hb]) h6 (hx5.trans hx6)⟩
    unfold zqi2_14
    refine sel_not (fun hone=>bad (.inl hone)) (fun hone=>?_)
    simp only [ptr_some]
    refine h5.ldAt (h5.ldStr ?_)
    cases hsz:decide (((q1.inc.at_:Nat):Int) ≥ ((q1.inc.s.size:Nat):Int)) with
    | true=>exact bad (.inr (by have:=of_decide_eq_true hsz; simp only [PS.inc] at this; omega))
    | false =>
      have hsz:q1.at_+1 < q1.s.size:=by have:=of_decide_eq_false hsz; simp only [PS.inc] at this; omega
      rw [if_neg (by rw [hone]; simp; omega)] at hel
      unfold zqi2_12
      refine sel_ff ?_
      unfold zqi2_9
      refine single8_c h5 m1 hsz fun H6 c two q3 hq3 h6 hx6=>⟨_,_,_,_,_,rfl,?_⟩
      rw [hq3] at hel
      dsimp only at hel
      refine nw_ext fun k H7 hk7 he7 hc7=>?_
      have hc7:H7 k=some (cs S4.zero):=hc7
      have hbk:=h6.ne hk7
      have hkb:k ≠ b:=Ne.symm hbk
      have hj6:=hx6 _ _ hjb (hx5 _ _ hjb hj4)
      have hi6:=hx6 _ _ hib (hx5 _ _ hib hi4)
      have hjk:j ≠ k:=ne_of hj6 hk7
      have hik:i ≠ k:=ne_of hi6 hk7
      refine S4.wr c hc7 ?_
      have h8:PSs (H7.set k (cs c)) b q3:=(h6.ext he7).other hbk
      have hk8:(H7.set k (cs c)) k=some (cs c):=Heap.set_self _ _ _
      have hj8:(H7.set k (cs c)) j=some (cs a):=by rw [Heap.set_ne _ _ hjk]; exact he7 _ _ hj6
      have hk40:H4 k=none:=by
        cases hh:H4 k with
        | none=>rfl
        | some o=>rw [hx6 _ _ hkb (hx5 _ _ hkb hh)] at hk7; cases hk7
      have hx8:Exb b H4 (H7.set k (cs c)):=((hx5.trans hx6).trans (he7.exb b)).set hk40 _
      change zqi2_5 _ _ _ _ _ _ _ (H7.set k (cs c))
      revert h8 hk8 hj8 hx8
      generalize H7.set k (cs c)=H8
      intro h8 hk8 hj8 hx8
      have fin:∀ (q4:PS) (H9:Heap),(if q3.e=0∧(two=false∨only8 c < only8 a) then q3.fail 80 else q3)=q4→PSs H9 b q4→Exb b H8 H9 →
          zqi2_1 Q E (some ⟨i,0,none⟩) (some ⟨j,0,none⟩) (some ⟨k,0,none⟩) H9:=by
        intro q4 H9 hq4 h9 hx9
        unfold zqi2_1
        refine ⟨fun z=>z=k,?_⟩
        simp only [ptr_some]
        refine ⟨_,_,_,_,S4.rd (hx9 _ _ hjb hj8),by trivial,_,_,_,_,S4.rd (hx9 _ _ hkb hk8),?_⟩
        refine only8_c (s:=a) fun H10 he10=>⟨_,rfl,fun z hz _=>?_,?_⟩
        · subst hz; rw [he10 _ _ (hx9 _ _ hkb hk8)]; exact (hx9 _ _ hkb hk8).symm
        refine only8_c (s:=c) fun H11 he11=>⟨_,rfl,?_⟩
        refine Range_c (only8_le _) (only8_le _) fun H12 he12=>⟨_,_,_,_,rfl,?_⟩
        refine ret _ q4 H12 (by rw [hel,hq4]) (((h9.ext he10).ext he11).ext he12) ((hx8.trans hx9).trans ((he10.trans he11).trans he12 |>.exb b))
      have fault:∀ H9,PSs H9 b q3→Exb b H8 H9→(q3.e=0∧(two=false∨only8 c < only8 a))→zqi2_3 Q E (some ⟨b,0,none⟩) (some ⟨i,0,none⟩) (some ⟨j,0,none⟩) (some ⟨k,0,none⟩) true H9:=by
        intro H9 h9 hx9 hb
        unfold zqi2_3
        exact sel_tt (pfail_c (by decide) h9 fun H10 h10 hx10=>fin _ H10 (if_pos hb) h10 (hx9.trans hx10))
      have good:∀ H9,PSs H9 b q3→Exb b H8 H9→¬ (q3.e=0∧(two=false∨only8 c < only8 a))→zqi2_3 Q E (some ⟨b,0,none⟩) (some ⟨i,0,none⟩) (some ⟨j,0,none⟩) (some ⟨k,0,none⟩) false H9:=by
        intro H9 h9 hx9 hb
        unfold zqi2_3
        exact sel_ff (fin _ H9 (if_neg hb) h9 hx9)
      unfold zqi2_5
      refine ⟨fun z=>z=k,?_⟩
      simp only [ptr_some]
      refine h8.ldE (sel_beq (fun he=>?_) (fun he=>good H8 h8 (Exb.refl _ _) (fun h=>he h.1)))
      refine sel_not (fun ht=>fault H8 h8 (Exb.refl _ _) ⟨he,.inl ht⟩) (fun ht=>?_)
      refine ⟨_,_,_,_,S4.rd hj8,by trivial,_,_,_,_,S4.rd hk8,?_⟩
      refine only8_c (s:=a) fun H10 he10=>⟨_,rfl,fun z hz _=>?_,?_⟩
      · subst hz; rw [he10 _ _ hk8]; exact hk8.symm
      refine only8_c (s:=c) fun H11 he11=>⟨_,rfl,?_⟩
      cases hgt:decide (((only8 a:Nat):Int) > ((only8 c:Nat):Int)) with
      | true=>exact fault H11 ((h8.ext he10).ext he11) ((he10.trans he11).exb b) ⟨he,.inr (by have:=of_decide_eq_true hgt; omega)⟩
      | false=>exact good H11 ((h8.ext he10).ext he11) ((he10.trans he11).exb b) (by have:=of_decide_eq_false hgt; rw [ht]; simp; omega)
theorem PSs.atOf (h:PSs H b q):atOf b H=q.at_:=by
  unfold Go.Proofs.Ytaffcoiomggpfaa.atOf
  rw [h.2.2.2]
  simp [PS.cells]
set_option maxHeartbeats 1000000 in
theorem class8_c (h:PSs H b q) (h0:q.e=0) (hk:∀ H' s q',q.class8=(s,q')→PSs H' b q'→Exb b H H'→Q (.agg s.cells) H'):Does Pr 110 #[.pointer (some ⟨b,0,none⟩)] H Q E:=by
  refine zqr_fn _ Q E H ?_
  unfold zqr zqr_44
  refine nw_ext fun i H1 hi he1 hc1=>?_
  refine nw_ext fun j H2 hj he2 hc2=>?_
  have hc2:H2 j=some (cs S4.zero):=hc2
  have hi2:H2 i=some (cs S4.zero):=he2 _ _ hc1
  have hij:i ≠ j:=ne_of hc1 hj
  have hib:i ≠ b:=Ne.symm (h.ne hi)
  have hj0:=he1.free hj
  have hjb:j ≠ b:=Ne.symm (h.ne hj0)
  have he12:=he1.trans he2
  have h2:=h.ext he12
  have hx2:=he12.exb b
  -- the loop
  have loop:∀ (neg:Bool) (q1:PS) (H3:Heap),(q.more && decide (q.byte=94))=neg→(if neg=true then q.inc else q)=q1→PSs H3 b q1→Exb b H2 H3 →
      zqr_34 Q E (some ⟨b,0,none⟩) (some ⟨i,0,none⟩) (some ⟨j,0,none⟩) neg H3:=by
    intro neg q1 H3 hneg hq1 h3 hx3
    have hs1:q1.s=q.s:=by rw [← hq1]; split <;> rfl
    generalize hR:q1.s.size+28=F
    have hcl:q.class8=PS.classLoop8 F neg 0 S4.zero q1:=by
      unfold PS.class8; dsimp only; rw [hneg,hq1,← hR,hs1]
    unfold zqr_34 zqr_31
    refine ⟨fun x H'=>∃ (f n:Nat) (out:S4) (q':PS),x=(n:Nat)∧n≤q'.at_∧q'.s.size+27 < f+q'.at_∧PS.classLoop8 f neg n out q'=q.class8∧q'.s=q1.s∧PSs H' b q'∧Exb b H H'∧H' i=some (cs S4.zero)∧H' j=some (cs out),
      fun _ H'=>q1.s.size+27 - atOf b H',⟨F,0,S4.zero,q1,by simp,by omega,by omega,hcl.symm,rfl,h3,hx2.trans hx3,hx3 _ _ hib hi2,hx3 _ _ hjb hc2⟩,?_⟩
    rintro x H4 ⟨f,n,out,q',rfl,hn,hf,hcr,hs',h4,hx4,hi4,hj4⟩
    have h4b:=h4.2.1
    have h4s:=h4.1
    have ret:∀ (s:S4) (q2:PS) (H5:Heap),q.class8=(s,q2)→PSs H5 b q2→Exb b H4 H5→wr ⟨i,0,none⟩ [.int .u64 s.a,.int .u64 s.b,.int .u64 s.c,.int .u64 s.d] H5 fun H6 =>
        ∃ n1 n2 n3 n4:Int,H6.rd ⟨i,0,none⟩ 0 [(.int .u64 n1),(.int .u64 n2),(.int .u64 n3),(.int .u64 n4)]∧Q (.agg #[(.int .u64 n1),(.int .u64 n2),(.int .u64 n3),(.int .u64 n4)]) H6:=by
      intro s q2 H5 hq2 h5 hx5
      exact S4.wr s (hx5 _ _ hib hi4) ⟨_,_,_,_,S4.rd (s:=s) (Heap.set_self _ _ _),hk _ s q2 hq2 (h5.other (Ne.symm hib)) ((hx4.trans hx5).set hi _)⟩
    cases f with
    | zero=>omega
    | succ f =>
      unfold zqr_28
      refine more_c h4 ⟨_,rfl,?_⟩
      simp only [PS.classLoop8] at hcr
      cases hm:q'.more with
      | false =>
        rw [hm] at hcr
        refine sel_ff ?_
        unfold zqr_1
        refine pfail_c (by decide) h4 fun H5 h5 hx5=>?_
        simp only [ptr_some]
        refine ⟨_,_,_,_,S4.rd (hx5 _ _ hjb hj4),ret out _ H5 (by rw [← hcr]; rfl) h5 hx5⟩
      | true =>
        rw [if_pos hm] at hcr
        obtain ⟨m1,m2⟩:=PS.more_iff.1 hm
        refine sel_tt ?_
        unfold zqr_22
        simp only [ptr_some]
        refine h4.ldStr (h4.ldAt ⟨⟨by omega,by omega⟩,?_⟩)
        rw [sAt_nat]
        have hbyte:byteAt q'.s q'.at_=q'.byte:=rfl
        rw [hbyte]
        unfold zqr_20
        refine sel_beq (fun h93=>?_) (fun h93=>?_)
        · rw [if_pos (by omega)] at hcr
          have fin:∀ (q2:PS) (H5:Heap),(if n=0 then q'.fail 80 else q')=q2→PSs H5 b q2→Exb b H4 H5 →
              zqr_12 (fun x' H1=>(∃ (f n:Nat) (out:S4) (q':PS),x'=(n:Nat)∧n≤q'.at_∧q'.s.size+27 < f+q'.at_∧PS.classLoop8 f neg n out q'=q.class8∧q'.s=q1.s∧PSs H1 b q'∧Exb b H H1∧H1 i=some (cs S4.zero)∧H1 j=some (cs out)) ∧
                q1.s.size+27 - Go.Proofs.Ytaffcoiomggpfaa.atOf b H1 < q1.s.size+27 - Go.Proofs.Ytaffcoiomggpfaa.atOf b H4) Q E (some ⟨b,0,none⟩) (some ⟨i,0,none⟩) (some ⟨j,0,none⟩) neg H5:=by
            intro q2 H5 hq2 h5 hx5
            have hq':q2.at_=q'.at_∧q2.s=q'.s∧q2.deep=q'.deep:=by
              rw [← hq2]; split
              · exact PS.fail_at q' 80
              · exact ⟨rfl,rfl,rfl⟩
            unfold zqr_12
            simp only [ptr_some]
            refine h5.ldAt (h5.incS (by have:=(h4.2.2.1 m1).2; rw [hq'.1,hq'.2.1,hq'.2.2]; omega) (fun _=>by rw [hq'.1,hq'.2.1]; exact m2) fun H6 h6 hx6=>?_)
            have hj6:=hx6 _ _ hjb (hx5 _ _ hjb hj4)
            rw [hq2] at hcr
            unfold zqr_9
            cases neg with
            | true =>
              refine sel_tt ?_
              simp only [ptr_some]
              refine ⟨_,_,_,_,S4.rd hj6,Not_c (s:=out) fun H7 he7=>⟨_,_,_,_,rfl,?_⟩⟩
              refine ret out.not q2.inc H7 hcr.symm (h6.ext he7) ((hx5.trans hx6).trans (he7.exb b))
            | false =>
              refine sel_ff ?_
              unfold zqr_7
              simp only [ptr_some]
              refine ⟨_,_,_,_,S4.rd hj6,ret out q2.inc H6 hcr.symm h6 (hx5.trans hx6)⟩
          unfold zqr_15
          refine sel_beq (fun hn0=>?_) (fun hn0=>?_)
          · exact pfail_c (by decide) h4 fun H5 h5 hx5=>fin _ H5 (if_pos (by omega)) h5 hx5
          · exact fin _ H4 (if_neg (by omega)) h4 (Exb.refl _ _)
        · rw [if_neg (by omega)] at hcr
          unfold zqr_18 zqr_5
          refine ⟨fun z=>z=j,?_⟩
          simp only [ptr_some]
          refine ⟨by trivial,_,_,_,_,S4.rd hj4,?_⟩
          refine element8_c h4 m1 m2 fun H5 x q2 hq2 h5 hx5=>⟨_,_,_,_,rfl,fun z hz _=>?_,?_⟩
          · subst hz; rw [hx5 _ _ hjb hj4]; exact hj4.symm
          rw [hq2] at hcr
          dsimp only at hcr
          have hmo:=PS.element8_mo q'
          rw [hq2] at hmo
          dsimp only at hmo
          refine Union_c (s:=out) (t:=x) fun H6 he6=>⟨_,_,_,_,rfl,?_⟩
          have h6:=h5.ext he6
          refine S4.wr (out.or x) (he6 _ _ (hx5 _ _ hjb hj4)) ?_
          unfold zqr_3
          have h7:PSs (H6.set j (cs (out.or x))) b q2:=h6.other (Ne.symm hjb)
          have hw:IntKind.wrap .i64 ((n:Int)+1)=((n+1:Nat):Int):=by rw [IntWalk.i64_in _ (by omega)]; omega
          rw [hw]
          have h5b:=h5.2.1
          refine ⟨⟨f,n+1,out.or x,q2,rfl,by omega,by rw [hmo.1.s]; omega,hcr,hmo.1.s.trans hs',h7,((hx4.trans hx5).trans (he6.exb b)).set hj0 _,?_,Heap.set_self _ _ _⟩,?_⟩
          · rw [Heap.set_ne _ _ hij]; exact he6 _ _ (hx5 _ _ hib hi4)
          · show q1.s.size+27 - Go.Proofs.Ytaffcoiomggpfaa.atOf b (H6.set j (cs (out.or x))) < _
            rw [h7.atOf,h4.atOf]
            rw [hmo.1.s,hs'] at h5b
            have:=hmo.2
            omega
  unfold zqr_41
  refine more_c h2 ⟨_,rfl,sel_mk (fun hm=>?_) (fun hm=>?_)⟩
  · obtain ⟨m1,m2⟩:=PS.more_iff.1 hm
    simp only [ptr_some]
    refine h2.ldStr (h2.ldAt ⟨⟨by omega,by omega⟩,?_⟩)
    rw [sAt_nat]
    have hbyte:byteAt q.s q.at_=q.byte:=rfl
    rw [hbyte]
    unfold zqr_38
    cases hc:((q.byte:Int) == 94) with
    | true =>
      have hc:(q.byte:Int)=94:=by simpa using hc
      refine sel_tt ?_
      simp only [ptr_some]
      refine h2.ldAt (h2.incS (by have:=(h2.2.2.1 m1).2; omega) (fun _=>m2) fun H3 h3 hx3=>?_)
      exact loop true q.inc H3 (by rw [hm]; simp; omega) (if_pos rfl) h3 hx3
    | false =>
      have hc:(q.byte:Int) ≠ 94:=by simpa using hc
      exact sel_ff (loop false q H2 (by simp; omega) (if_neg (by simp)) h2 (Exb.refl _ _))
  · unfold zqr_38
    exact sel_ff (loop false q H2 (by rw [hm]; rfl) (if_neg (by simp)) h2 (Exb.refl _ _))
end Go.Proofs.Ytaffcoiomggpfaa
/- Contracts of package jobmuxref08 (4): leaf,shifted,join. -/
namespace Go.Proofs.Ytaffcoiomggpfaa
open Go.V
attribute [local irreducible] app
set_option linter.constructorNameAsVariable false
set_option linter.unusedVariables false
variable {H:Heap} {Q:QT} {E:ET}
def ndI (k:Int) (s:S4):Nd:=⟨k,0,0,s.a,s.b,s.c,s.d⟩
theorem leaf_c {k:Int} {s:S4} (hk:∀ H' p c,Ext H H'→Vec H' 7 p 1 c (flat [ndI k s])→(∀ j,blk p j→H j=none)→Q (.slice p 1 c) H') :
    Does Pr 101 #[.int .i64 k,.agg s.cells] H Q E:=by
  refine zql_fn _ _ _ _ _ Q E H ?_
  unfold zql
  refine nw_ext fun i H1 hi he1 hc1=>?_
  have hc1:H1 i=some (cs s):=hc1
  refine ⟨_,_,_,_,S4.rd hc1,?_⟩
  refine nw_ext fun j H2 hj he2 hc2=>?_
  exact hk _ (some ⟨j,0,none⟩) 1 (he1.trans he2) ⟨rfl,Nat.le_refl _,j,_,48,rfl,hc2,rfl,fun n hn=>by simp [flat,ndI,Nd.cells]⟩ fun n hn=>by
    obtain ⟨a,ha,rfl⟩:=hn
    cases ha
    exact he1.free hj
def sh (k kid place n:Int):Int:=if kid < kids2 k then IntKind.wrap .i64 (place+n) else 0
theorem shifted_c {k kid place n:Int} (hk:Q (.int .i64 (sh k kid place n)) H):Does Pr 102 #[.int .i64 k,.int .i64 kid,.int .i64 place,.int .i64 n] H Q E:=by
  refine zqm_fn _ _ _ _ Q E H ?_
  unfold zqm zqm_3
  refine Kids2_c ⟨_,rfl,sel_dec (fun h=>?_) (fun h=>?_)⟩
  · unfold sh at hk; rw [if_pos h] at hk; exact hk
  · unfold zqm_1
    unfold sh at hk; rw [if_neg h] at hk; exact hk
def Nd.shift (n:Int) (x:Nd):Nd:={ x with l:=sh x.k 0 x.l n,r:=sh x.k 1 x.r n }
def joinN (k:Int) (l r:List Nd):List Nd :=
  l++r.map (Nd.shift l.length)++[⟨k,(l.length:Int) - 1,if 0 < r.length then (l.length:Int)+r.length - 1 else 0,0,0,0,0⟩]
theorem joinN_length (k:Int) (l r:List Nd):(joinN k l r).length=l.length+r.length+1:=by simp [joinN]; omega
set_option maxHeartbeats 1000000 in
theorem join_c {k:Int} {p1 p2:OA} {l1 c1 l2 c2:Nat} {L R:List Nd} (hL:Vec H 7 p1 l1 c1 (flat L)) (hR:Vec H 7 p2 l2 c2 (flat R)) (h1:l1=L.length) (h2:l2=R.length) (hsz:l1+l2 < 1048576)
    (hk:∀ H' p c,Ext H H'→Vec H' 7 p (joinN k L R).length c (flat (joinN k L R))→(∀ j,blk p j→H j=none)→Q (.slice p (joinN k L R).length c) H') :
    Does Pr 91 #[.int .i64 k,.slice p1 l1 c1,.slice p2 l2 c2] H Q E:=by
  refine zqj_fn _ _ _ _ _ _ _ Q E H ?_
  unfold zqj zqj_21
  refine nw_ext fun i H1 hi he1 hc1=>?_
  have hv0:Vec H1 7 (some ⟨i,0,none⟩) 0 0 []:=⟨rfl,Nat.le_refl _,i,_,48,rfl,hc1,rfl,fun j hj=>by omega⟩
  have hL1:=hL.ext he1
  refine app_vec (sz:=7) (n:=l1) (ws:=flat L) sl23 hv0 (fun K hK=>⟨flat L,hL1.1,hL1.rdS,hK⟩) hL1.1 (by
    have:∀ l:List Nd,(flat l).all oneC=true:=fun l=>by
      induction l with
      | nil=>rfl
      | cons x l ih=>simp only [flat,List.flatMap_cons,List.all_append,Bool.and_eq_true]; exact ⟨rfl,ih⟩
    exact this L) (by omega) (by omega) fun p' c' H2 hv2 hs2 hb2=>?_
  have he2:Ext H H2:=fun j o hj=>by
    have h1j:=he1 _ _ hj
    rw [hs2 j (fun hb=>by obtain ⟨a,ha,rfl⟩:=hb; cases ha; rw [hi] at hj; cases hj) (by simp [h1j])]; exact h1j
  have hf2:∀ j,blk p' j→H j=none:=fun j hj=>by
    rcases hb2 j hj with h | h
    · obtain ⟨a,ha,rfl⟩:=h; cases ha; exact hi
    · exact he1.free h
  unfold zqj_17 zqj_14
  refine ⟨fun p l c x H'=>∃ n:Nat,x=(n:Nat)∧n≤R.length∧l=L.length+n∧Vec H' 7 p l c (flat (L++(R.take n).map (Nd.shift L.length)))∧Ext H H'∧∀ j,blk p j→H j=none,
    fun _ _ _ x _=>(l2 - x).toNat,⟨0,rfl,by omega,by omega,by simpa [Nat.zero_add] using hv2,he2,hf2⟩,?_⟩
  rintro p l c x H3 ⟨n,rfl,hn,rfl,hv3,he3,hf3⟩
  unfold zqj_11
  refine sel_dec (fun hd=>?_) (fun hd=>?_)
  · have hnR:n < R.length:=by omega
    obtain ⟨x,hx⟩:∃ x,R[n]?=some x:=⟨_,List.getElem?_eq_getElem hnR⟩
    obtain ⟨a2,rfl,hrd⟩:=vec_at7 (hR.ext he3) hx
    unfold zqj_9
    simp only [ptr_some,Int.toNat_natCast]
    refine ⟨⟨by omega,by omega⟩,x.k,x.l,x.r,x.a,x.b,x.c,x.d,hrd,?_⟩
    refine nw_ext fun m H4 hm he4 hc4=>?_
    refine wr_new hc4 (by simp) rfl (c':=x.cells.toArray) rfl fun H5 hc5 hb5=>?_
    have he5:=ext_but he4 hm hb5
    refine ⟨fun z=>z=m,?_⟩
    refine ldI_at (n:=x.k) hc5 rfl (ldI_at (n:=x.l) hc5 rfl ⟨rfl,ldI_at (n:=x.k) hc5 rfl ⟨rfl,ldI_at (n:=x.r) hc5 rfl ?_⟩⟩)
    refine shifted_c ⟨_,rfl,fun z hz _=>rfl,shifted_c ⟨_,rfl,?_⟩⟩
    rw [h1]
    refine wr_new hc5 (by simp [Nd.cells]) rfl (c':=#[.int .i64 x.k,.int .i64 (sh x.k 0 x.l (L.length:Nat)),.int .i64 x.r,.int .u64 x.a,.int .u64 x.b,.int .u64 x.c,.int .u64 x.d]) rfl fun H6 hc6 hb6=>?_
    refine wr_new hc6 (by simp) rfl (c':=(x.shift L.length).cells.toArray) rfl fun H6 hc6 hb62=>?_
    have he6:Ext H3 H6:=ext_but (ext_but he5 hm hb6) hm hb62
    refine ⟨(x.shift L.length).k,(x.shift L.length).l,(x.shift L.length).r,(x.shift L.length).a,(x.shift L.length).b,(x.shift L.length).c,(x.shift L.length).d,rd_at hc6 _ 0 0 (fun j hj=>by simp [Nd.cells]),?_⟩
    refine nw_ext fun m2 H7 hm2 he7 hc7=>?_
    have hv7:=hv3.ext (he6.trans he7)
    refine app_one (sz:=7) (ws:=(x.shift L.length).cells) sl23 hv7 hc7 rfl rfl (by omega) (by omega) fun p' c' H8 hv8 hs8 hb8=>?_
    have hw:IntKind.wrap .i64 ((n:Int)+1)=((n+1:Nat):Int):=by rw [IntWalk.i64_in _ (by omega)]; omega
    rw [hw]
    have he37:=(he3.trans he6).trans he7
    refine ⟨⟨n+1,rfl,by omega,by omega,?_,fun j o hj=>?_,fun j hj=>?_⟩,by omega⟩
    · rw [flat_snoc] at hv8
      have e:L++(R.take n).map (Nd.shift L.length)++[x.shift L.length]=L++(R.take (n+1)).map (Nd.shift L.length):=by
        rw [List.take_add_one,hx]; simp
      rw [e] at hv8; exact hv8
    · have:=he37 _ _ hj
      rw [hs8 j (fun hb=>by rw [hf3 j hb] at hj; cases hj) (by simp [this])]; exact this
    · rcases hb8 j hj with h | h
      · exact hf3 j h
      · exact he37.free h
  · obtain rfl:n=R.length:=by omega
    rw [List.take_length] at hv3
    unfold zqj_6
    refine nw_ext fun m H4 hm he4 hc4=>?_
    refine wr_at hc4 (by simp) rfl ?_
    have w1:IntKind.wrap .i64 (((l1:Nat):Int) - 1)=(L.length:Int) - 1:=by rw [IntWalk.i64_in _ (by omega),h1]
    rw [w1]
    have he5:∀ o,Ext H3 (H4.set m o):=fun o=>he4.set hm o
    have fin:∀ (H5:Heap) (r:Int),(if 0 < R.length then (L.length:Int)+R.length - 1 else 0)=r→Ext H3 H5→H5 m=some (.cells #[.int .i64 k,.int .i64 ((L.length:Int) - 1),.int .i64 r,.int .u64 0,.int .u64 0,.int .u64 0,.int .u64 0] 48 (0,0)) →
        zqj_1 Q E p (L.length+R.length) c (some ⟨m,0,none⟩) H5:=by
      intro H5 r hr he5 hc5
      unfold zqj_1
      simp only [ptr_some]
      refine ⟨k,(L.length:Int) - 1,r,0,0,0,0,rd_at hc5 _ 0 0 (fun j hj=>by simp),?_⟩
      refine nw_ext fun m2 H7 hm2 he7 hc7=>?_
      have hv7:=hv3.ext (he5.trans he7)
      refine app_one (sz:=7) (ws:=(⟨k,(L.length:Int) - 1,r,0,0,0,0⟩:Nd).cells) sl23 hv7 hc7 rfl rfl (by omega) (by omega) fun p' c' H8 hv8 hs8 hb8=>?_
      have he37:=(he3.trans he5).trans he7
      rw [flat_snoc,← hr] at hv8
      have e:(joinN k L R).length=L.length+R.length+1:=joinN_length k L R
      rw [← e] at hv8 ⊢
      refine hk H8 p' c' (fun j o hj=>?_) hv8 (fun j hj=>?_)
      · have:=he37 _ _ hj
        rw [hs8 j (fun hb=>by rw [hf3 j hb] at hj; cases hj) (by simp [this])]; exact this
      · rcases hb8 j hj with h | h
        · exact hf3 j h
        · exact he37.free h
    unfold zqj_3
    refine sel_dec (fun hg=>?_) (fun hg=>?_)
    · simp only [ptr_some,add_at]
      refine wr_at (Heap.set_self _ _ _) (by simp [over]) rfl ?_
      have w2:IntKind.wrap .i64 (IntKind.wrap .i64 (((l1:Nat):Int)+((l2:Nat):Int)) - 1)=(L.length:Int)+R.length - 1:=by
        rw [IntWalk.i64_in (_+_) (by omega),IntWalk.i64_in _ (by omega),h1,h2]
      rw [w2]
      exact fin _ _ (if_pos (by omega)) ((he5 _).set hm _) (Heap.set_self _ _ _)
    · exact fin _ 0 (if_neg (by omega)) (he5 _) (Heap.set_self _ _ _)
end Go.Proofs.Ytaffcoiomggpfaa
/- Contracts of package jobmuxref08 (5): the parser. -/
namespace Go.Proofs.Ytaffcoiomggpfaa
open Go.V
attribute [local irreducible] app
set_option linter.constructorNameAsVariable false
set_option linter.unusedVariables false
namespace PS
def up (q:PS):PS:={ q with deep:=q.deep+1 }
def out (q:PS):PS:={ q with at_:=q.at_+1,deep:=q.deep - 1 }
def atom8 (alt:PS→List Nd × PS) (q:PS):List Nd × PS :=
  if q.byte=46 then ([ndI 2 (S4.zero.with1 10).not],q.inc)
  else if q.byte=94 then ([ndI 8 S4.zero],q.inc)
  else if q.byte=36 then ([ndI 9 S4.zero],q.inc)
  else if q.byte=92 then ([ndI 2 q.inc.escape8.1],q.inc.escape8.2.2)
  else if q.byte=91 then ([ndI 2 q.inc.class8.1],q.inc.class8.2)
  else if q.byte=93 then ([ndI 2 (S4.zero.with1 q.byte)],q.inc.fail 80)
  else if q.byte=42∨q.byte=43∨q.byte=63 then ([ndI 2 (S4.zero.with1 q.byte)],q.inc.fail 81)
  else if q.byte=40 then
    if 24 < q.deep+1 then ([],q.inc.up.fail 84)
    else
      let x:=alt q.inc.up
      (x.1,(if x.2.e=0∧x.2.s.size≤x.2.at_ then x.2.fail 83 else x.2).out)
  else ([ndI 2 (S4.zero.with1 q.byte)],q.inc)
def signs8:Nat→List Nd→PS→List Nd × PS
  | 0,l,q=>(l,q)
  | f+1,l,q =>
    if q.more=true∧signOf q.byte ≠ 0 then signs8 f (joinN (signOf q.byte:Nat) l []) q.inc
    else (l,q)
def part8 (alt:PS→List Nd × PS) (q:PS):List Nd × PS:=signs8 (q.s.size+28) (atom8 alt q).1 (atom8 alt q).2
def catLoop8 (alt:PS→List Nd × PS):Nat→List Nd→PS→List Nd × PS
  | 0,l,q=>(l,q)
  | f+1,l,q =>
    if q.more=true∧q.byte ≠ 124∧q.byte ≠ 41 then
      let x:=part8 alt q
      if x.2.e ≠ 0 then ([],x.2)
      else catLoop8 alt f (if l.length=0 then x.1 else joinN 3 l x.1) x.2
    else (if l.length=0 then [ndI 1 S4.zero] else l,q)
def cat8 (alt:PS→List Nd × PS) (q:PS):List Nd × PS:=catLoop8 alt (q.s.size+28) [] q
def altLoop8 (alt:PS→List Nd × PS):Nat→List Nd→PS→List Nd × PS
  | 0,l,q=>(l,q)
  | f+1,l,q =>
    if q.more=true∧q.byte=124 then
      let x:=cat8 alt q.inc
      if x.2.e ≠ 0 then ([],x.2) else altLoop8 alt f (joinN 4 l x.1) x.2
    else (l,q)
def alt8 (alt:PS→List Nd × PS) (q:PS):List Nd × PS:=altLoop8 alt (q.s.size+28) (cat8 alt q).1 (cat8 alt q).2
def altN8:Nat→PS→List Nd × PS
  | 0,q=>([],q)
  | n+1,q=>alt8 (altN8 n) q
structure Wa (q:PS) (x:List Nd × PS) (d:Int) (m:Nat):Prop where
  mo:Mo q x.2
  at_:q.at_+m≤x.2.at_
  len:(x.1.length:Int)+2 * q.at_≤2 * x.2.at_+d
theorem atom8_wa {alt:PS→List Nd × PS} (ha:∀ q,Wa q (alt q) 1 0) (q:PS):Wa q (atom8 alt q) (-1) 1:=by
  have one:∀ (x:Nd) (q':PS),Mo q.inc q'→Wa q ([x],q') (-1) 1:=fun x q' h=>by
    have:=h.at_
    simp only [PS.inc] at this
    exact ⟨(Mo.inc q).trans h,this,by simp only [List.length_singleton]; omega⟩
  unfold atom8
  split
  · exact one _ _ (Mo.refl _)
  split
  · exact one _ _ (Mo.refl _)
  split
  · exact one _ _ (Mo.refl _)
  split
  · exact one _ _ (escape8_mo _)
  split
  · exact one _ _ (class8_mo _)
  split
  · exact one _ _ (Mo.fail _ _)
  split
  · exact one _ _ (Mo.fail _ _)
  split
  · split
    · have h0:Mo q.inc q.inc.up:=⟨rfl,Nat.le_refl _,Nat.le_succ _⟩
      have h:Mo q (q.inc.up.fail 84):=((Mo.inc q).trans h0).trans (Mo.fail _ 84)
      have e:(q.inc.up.fail 84).at_=q.at_+1:=(fail_at _ _).1
      exact ⟨h,by rw [e]; exact Nat.le_refl _,by rw [e]; simp only [List.length_nil]; omega⟩
    · have h:=ha q.inc.up
      dsimp only
      generalize alt q.inc.up=X at h
      obtain ⟨h1,h2,h3⟩:=h
      have f1:∀ y:PS,(y.out.s=y.s∧y.out.at_=y.at_+1∧y.out.deep=y.deep - 1):=fun y=>⟨rfl,rfl,rfl⟩
      have e:∀ y,(if X.2.e=0∧X.2.s.size≤X.2.at_ then X.2.fail 83 else X.2)=y→y.s=X.2.s∧y.at_=X.2.at_∧y.deep=X.2.deep:=fun y hy=>by
        rw [← hy]; split
        · have:=fail_at X.2 83; exact ⟨this.2.1,this.1,this.2.2⟩
        · exact ⟨rfl,rfl,rfl⟩
      obtain ⟨e1,e2,e3⟩:=e _ rfl
      have g1:=h1.s; have g2:=h1.at_; have g3:=h1.deep
      simp only [PS.up,PS.inc] at g1 g2 g3 h2 h3
      refine ⟨⟨by rw [(f1 _).1,e1,g1],by rw [(f1 _).2.1,e2]; omega,by rw [(f1 _).2.2,e3]; omega⟩,?_,?_⟩
      · simp only [(f1 _).2.1,e2]; omega
      · simp only [(f1 _).2.1,e2]; omega
  · exact one _ _ (Mo.refl _)
theorem signs8_wa:∀ (f:Nat) (l:List Nd) (q:PS),Wa q (signs8 f l q) l.length 0
  | 0,l,q=>⟨Mo.refl _,Nat.le_refl _,by simp only [signs8]; omega⟩
  | f+1,l,q=>by
    unfold signs8
    split
    · have h:=signs8_wa f (joinN (signOf q.byte:Nat) l []) q.inc
      have g:=h.at_
      have k:=h.len
      rw [joinN_length] at k
      have e:q.inc.at_=q.at_+1:=rfl
      rw [e] at g k
      rw [List.length_nil] at k
      exact ⟨(Mo.inc q).trans h.mo,by omega,by push_cast at k; omega⟩
    · exact ⟨Mo.refl _,Nat.le_refl _,by show (l.length:Int)+2 * q.at_≤2 * q.at_+l.length; omega⟩
theorem part8_wa {alt:PS→List Nd × PS} (ha:∀ q,Wa q (alt q) 1 0) (q:PS):Wa q (part8 alt q) (-1) 1:=by
  have h1:=atom8_wa ha q
  have h2:=signs8_wa (q.s.size+28) (atom8 alt q).1 (atom8 alt q).2
  exact ⟨h1.mo.trans h2.mo,by have:=h1.at_; have:=h2.at_; unfold part8; omega,by have:=h1.len; have:=h2.len; unfold part8; omega⟩
theorem catLoop8_wa {alt:PS→List Nd × PS} (ha:∀ q,Wa q (alt q) 1 0):∀ (f:Nat) (l:List Nd) (q:PS),Wa q (catLoop8 alt f l q) (if l.length=0 then 1 else l.length) 0
  | 0,l,q=>⟨Mo.refl _,Nat.le_refl _,by simp only [catLoop8]; split <;> omega⟩
  | f+1,l,q=>by
    unfold catLoop8
    split
    · have h1:=part8_wa ha q
      dsimp only
      generalize part8 alt q=X at h1
      obtain ⟨a1,a2,a3⟩:=h1
      split
      · exact ⟨a1,by simpa using Nat.le_of_succ_le a2,by simp only [List.length_nil]; split <;> omega⟩
      · have h2:=catLoop8_wa ha f (if l.length=0 then X.1 else joinN 3 l X.1) X.2
        obtain ⟨b1,b2,b3⟩:=h2
        refine ⟨a1.trans b1,by omega,?_⟩
        by_cases hl:l.length=0
        · rw [if_pos hl] at b3
          rw [if_pos hl]
          split at b3 <;> omega
        · rw [if_neg hl] at b3
          rw [if_neg hl]
          rw [joinN_length] at b3
          rw [if_neg (by omega)] at b3
          push_cast at b3
          omega
    · refine ⟨Mo.refl _,Nat.le_refl _,?_⟩
      by_cases hl:l.length=0
      · rw [if_pos hl,if_pos hl]; simp; omega
      · rw [if_neg hl,if_neg hl]; simp only []; omega
theorem cat8_wa {alt:PS→List Nd × PS} (ha:∀ q,Wa q (alt q) 1 0) (q:PS):Wa q (cat8 alt q) 1 0:=catLoop8_wa ha _ [] q
theorem altLoop8_wa {alt:PS→List Nd × PS} (ha:∀ q,Wa q (alt q) 1 0):∀ (f:Nat) (l:List Nd) (q:PS),Wa q (altLoop8 alt f l q) l.length 0
  | 0,l,q=>⟨Mo.refl _,Nat.le_refl _,by simp only [altLoop8]; omega⟩
  | f+1,l,q=>by
    unfold altLoop8
    split
    · have h1:=cat8_wa ha q.inc
      dsimp only
      generalize cat8 alt q.inc=X at h1
      obtain ⟨a1,a2,a3⟩:=h1
      simp only [PS.inc] at a2 a3
      have a1':=(Mo.inc q).trans a1
      split
      · exact ⟨a1',by simp only []; omega,by simp only [List.length_nil]; omega⟩
      · obtain ⟨b1,b2,b3⟩:=altLoop8_wa ha f (joinN 4 l X.1) X.2
        rw [joinN_length] at b3
        push_cast at b3
        exact ⟨a1'.trans b1,by omega,by omega⟩
    · exact ⟨Mo.refl _,Nat.le_refl _,by simp only []; omega⟩
theorem alt8_wa {alt:PS→List Nd × PS} (ha:∀ q,Wa q (alt q) 1 0) (q:PS):Wa q (alt8 alt q) 1 0:=by
  have h1:=cat8_wa ha q
  have h2:=altLoop8_wa ha (q.s.size+28) (cat8 alt q).1 (cat8 alt q).2
  exact ⟨h1.mo.trans h2.mo,by have:=h1.at_; have:=h2.at_; unfold alt8; omega,by have:=h1.len; have:=h2.len; unfold alt8; omega⟩
theorem altN8_wa:∀ (n:Nat) (q:PS),Wa q (altN8 n q) 1 0
  | 0,q=>⟨Mo.refl _,Nat.le_refl _,by simp only [altN8,List.length_nil]; omega⟩
  | n+1,q=>alt8_wa (altN8_wa n) q
end PS
end Go.Proofs.Ytaffcoiomggpfaa
