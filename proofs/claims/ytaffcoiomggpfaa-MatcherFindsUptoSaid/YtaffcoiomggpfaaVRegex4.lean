import Derived.Test.YtaffcoiomggpfaaVRegex
/- Contracts of package regex (2): classes. -/
namespace Go.Proofs.Ytaffcoiomggpfaa
open Go.V
attribute [local irreducible] app
set_option linter.constructorNameAsVariable false
set_option linter.unusedVariables false
theorem class_or {nx:Bool→Heap→Prop} {Q:QT} {E:ET} {x0 x2:OA} {x6:Bool} {b j k:Nat} {Hb H:Heap} {r:RP} {out set:S4}
    (h:RPs Hb H b r) (hj:Hb j=some (cs out)) (hk:Hb k=some (cs set)) (hjk:j ≠ k) (hn:∀ H',RPs (Hb.set j (cs (out.or set))) H' b r→nx true H') :
    zqu_19 nx Q E x0 x2 (some ⟨j,0,none⟩) x6 (some ⟨k,0,none⟩) H:=by
  unfold zqu_19 zqu_16
  refine ⟨fun x Hc=>∃ n:Nat,x=(n:Nat)∧n≤4∧RPs (Hb.set j (cs (out.orN set n))) Hc b r,fun x _=>(4 - x).toNat,⟨0,by simp,by omega,?_⟩,?_⟩
  · have:Hb.set j (cs (out.orN set 0))=Hb:=by
      funext i; by_cases e:i=j
      · subst e; rw [Heap.set_self]; exact hj.symm
      · rw [Heap.set_ne _ _ e]
    rw [this]; exact h
  rintro x Hc ⟨n,rfl,hn4,hc⟩
  have hcj:Hc j=some (cs (out.orN set n)):=hc.1.get
  have hck:Hc k=some (cs set):=hc.1 k _ (by rw [Heap.set_ne _ _ (Ne.symm hjk)]; exact hk)
  unfold zqu_13 zqu_10
  refine sel_dec (fun hd=>?_) (fun hd=>?_)
  · unfold zqu_8
    have h4:n < 4:=by omega
    simp only [ptr_some,add_at,Int.toNat_natCast,Nat.mul_one,Nat.zero_add]
    refine ⟨⟨by omega,by omega⟩,ldI_at hcj (S4.cells_get _ h4) ⟨⟨by omega,by omega⟩,ldI_at hck (S4.cells_get _ h4) ⟨⟨by omega,by omega⟩,?_⟩⟩⟩
    refine wr_at hcj (by simp [S4.cells]; omega) rfl ?_
    rw [S4.cells_put _ h4]
    have hw:IntKind.wrap .i64 ((n:Int)+1)=((n+1:Nat):Int):=by rw [IntWalk.i64_in _ (by omega)]; omega
    rw [hw]
    exact ⟨⟨n+1,rfl,by omega,hc.upd (cs (out.orN set (n+1)))⟩,by omega⟩
  · obtain rfl:n=4:=by omega
    unfold zqu_6
    exact hn _ hc
theorem member_byte {r r':RP} {n:Nat} {s:S4} {k:Bool} (h:r.member=((n,s,k),r')):n≤255:=by
  unfold RP.member at h
  split at h
  · cases h; omega
  · rename_i c hn
    have:=(RP.next_some hn).2.2.2
    split at h
    · cases h; omega
    · split at h
      · unfold RP.escape at h
        split at h
        · cases h; omega
        · rename_i c2 hn2
          have h2:=(RP.next_some hn2).2.2.2
          split at h
          · cases h; omega
          · split at h
            rename_i n' k' hs
            cases h
            exact single_le hs h2
      · cases h; exact this
def RP.elem (r1:RP) (first:Nat) (set:S4) (many:Bool):S4 × RP :=
  if r1.next=(45,true) then
    match (if many=true then r1.inc.fail 80 else r1.inc).member with
    | ((last,_,many2),r4)=>(set.with_ first last,if many2=true∨last < first then r4.fail 80 else r4)
  else (set,r1)
def RP.classLoop:Nat→Bool→S4→RP→(S4 × Bool) × RP
  | 0,_,_,r=>((S4.zero,false),r)
  | n+1,some_,out,r =>
    if r.next=(93,true)∧some_=true then ((out,true),r.inc)
    else match r.member with
      | ((first,set,many),r1)=>match r1.elem first set many with
        | (set',r5)=>if r5.e ≠ 0 then ((S4.zero,false),r5) else classLoop n true (out.or set') r5
def classOut (c:Nat):(S4 × Bool) × RP→S4 × RP
  | ((out,true),r')=>(if c=94 then out.not else out,r')
  | ((_,false),r')=>(S4.zero,r')
def RP.class (r:RP):S4 × RP:=classOut r.next.1 ((if r.next.1=94 then r.inc else r).classLoop (r.s.size+1) false S4.zero)
theorem elem_le {r1 r5:RP} {first:Nat} {set set':S4} {many:Bool} (h:r1.elem first set many=(set',r5)):r1.Le r5:=by
  unfold RP.elem at h
  split at h
  · split at h
    rename_i last s2 many2 r4 hm
    cases h
    have h1:r1.Le (if many=true then r1.inc.fail 80 else r1.inc):=by
      split
      · exact (RP.Le.inc _).trans (.fail _ _ (by decide))
      · exact .inc _
    refine h1.trans ((member_le hm).1.trans ?_)
    split
    · exact .fail _ _ (by decide)
    · exact .refl _
  · cases h; exact .refl _
theorem class_46 {nx:Bool→Heap→Prop} {Q:QT} {E:ET} {x6 many:Bool} {b i j k first:Nat} {Hb H H0:Heap} {r:RP} {out set:S4}
    (h:RPs Hb H b r) (he:Ext H0 Hb) (hi0:H0 i=none) (hi:Hb i=some (cs S4.zero)) (hj:Hb j=some (cs out)) (hk:Hb k=some (cs set)) (hjk:j ≠ k) (hij:i ≠ j) (hf:first≤255)
    (hj0:H0 j=none) (hk0:H0 k=none) (hik:i ≠ k)
    (hbad:∀ set' r' H',r.elem first set many=(set',r')→r'.e ≠ 0→RPs H0 H' b r'→Q (.agg S4.zero.cells) H')
    (hgo:∀ set' r' H' Hb',r.elem first set many=(set',r')→r'.e=0→Ext H0 Hb'→Hb' i=some (cs S4.zero)→Hb' j=some (cs (out.or set'))→RPs Hb' H' b r'→nx true H') :
    zqu_46 nx Q E (some ⟨b,0,none⟩) (some ⟨i,0,none⟩) (some ⟨j,0,none⟩) x6 (first:Nat) (some ⟨k,0,none⟩) many H:=by
  have c22:∀ (set':S4) (r':RP) (H' Hb':Heap),r.elem first set many=(set',r')→Ext H0 Hb'→Hb' i=some (cs S4.zero)→Hb' j=some (cs out)→Hb' k=some (cs set')→RPs Hb' H' b r' →
      zqu_22 nx Q E (some ⟨b,0,none⟩) (some ⟨i,0,none⟩) (some ⟨j,0,none⟩) x6 (some ⟨k,0,none⟩) H':=by
    intro set' r' H' Hb' hr he' hi' hj' hk' h'
    unfold zqu_22
    simp only [ptr_some]
    refine h'.ld4 ?_
    refine sel_bne (fun hne=>?_) (fun heq=>?_)
    · refine S4.wr S4.zero (h'.1 i _ hi') ⟨_,_,_,_,S4.rd (s:=S4.zero) (Heap.set_self _ _ _),?_⟩
      exact hbad set' r' _ hr hne ((h'.upd' hi' (cs S4.zero)).weaken (he'.set hi0 _))
    · refine class_or h' hj' hk' hjk fun H2 h2=>?_
      exact hgo set' r' H2 _ hr heq (he'.set hj0 _) (by rw [Heap.set_ne _ _ hij]; exact hi') (Heap.set_self _ _ _) h2
  have hsz:=h.bound
  -- behind the range's end
  have c27:∀ (last:Nat) (many2:Bool) (s2:S4) (r4:RP) (H' Hb':Heap),last≤255→r.next=(45,true)→(if many=true then r.inc.fail 80 else r.inc).member=((last,s2,many2),r4) →
      Ext H0 Hb'→Hb' i=some (cs S4.zero)→Hb' j=some (cs out)→Hb' k=some (cs set)→RPs Hb' H' b r4 →
      zqu_29 nx Q E (some ⟨b,0,none⟩) (some ⟨i,0,none⟩) (some ⟨j,0,none⟩) x6 (first:Nat) (some ⟨k,0,none⟩) (last:Nat) many2 H':=by
    intro last many2 s2 r4 H' Hb' hl h45 hm he' hi' hj' hk' h'
    have c25:∀ (r5:RP) (H5:Heap),r.elem first set many=(set.with_ first last,r5)→RPs Hb' H5 b r5 →
        zqu_25 nx Q E (some ⟨b,0,none⟩) (some ⟨i,0,none⟩) (some ⟨j,0,none⟩) x6 (first:Nat) (some ⟨k,0,none⟩) (last:Nat) H5:=by
      intro r5 H5 hr h5
      unfold zqu_25
      simp only [ptr_some]
      refine ⟨_,_,_,_,S4.rd (h5.1 k _ hk'),?_⟩
      refine with_c (s:=set) hf hl fun H6 he6=>?_
      refine ⟨_,_,_,_,rfl,?_⟩
      have h6:=h5.ext he6
      refine S4.wr (set.with_ first last) (h6.1 k _ hk') ?_
      refine c22 _ _ _ (Hb'.set k (cs (set.with_ first last))) hr (he'.set hk0 _) ?_ ?_ (Heap.set_self _ _ _) (h6.upd' hk' _)
      · rw [Heap.set_ne _ _ hik]; exact hi'
      · rw [Heap.set_ne _ _ hjk]; exact hj'
    have el:∀ r5,(if many2=true∨last < first then r4.fail 80 else r4)=r5→r.elem first set many=(set.with_ first last,r5):=by
      intro r5 h5
      simp only [RP.elem,if_pos h45,hm,h5]
    unfold zqu_29
    cases many2 with
    | true =>
      refine sel_tt ?_
      unfold zqu_27
      refine sel_tt (fail_c h' fun H5 h5=>⟨_,rfl,c25 _ H5 (el _ (if_pos (.inl rfl))) h5⟩)
    | false =>
      refine sel_ff ?_
      unfold zqu_27
      refine sel_dec (fun hd=>?_) (fun hd=>?_)
      · exact fail_c h' fun H5 h5=>⟨_,rfl,c25 _ H5 (el _ (if_pos (.inr (by omega)))) h5⟩
      · exact c25 _ H' (el _ (if_neg (by simp; omega))) h'
  unfold zqu_46
  refine next_c h ?_
  refine ⟨_,_,rfl,?_⟩
  cases hn:r.next with
  | mk c ok =>
    have no:r.next ≠ (45,true)→zqu_39 nx Q E (some ⟨b,0,none⟩) (some ⟨i,0,none⟩) (some ⟨j,0,none⟩) x6 (some ⟨k,0,none⟩) H:=by
      intro hne
      unfold zqu_39
      exact c22 set r H Hb (by unfold RP.elem; rw [if_neg hne]) he hi hj hk h
    unfold zqu_43
    cases ok with
    | false =>
      refine sel_ff ?_
      unfold zqu_41
      exact sel_ff (no (by rw [hn]; simp))
    | true =>
      refine sel_tt ?_
      obtain ⟨g1,g2,g3,g4⟩:=RP.next_some hn
      unfold zqu_41
      refine sel_beq (fun h45=>?_) (fun h45=>no (by rw [hn]; simp; omega))
      obtain rfl:c=45:=by omega
      unfold zqu_36
      simp only [ptr_some]
      refine h.ld1 (h.st1 (a:=r.at_+1) (by rw [IntWalk.i64_in _ (by omega)]; omega) (by omega) fun H1 h1=>?_)
      have c33:∀ (r2:RP) (H2:Heap),(if many=true then r.inc.fail 80 else r.inc)=r2→RPs Hb H2 b r2 →
          zqu_33 nx Q E (some ⟨b,0,none⟩) (some ⟨i,0,none⟩) (some ⟨j,0,none⟩) x6 (first:Nat) (some ⟨k,0,none⟩) H2:=by
        intro r2 H2 hr2 h2
        unfold zqu_33
        refine member_c h2 fun n s2 k2 r4 H4 hm h4=>?_
        refine ⟨_,_,_,_,_,_,rfl,?_⟩
        intro m hm4
        have h5:=h4.new hm4 (.cells S4.zero.cells 46 (0,0))
        refine S4.wr s2 h5.1.get ?_
        have h6:=h5.upd (.cells s2.cells 46 (0,0))
        have hb:∀ {q o},Hb q=some o→(Hb.set m (.cells s2.cells 46 (0,0))) q=some o:=fun {q o} hq=>by
          rw [Heap.set_ne _ _ (ne_of (h4.1 _ _ hq) hm4)]; exact hq
        exact c27 n k2 s2 r4 _ (Hb.set m (.cells s2.cells 46 (0,0))) (member_byte hm) hn (by rw [hr2]; exact hm) (he.set ((he.trans h4.1).free hm4) _) (hb hi) (hb hj) (hb hk) h6
      cases many with
      | true=>exact sel_tt (fail_c h1 fun H2 h2=>⟨_,rfl,c33 _ H2 rfl h2⟩)
      | false=>exact sel_ff (c33 _ H1 rfl h1)
theorem class_c {H0 H:Heap} {b:Nat} {r:RP} {Q:QT} {E:ET} (h:RPs H0 H b r)
    (hk:∀ s r' H',r.class=(s,r')→RPs H0 H' b r'→Q (.agg s.cells) H'):Does Pr 113 #[.pointer (some ⟨b,0,none⟩)] H Q E:=by
  refine zqu_fn _ Q E H ?_
  have hsz:=h.bound
  unfold zqu
  intro i hi
  have hi0:H0 i=none:=h.1.free hi
  have h:=h.new hi (cs S4.zero)
  unfold zqu_80
  intro j hj
  have hij:i ≠ j:=ne_of (Heap.set_self _ _ _) hj
  have hj0:H0 j=none:=by have:=h.1.free hj; rwa [Heap.set_ne _ _ (Ne.symm hij)] at this
  have h:=h.new hj (cs S4.zero)
  have he0:Ext H0 ((H0.set i (cs S4.zero)).set j (cs S4.zero)):=((Ext.refl H0).set hi0 _).set hj0 _
  have hbi:((H0.set i (cs S4.zero)).set j (cs S4.zero)) i=some (cs S4.zero):=by rw [Heap.set_ne _ _ hij]; exact Heap.set_self _ _ _
  have hbj:((H0.set i (cs S4.zero)).set j (cs S4.zero)) j=some (cs S4.zero):=Heap.set_self _ _ _
  revert h he0 hbi hbj
  generalize (H0.set i (cs S4.zero)).set j (cs S4.zero)=Hb
  change RPs Hb ((H.set i (cs S4.zero)).set j (cs S4.zero)) b r→_→_→_→zqu_77 Q E _ _ _ ((H.set i (cs S4.zero)).set j (cs S4.zero))
  generalize (H.set i (cs S4.zero)).set j (cs S4.zero)=H1
  intro h he0 hbi hbj
  -- the loop
  have loop:∀ (r1:RP) (H2:Heap) (neg:Bool),(if r.next.1=94 then r.inc else r)=r1→(neg=true↔r.next.1=94)→RPs Hb H2 b r1 →
      zqu_67 Q E (some ⟨b,0,none⟩) (some ⟨i,0,none⟩) (some ⟨j,0,none⟩) neg H2:=by
    intro r1 H2 neg hr1 hneg h2
    have hs1:r1.s=r.s:=by rw [← hr1]; split <;> rfl
    generalize hR:r1.classLoop (r.s.size+1) false S4.zero=R
    have hcl:r.class=classOut r.next.1 R:=by unfold RP.class; rw [hr1,hR]
    unfold zqu_67 zqu_64
    refine ⟨fun x H'=>∃ (n:Nat) (out:S4) (r':RP) (Hb':Heap),r'.s.size < n+r'.at_∧r'.classLoop n x out=R∧r'.s=r.s∧Ext H0 Hb'∧Hb' i=some (cs S4.zero)∧Hb' j=some (cs out)∧RPs Hb' H' b r',
      fun _ H'=>r.s.size+1 - atOf b H',⟨r.s.size+1,S4.zero,r1,Hb,by rw [hs1]; omega,hR,hs1,he0,hbi,hbj,h2⟩,?_⟩
    rintro x H3 ⟨n,out,r',Hb',hn,hcr,hs',he',hi',hj',h'⟩
    have hsz':=h'.bound
    cases n with
    | zero=>omega
    | succ n =>
      have go:¬ (r'.next=(93,true)∧x=true)→zqu_50 (fun x' H1=>(∃ (n:Nat) (out:S4) (r':RP) (Hb':Heap),r'.s.size < n+r'.at_∧r'.classLoop n x' out=R∧r'.s=r.s∧Ext H0 Hb'∧Hb' i=some (cs S4.zero)∧Hb' j=some (cs out)∧RPs Hb' H1 b r')∧r.s.size+1 - atOf b H1 < r.s.size+1 - atOf b H3)
          Q E (some ⟨b,0,none⟩) (some ⟨i,0,none⟩) (some ⟨j,0,none⟩) neg H3:=by
        intro hno
        simp only [RP.classLoop,if_neg hno] at hcr
        unfold zqu_50
        refine member_c h' fun first set many r2 H4 hm h4=>?_
        rw [hm] at hcr
        simp only [] at hcr
        refine ⟨_,_,_,_,_,_,rfl,?_⟩
        intro k hk4
        have h5:=h4.new hk4 (.cells S4.zero.cells 46 (0,0))
        refine S4.wr set h5.1.get ?_
        have h6:=h5.upd (cs set)
        have hb:∀ {q o},Hb' q=some o→(Hb'.set k (cs set)) q=some o:=fun {q o} hq=>by
          rw [Heap.set_ne _ _ (ne_of (h4.1 _ _ hq) hk4)]; exact hq
        have hjk:j ≠ k:=ne_of (h4.1 _ _ hj') hk4
        have hik:i ≠ k:=ne_of (h4.1 _ _ hi') hk4
        have hk0:H0 k=none:=(he'.trans h4.1).free hk4
        obtain ⟨m1,m2⟩:=member_le hm
        refine class_46 h6 (he'.set hk0 _) hi0 (hb hi') (hb hj') (Heap.set_self _ _ _) hjk hij (member_byte hm) hj0 hk0 hik ?_ ?_
        · intro set' r3 H' hel he3 h7
          rw [hel] at hcr
          simp only [if_pos he3] at hcr
          exact hk S4.zero r3 H' (by rw [hcl,← hcr]; rfl) h7
        · intro set' r3 H' Hb2 hel he3 hx2 hbi2 hbj2 h7
          rw [hel] at hcr
          simp only [he3,ne_eq,not_true,if_false] at hcr
          have hle:=elem_le hel
          have hlt:r'.at_ < r3.at_:=by
            have h2e:r2.e=0:=by
              by_cases h:r2.e=0
              · exact h
              · exact absurd he3 (by rw [hle.e h]; exact h)
            have:=m2 h2e
            have:=hle.at_
            omega
          have hs3:r3.s=r'.s:=hle.s.trans m1.s
          have hb3:=h7.bound
          refine ⟨⟨n,out.or set',r3,Hb2,by rw [hs3]; omega,hcr,hs3.trans hs',hx2,hbi2,hbj2,h7⟩,?_⟩
          rw [h7.atOf,h'.atOf]
          rw [hs3,hs'] at hb3
          rw [hs'] at hsz'
          omega
      unfold zqu_58
      refine next_c h' ?_
      refine ⟨_,_,rfl,?_⟩
      cases hnx:r'.next with
      | mk c ok =>
        unfold zqu_55
        cases ok with
        | false =>
          refine sel_ff ?_
          unfold zqu_53
          exact sel_ff (go (by rw [hnx]; simp))
        | true =>
          refine sel_tt ?_
          obtain ⟨g1,g2,g3,g4⟩:=RP.next_some hnx
          refine sel_beq (fun h93=>?_) (fun h93=>?_)
          · obtain rfl:c=93:=by omega
            unfold zqu_53
            refine sel_mk (fun hx=>?_) (fun hx=>go (by simp [hx]))
            subst hx
            simp only [RP.classLoop] at hcr
            rw [if_pos ⟨hnx,trivial⟩] at hcr
            simp only [ptr_some]
            refine h'.ld1 (h'.st1 (a:=r'.at_+1) (by rw [IntWalk.i64_in _ (by omega)]; omega) (by omega) fun H4 h4=>?_)
            have h4:RPs Hb' H4 b r'.inc:=h4
            unfold zqu_3
            refine sel_mk (fun hng=>?_) (fun hng=>?_)
            · simp only [ptr_some]
              refine ⟨_,_,_,_,S4.rd (h4.1 j _ hj'),?_⟩
              refine not_c (s:=out) fun H5 he5=>?_
              refine ⟨_,_,_,_,rfl,?_⟩
              have h5:=h4.ext he5
              refine S4.wr out.not (h5.1 i _ hi') ⟨_,_,_,_,S4.rd (s:=out.not) (Heap.set_self _ _ _),?_⟩
              exact hk _ r'.inc _ (by rw [hcl,← hcr]; simp only [classOut,if_pos (hneg.1 hng)]) ((h5.upd' hi' (cs out.not)).weaken (he'.set hi0 _))
            · unfold zqu_1
              simp only [ptr_some]
              refine ⟨_,_,_,_,S4.rd (h4.1 j _ hj'),?_⟩
              refine S4.wr out (h4.1 i _ hi') ⟨_,_,_,_,S4.rd (s:=out) (Heap.set_self _ _ _),?_⟩
              have hnn:¬ r.next.1=94:=fun e=>by rw [hneg.2 e] at hng; cases hng
              exact hk _ r'.inc _ (by rw [hcl,← hcr]; simp only [classOut,if_neg hnn]) ((h4.upd' hi' (cs out)).weaken (he'.set hi0 _))
          · unfold zqu_53
            exact sel_ff (go (by rw [hnx]; simp; omega))
  unfold zqu_77
  refine next_c h ?_
  refine ⟨_,_,rfl,?_⟩
  unfold zqu_74 zqu_71
  cases hn:r.next with
  | mk c ok =>
    refine sel_mk (fun hc=>?_) (fun hc=>?_)
    · have hc' : c = 94 := by have : (c : Int) = 94 := by simpa using hc
                              omega
      have hat:r.at_ < r.s.size:=by
        cases ok with
        | true=>exact (RP.next_some hn).2.1
        | false=>have:=(RP.next_none hn).1; omega
      simp only [ptr_some]
      refine h.ld1 (h.st1 (a:=r.at_+1) (by rw [IntWalk.i64_in _ (by omega)]; omega) (by omega) fun H2 h2=>?_)
      refine loop r.inc H2 _ (by rw [hn]; simp [hc']) ?_ h2
      rw [hn]; simp [hc']
    · have hc':¬ c=94:=fun e=>by simp [e] at hc
      refine loop r H1 _ (by rw [hn]; simp [hc']) ?_ h
      rw [hn]; simp; omega
end Go.Proofs.Ytaffcoiomggpfaa
/- Contracts of package regex (3): the parser. -/
namespace Go.Proofs.Ytaffcoiomggpfaa
open Go.V
attribute [local irreducible] app
set_option linter.constructorNameAsVariable false
set_option linter.unusedVariables false
theorem classLoop_le:∀ (n:Nat) (x:Bool) (out:S4) (r:RP),r.Le (r.classLoop n x out).2
  | 0,_,_,r=>.refl _
  | n+1,x,out,r=>by
    unfold RP.classLoop
    split
    · exact .inc _
    · split
      rename_i first set many r1 hm
      split
      rename_i set' r5 he
      have h:=(member_le hm).1.trans (elem_le he)
      split
      · exact h
      · exact h.trans (classLoop_le n true _ r5)
theorem class_le (r:RP):r.Le r.class.2:=by
  have h1:r.Le (if r.next.1=94 then r.inc else r):=by
    split
    · exact .inc _
    · exact .refl _
  have h2:=h1.trans (classLoop_le (r.s.size+1) false S4.zero _)
  unfold RP.class
  generalize (if r.next.1=94 then r.inc else r).classLoop (r.s.size+1) false S4.zero=R at h2
  obtain ⟨⟨out,k⟩,r'⟩:=R
  cases k <;> exact h2
def nd (k:Int) (l r:Nat) (s:S4):Nd:=⟨k,l,r,s.a,s.b,s.c,s.d⟩
def RP.putN (r:RP) (x:Nd):Nat × RP:=(r.nds.length,r.put x)
def newline:ByteArray:=⟨[10].toArray⟩
def RP.up (r:RP):RP:={ r with op:=r.op+1 }
def RP.down (r:RP):RP:={ r with op:=r.op - 1 }
def atomOf (pat:RP→Nat × RP) (c:Nat) (r:RP):Nat × RP :=
  if c=46 then r.inc.putN (nd 2 0 0 (S4.bytesN newline 1).not)
  else if c=94 then r.inc.putN (nd 8 0 0 S4.zero)
  else if c=36 then r.inc.putN (nd 9 0 0 S4.zero)
  else if c=91 then r.inc.class.2.putN (nd 2 0 0 r.inc.class.1)
  else if c=93 then (0,r.inc.fail 80)
  else if c=42∨c=43∨c=63 then (0,r.inc.fail 81)
  else if c=92 then r.escape.2.putN (nd 2 0 0 r.escape.1.2.1)
  else if c=40 then
    if 24 < r.op+1 then (0,r.inc.up.fail 84)
    else
      let x:=pat r.inc.up
      (x.1,(if x.2.next=(41,true) then x.2.inc else x.2.fail 83).down)
  else r.inc.putN (nd 2 0 0 (S4.zero.with_ c c))
def signs:Nat→Nat→RP→Nat × RP
  | 0,n,r=>(n,r)
  | f+1,n,r=>if signOf r.next.1=0 then (n,r) else
    signs f r.nds.length (r.inc.put (nd (signOf r.next.1) n 0 S4.zero))
def partOf (pat:RP→Nat × RP) (c:Nat) (r:RP):Nat × RP:=signs (r.s.size+1) (atomOf pat c r).1 (atomOf pat c r).2
def altLoop (pat:RP→Nat × RP):Nat→Option Nat→RP→Nat × RP
  | 0,n,r=>(0,r)
  | f+1,n,r =>
    if r.next.2=false∨r.next.1=124∨r.next.1=41 then
      let r1:=if r.next=(41,true)∧r.op=0 then r.fail 83 else r
      match n with
      | none=>r1.putN (nd 1 0 0 S4.zero)
      | some m=>(m,r1)
    else
      let x:=partOf pat r.next.1 r
      match n with
      | none=>altLoop pat f (some x.1) x.2
      | some k=>altLoop pat f (some x.2.nds.length) (x.2.put (nd 3 k x.1 S4.zero))
def altOf (pat:RP→Nat × RP) (r:RP):Nat × RP:=altLoop pat (r.s.size+1) none r
def patLoop (pat:RP→Nat × RP):Nat→Nat→RP→Nat × RP
  | 0,n,r=>(n,r)
  | f+1,n,r=>if r.next=(124,true) then
      let x:=altOf pat r.inc
      patLoop pat f x.2.nds.length (x.2.put (nd 4 n x.1 S4.zero))
    else (n,r)
def patOf (pat:RP→Nat × RP) (r:RP):Nat × RP:=patLoop pat (r.s.size+1) (altOf pat r).1 (altOf pat r).2
def patN:Nat→RP→Nat × RP
  | 0,r=>(0,r)
  | n+1,r=>patOf (patN n) r
structure Up (r r':RP) (d:Int) (m:Nat):Prop where
  s:r'.s=r.s
  at_:r.at_+m≤r'.at_
  lo:r.op≤r'.op
  hi:r'.op≤r.op+1
  op:(r'.e=0∨r.e ≠ 0)→r'.op=r.op
  e:r.e ≠ 0→r'.e=r.e
  nds:(r'.nds.length:Int)+2 * r.at_≤r.nds.length+2 * r'.at_+d
theorem RP.Le.up {r r':RP} (h:r.Le r'):Up r r' 0 0 :=
  ⟨h.s,h.at_,by rw [h.op]; exact Nat.le_refl _,by rw [h.op]; exact Nat.le_succ _,fun _=>h.op,h.e,by rw [h.nds]; have:=h.at_; omega⟩
theorem Up.trans {a b c:RP} {d d':Int} {m m':Nat} (h:Up a b d m) (g:Up b c d' m'):Up a c (d+d') (m+m'):=by
  have h1:=h.op; have h2:=g.op; have h3:=h.e; have h4:=g.e
  refine ⟨g.s.trans h.s,by have:=h.at_; have:=g.at_; omega,Nat.le_trans h.lo g.lo,?_,?_,fun x=>(h4 (by rw [h3 x]; exact x)).trans (h3 x),by have:=h.nds; have:=g.nds; omega⟩
  · by_cases hb:b.e=0
    · rw [← h1 (.inl hb)]; exact g.hi
    · rw [h2 (.inr hb)]; exact h.hi
  · rintro (hc | ha)
    · have hb:b.e=0:=by
        by_cases hb:b.e=0
        · exact hb
        · exact absurd hc (by rw [h4 hb]; exact hb)
      rw [h2 (.inl hc),h1 (.inl hb)]
    · rw [h2 (.inr (by rw [h3 ha]; exact ha)),h1 (.inr ha)]
theorem Up.put {a b:RP} {d:Int} {m:Nat} (h:Up a b d m) (x:Nd):Up a (b.put x) (d+1) m :=
  ⟨h.s,h.at_,h.lo,h.hi,h.op,h.e,by have:=h.nds; simp only [RP.put,List.length_append,List.length_singleton]; omega⟩
theorem Up.inc {a b:RP} {d:Int} {m:Nat} (h:Up a b d m):Up a b.inc (d - 2) (m+1) :=
  ⟨h.s,by have:=h.at_; simp only [RP.inc]; omega,h.lo,h.hi,h.op,h.e,by have:=h.nds; simp only [RP.inc]; omega⟩
theorem Up.weak {a b:RP} {d d':Int} {m m':Nat} (h:Up a b d m) (hd:d≤d') (hm:m'≤m):Up a b d' m':=⟨h.s,by have:=h.at_; omega,h.lo,h.hi,h.op,h.e,by have:=h.nds; omega⟩
theorem Up.refl (r:RP):Up r r 0 0:=(RP.Le.refl r).up
theorem Up.fail {a b:RP} {d:Int} {m:Nat} (h:Up a b d m) {e:Int} (he:e ≠ 0):Up a (b.fail e) d m:=by
  have:=h.trans (RP.Le.fail b e he).up
  simpa using this
theorem fail_op (r:RP) (e:Int):(r.fail e).op=r.op∧(r.fail e).nds=r.nds∧(r.fail e).at_=r.at_∧(r.fail e).s=r.s:=by
  unfold RP.fail; split <;> simp
theorem atomOf_up {pat:RP→Nat × RP} (hp:∀ r,Up r (pat r).2 1 0) (c:Nat) (r:RP) (he:r.e=0):Up r (atomOf pat c r).2 (-1) 1:=by
  have h0:=(Up.refl r).inc
  unfold atomOf
  split
  · exact (h0.put _).weak (by omega) (by omega)
  split
  · exact (h0.put _).weak (by omega) (by omega)
  split
  · exact (h0.put _).weak (by omega) (by omega)
  split
  · exact ((h0.trans (class_le _).up).put _).weak (by omega) (by omega)
  split
  · exact (h0.fail (by decide)).weak (by omega) (by omega)
  split
  · exact (h0.fail (by decide)).weak (by omega) (by omega)
  split
  · exact ((h0.trans (escape_le (x:=r.escape.1) rfl).up).put _).weak (by omega) (by omega)
  split
  · split
    · obtain ⟨f1,f2,f3,f4⟩:=fail_op r.inc.up 84
      have fe:=RP.fail_e r.inc.up (e:=84) (by decide)
      refine ⟨f4,by rw [f3]; simp [RP.up,RP.inc],by rw [f1]; simp [RP.up,RP.inc],by rw [f1]; simp [RP.up,RP.inc],fun h=>?_,fun h=>absurd he h,by rw [f2,f3]; simp only [RP.up,RP.inc]; omega⟩
      rcases h with h | h
      · exact absurd h fe
      · exact absurd he h
    · have h:=hp r.inc.up
      dsimp only
      generalize (pat r.inc.up).2=q at h ⊢
      have h2:Up r.inc.up (if q.next=(41,true) then q.inc else q.fail 83) 1 0:=by
        split
        · exact h.inc.weak (by omega) (by omega)
        · exact h.fail (by decide)
      generalize (if q.next=(41,true) then q.inc else q.fail 83)=q2 at h2 ⊢
      obtain ⟨a1,a2,a3,a4,a5,a6,a7⟩:=h2
      simp only [RP.up,RP.inc] at a1 a2 a3 a4 a5 a7
      refine ⟨a1,by simp only [RP.down]; omega,by simp only [RP.down]; omega,by simp only [RP.down]; omega,fun h=>?_,fun h=>absurd he h,by simp only [RP.down]; omega⟩
      rcases h with h | h
      · have:=a5 (.inl h); simp only [RP.down]; omega
      · exact absurd he h
  · exact (h0.put _).weak (by omega) (by omega)
theorem signs_up:∀ (f n:Nat) (r:RP),Up r (signs f n r).2 0 0
  | 0,n,r=>.refl r
  | f+1,n,r=>by
    unfold signs
    split
    · exact .refl r
    · exact (((Up.refl r).inc.put _).trans (signs_up f _ _)).weak (by omega) (by omega)
theorem partOf_up {pat:RP→Nat × RP} (hp:∀ r,Up r (pat r).2 1 0) (c:Nat) (r:RP) (he:r.e=0):Up r (partOf pat c r).2 (-1) 1 :=
  ((atomOf_up hp c r he).trans (signs_up _ _ _)).weak (by omega) (by omega)
theorem next_e {r:RP} (h:¬ (r.next.2=false)):r.e=0:=by
  have:r.next=(r.next.1,true):=Prod.ext rfl (by simpa using h)
  exact (RP.next_some this).1
theorem altLoop_up {pat:RP→Nat × RP} (hp:∀ r,Up r (pat r).2 1 0):∀ (f:Nat) (n:Option Nat) (r:RP),Up r (altLoop pat f n r).2 (if n.isSome then 0 else 1) 0
  | 0,n,r=>(Up.refl r).weak (by split <;> omega) (by omega)
  | f+1,n,r=>by
    unfold altLoop
    split
    · have h1:Up r (if r.next=(41,true)∧r.op=0 then r.fail 83 else r) 0 0:=by
        split
        · exact (Up.refl r).fail (by decide)
        · exact .refl r
      cases n with
      | none=>exact (h1.put _).weak (by simp) (by omega)
      | some m=>exact h1.weak (by simp) (by omega)
    · rename_i hno
      have he:=next_e (fun h=>hno (.inl h))
      have h1:=partOf_up hp r.next.1 r he
      cases n with
      | none=>exact (h1.trans (altLoop_up hp f (some _) _)).weak (by simp) (by omega)
      | some k=>exact ((h1.put _).trans (altLoop_up hp f (some _) _)).weak (by simp) (by omega)
theorem altOf_up {pat:RP→Nat × RP} (hp:∀ r,Up r (pat r).2 1 0) (r:RP):Up r (altOf pat r).2 1 0:=altLoop_up hp _ none r
theorem patLoop_up {pat:RP→Nat × RP} (hp:∀ r,Up r (pat r).2 1 0):∀ (f n:Nat) (r:RP),Up r (patLoop pat f n r).2 0 0
  | 0,n,r=>.refl r
  | f+1,n,r=>by
    unfold patLoop
    split
    · exact ((((Up.refl r).inc.trans (altOf_up hp r.inc)).put _).trans (patLoop_up hp f _ _)).weak (by omega) (by omega)
    · exact .refl r
theorem patN_up:∀ (n:Nat) (r:RP),Up r (patN n r).2 1 0
  | 0,r=>(Up.refl r).weak (by omega) (by omega)
  | n+1,r=>((altOf_up (patN_up n) r).trans (patLoop_up (patN_up n) _ _ _)).weak (by omega) (by omega)
end Go.Proofs.Ytaffcoiomggpfaa
/- Contracts of package regex (4): the parser. -/
namespace Go.Proofs.Ytaffcoiomggpfaa
open Go.V
attribute [local irreducible] app
set_option linter.constructorNameAsVariable false
set_option linter.unusedVariables false
def PatC (pat:RP→Nat × RP) (op:Nat):Prop:=∀ {H0 H:Heap} {b:Nat} {r:RP} {Q:QT} {E:ET},RPs H0 H b r→r.op=op→r.nds.length≤2 * r.at_+6 →
  (∀ H',RPs H0 H' b (pat r).2→Q (.int .i64 ((pat r).1:Nat)) H')→Does Pr 60 #[.pointer (some ⟨b,0,none⟩)] H Q E
theorem RPs.cap {H0 H:Heap} {b:Nat} {r:RP} (h:RPs H0 H b r) (hn:r.nds.length≤2 * r.at_+100):r.nds.length < 1048576:=by have:=h.bound; omega
theorem put_c' {H0 H:Heap} {b:Nat} {r:RP} (x:Nd) {Q:QT} {E:ET} (h:RPs H0 H b r) (hn:r.nds.length≤2 * r.at_+100)
    (hk:∀ H',RPs H0 H' b (r.putN x).2→Q (.int .i64 ((r.putN x).1:Nat)) H') :
    Does Pr 95 #[.pointer (some ⟨b,0,none⟩),.agg #[.int .i64 x.k,.int .i64 x.l,.int .i64 x.r,.int .u64 x.a,.int .u64 x.b,.int .u64 x.c,.int .u64 x.d]] H
      (fun v H'=>∃ n:Int,v=.int .i64 n∧Q (.int .i64 n) H') E :=
  put_c h (h.cap hn) fun H' h'=>⟨_,rfl,hk H' h'⟩
theorem put_k {H0 H:Heap} {b:Nat} {r:RP} (x:Nd) {K:Int→Heap→Prop} {E:Chain→Heap→Prop} (h:RPs H0 H b r) (hn:r.nds.length≤2 * r.at_+100)
    (hk:∀ H',RPs H0 H' b (r.putN x).2→K ((r.putN x).1:Nat) H') :
    Does Pr 95 #[.pointer (some ⟨b,0,none⟩),.agg #[.int .i64 x.k,.int .i64 x.l,.int .i64 x.r,.int .u64 x.a,.int .u64 x.b,.int .u64 x.c,.int .u64 x.d]] H
      (fun v H'=>∃ n:Int,v=.int .i64 n∧K n H') E :=
  put_c h (h.cap hn) fun H' h'=>⟨_,rfl,hk H' h'⟩
theorem atom_c {pat:RP→Nat × RP} {c:Nat} {H0 H:Heap} {b:Nat} {r:RP} {Q:QT} {E:ET} (hup:∀ r,Up r (pat r).2 1 0)
    (hp:r.op+1≤24→PatC pat (r.op+1)) (h:RPs H0 H b r) (he:r.e=0) (hat:r.at_ < r.s.size) (hc:c≤255) (hn:r.nds.length≤2 * r.at_+6) (hop:r.op≤24)
    (hk:∀ H',RPs H0 H' b (atomOf pat c r).2→Q (.int .i64 ((atomOf pat c r).1:Nat)) H') :
    Does Pr 106 #[.pointer (some ⟨b,0,none⟩),.int .u8 (c:Nat)] H Q E:=by
  refine zqe2_fn _ _ Q E H ?_
  have hsz:=h.bound
  unfold zqe2 zqe2_81
  simp only [ptr_some]
  refine h.ld1 (h.st1 (a:=r.at_+1) (by rw [IntWalk.i64_in _ (by omega)]; omega) (by omega) fun H1 h1=>?_)
  have h1:RPs H0 H1 b r.inc:=h1
  have hn1:r.inc.nds.length≤2 * r.inc.at_+100:=by simp only [RP.inc]; omega
  unfold zqe2_77 zqe2_73 zqe2_71
  refine sel_beq (fun h46=>?_) (fun h46=>?_)
  · obtain rfl:c=46:=by omega
    have e:atomOf pat 46 r=r.inc.putN (nd 2 0 0 (S4.bytesN newline 1).not):=by simp [atomOf]
    rw [e] at hk
    unfold zqe2_3
    refine bytesOf_c (s:=newline) (by decide) fun H2 he2=>⟨_,_,_,_,rfl,?_⟩
    refine not_c (s:=S4.bytesN newline 1) fun H3 he3=>⟨_,_,_,_,rfl,?_⟩
    exact put_c' (nd 2 0 0 (S4.bytesN newline 1).not) ((h1.ext he2).ext he3) hn1 hk
  unfold zqe2_68 zqe2_66
  refine sel_beq (fun h94=>?_) (fun h94=>?_)
  · obtain rfl:c=94:=by omega
    have e:atomOf pat 94 r=r.inc.putN (nd 8 0 0 S4.zero):=by simp [atomOf]
    rw [e] at hk
    exact put_c' (nd 8 0 0 S4.zero) h1 hn1 hk
  unfold zqe2_63 zqe2_61
  refine sel_beq (fun h36=>?_) (fun h36=>?_)
  · obtain rfl:c=36:=by omega
    have e:atomOf pat 36 r=r.inc.putN (nd 9 0 0 S4.zero):=by simp [atomOf]
    rw [e] at hk
    exact put_c' (nd 9 0 0 S4.zero) h1 hn1 hk
  unfold zqe2_58 zqe2_56
  refine sel_beq (fun h91=>?_) (fun h91=>?_)
  · obtain rfl:c=91:=by omega
    have e:atomOf pat 91 r=r.inc.class.2.putN (nd 2 0 0 r.inc.class.1):=by simp [atomOf]
    rw [e] at hk
    unfold zqe2_9
    refine class_c h1 fun s r' H2 hs h2=>⟨_,_,_,_,rfl,?_⟩
    rw [hs] at hk
    have hle:=class_le r.inc
    rw [hs] at hle
    exact put_c' (nd 2 0 0 s) h2 (by have:=hle.at_; rw [hle.nds]; simp only [RP.inc] at *; omega) hk
  unfold zqe2_53 zqe2_51
  refine sel_beq (fun h93=>?_) (fun h93=>?_)
  · obtain rfl:c=93:=by omega
    have e:atomOf pat 93 r=(0,r.inc.fail 80):=by simp [atomOf]
    rw [e] at hk
    unfold zqe2_11
    refine fail_c h1 fun H2 h2=>⟨_,rfl,?_⟩
    unfold zqe2_1
    exact hk _ h2
  have signs81:c=42∨c=43∨c=63→zqe2_13 Q E (some ⟨b,0,none⟩) H1:=fun hs=>by
    have e:atomOf pat c r=(0,r.inc.fail 81):=by unfold atomOf; rw [if_neg (by omega),if_neg (by omega),if_neg (by omega),if_neg (by omega),if_neg (by omega),if_pos hs]
    rw [e] at hk
    unfold zqe2_13
    refine fail_c h1 fun H2 h2=>⟨_,rfl,?_⟩
    unfold zqe2_1
    exact hk _ h2
  unfold zqe2_48
  have last:¬ (c=42∨c=43∨c=63)→zqe2_43 Q E (some ⟨b,0,none⟩) (c:Nat) (c:Nat) H1:=by
    intro hns
    unfold zqe2_43 zqe2_41
    refine sel_beq (fun h92=>?_) (fun h92=>?_)
    · obtain rfl:c=92:=by omega
      have e:atomOf pat 92 r=r.escape.2.putN (nd 2 0 0 r.escape.1.2.1):=by simp [atomOf]
      rw [e] at hk
      unfold zqe2_15
      simp only [ptr_some]
      refine h1.ld1 (h1.st1 (a:=r.at_) (by simp only [RP.inc]; rw [IntWalk.i64_in _ (by omega)]; omega) (by simp only [RP.inc]; omega) fun H2 h2=>?_)
      have h2:RPs H0 H2 b r:=h2
      refine escape_c h2 hat fun n s k r' H3 hs h3=>⟨_,_,_,_,_,_,rfl,?_⟩
      rw [hs] at hk
      intro i hi
      have h4:=h3.new hi (.cells S4.zero.cells 46 (0,0))
      refine S4.wr s h4.1.get ?_
      have h5:=h4.upd (.cells s.cells 46 (0,0))
      refine ⟨_,_,_,_,S4.rd (s:=s) (Heap.set_self _ _ _),?_⟩
      have hle:=escape_le hs
      exact put_c' (nd 2 0 0 s) (RPs.old (h3.1.free hi) h5) (by have:=hle.at_; rw [hle.nds]; simp only [RP.inc] at *; omega) hk
    unfold zqe2_38 zqe2_36
    refine sel_beq (fun h40=>?_) (fun h40=>?_)
    · obtain rfl:c=40:=by omega
      unfold zqe2_31
      simp only [ptr_some]
      refine h1.ld2 (h1.st2 (a:=r.op+1) (by simp only [RP.inc]; rw [IntWalk.i64_in _ (by omega)]; omega) fun H2 h2=>?_)
      have h2:RPs H0 H2 b r.inc.up:=h2
      refine h2.ld2 ?_
      refine sel_dec (fun hd=>?_) (fun hd=>?_)
      · have hd:24 < r.op+1:=by simp only [RP.up,RP.inc] at hd; omega
        have e:atomOf pat 40 r=(0,r.inc.up.fail 84):=by simp [atomOf,hd]
        rw [e] at hk
        exact fail_c h2 fun H3 h3=>⟨_,rfl,hk _ h3⟩
      · have hd:¬ 24 < r.op+1:=by simp only [RP.up,RP.inc] at hd; omega
        have e:atomOf pat 40 r=((pat r.inc.up).1,(if (pat r.inc.up).2.next=(41,true) then (pat r.inc.up).2.inc else (pat r.inc.up).2.fail 83).down):=by simp [atomOf,hd]
        rw [e] at hk
        unfold zqe2_28
        refine hp (by omega) h2 rfl (by simp only [RP.up,RP.inc]; omega) fun H3 h3=>⟨_,rfl,?_⟩
        have hu:=hup r.inc.up
        revert h3 hu hk
        generalize pat r.inc.up=X
        intro hk h3 hu
        have hb3:=h3.bound
        have c17:∀ (r4:RP) (H4:Heap),(if X.2.next=(41,true) then X.2.inc else X.2.fail 83)=r4→r4.op=X.2.op→RPs H0 H4 b r4→zqe2_17 Q E (some ⟨b,0,none⟩) (X.1:Nat) H4:=by
          intro r4 H4 hr4 ho4 h4
          unfold zqe2_17
          simp only [ptr_some]
          have hlo:=hu.lo
          have hhi:=hu.hi
          simp only [RP.up,RP.inc] at hlo hhi
          refine h4.ld2 (h4.st2 (a:=r4.op - 1) (by rw [IntWalk.i64_in _ (by omega)]; omega) fun H5 h5=>?_)
          rw [hr4] at hk
          exact hk _ h5
        unfold zqe2_24
        refine next_c h3 ⟨_,_,rfl,?_⟩
        unfold zqe2_21
        have bad:X.2.next ≠ (41,true)→Does Pr 103 #[.pointer (some ⟨b,0,none⟩),.int .i64 83] H3 (fun v192 H193=>∃ n194:Int,v192=(.int .i64 n194)∧zqe2_17 Q E (some ⟨b,0,none⟩) (X.1:Nat) H193) E:=fun hne =>
          fail_c h3 fun H4 h4=>⟨_,rfl,c17 _ H4 (if_neg hne) (fail_op _ _).1 h4⟩
        cases hnx:X.2.next with
        | mk d ok =>
          cases ok with
          | false =>
            refine sel_ff ?_
            unfold zqe2_19
            exact sel_ff (bad (by rw [hnx]; simp))
          | true =>
            refine sel_tt ?_
            obtain ⟨g1,g2,g3,g4⟩:=RP.next_some hnx
            unfold zqe2_19
            refine sel_beq (fun h41=>?_) (fun h41=>bad (by rw [hnx]; simp; omega))
            obtain rfl:d=41:=by omega
            simp only [ptr_some]
            refine h3.ld1 (h3.st1 (a:=X.2.at_+1) (by rw [IntWalk.i64_in _ (by omega)]; omega) (by omega) fun H4 h4=>?_)
            exact c17 X.2.inc H4 (if_pos hnx) rfl h4
    · have e:atomOf pat c r=r.inc.putN (nd 2 0 0 (S4.zero.with_ c c)):=by
        unfold atomOf
        rw [if_neg (by omega),if_neg (by omega),if_neg (by omega),if_neg (by omega),if_neg (by omega),if_neg (by omega),if_neg (by omega),if_neg (by omega)]
      rw [e] at hk
      unfold zqe2_34
      refine with_c (s:=S4.zero) hc hc fun H2 he2=>⟨_,_,_,_,rfl,?_⟩
      exact put_c' (nd 2 0 0 (S4.zero.with_ c c)) (h1.ext he2) hn1 hk
  refine sel_beq (fun h42=>?_) (fun h42=>?_)
  · unfold zqe2_46
    exact sel_mk (fun _=>signs81 (by omega)) (fun hf=>by simp at hf; omega)
  refine sel_beq (fun h43=>?_) (fun h43=>?_)
  · unfold zqe2_46
    exact sel_mk (fun _=>signs81 (by omega)) (fun hf=>by simp at hf; omega)
  unfold zqe2_46
  exact sel_beq (fun h63=>signs81 (by omega)) (fun h63=>last (by omega))
theorem signOf_pos {c:Nat} (h:signOf c ≠ 0):c=42∨c=43∨c=63:=by
  unfold signOf at h; repeat' split at h
  all_goals omega
theorem part_c {pat:RP→Nat × RP} {c:Nat} {H0 H:Heap} {b:Nat} {r:RP} {Q:QT} {E:ET} (hup:∀ r,Up r (pat r).2 1 0)
    (hp:r.op+1≤24→PatC pat (r.op+1)) (h:RPs H0 H b r) (he:r.e=0) (hat:r.at_ < r.s.size) (hc:c≤255) (hn:r.nds.length≤2 * r.at_+6) (hop:r.op≤24)
    (hk:∀ H',RPs H0 H' b (partOf pat c r).2→Q (.int .i64 ((partOf pat c r).1:Nat)) H') :
    Does Pr 104 #[.pointer (some ⟨b,0,none⟩),.int .u8 (c:Nat)] H Q E:=by
  refine zqd2_fn _ _ Q E H ?_
  unfold zqd2 zqd2_13
  refine atom_c hup hp h he hat hc hn hop fun H1 h1=>⟨_,rfl,?_⟩
  have hu:=atomOf_up hup c r he
  generalize hR:partOf pat c r=R at hk
  have hR:signs (r.s.size+1) (atomOf pat c r).1 (atomOf pat c r).2=R:=hR
  revert h1 hu hR
  generalize atomOf pat c r=X
  intro h1 hu hR
  unfold zqd2_10
  refine ⟨fun x H'=>∃ (f n:Nat) (r':RP),x=(n:Nat)∧r'.s.size < f+r'.at_∧signs f n r'=R∧r'.s=r.s∧r'.nds.length≤2 * r'.at_+6∧RPs H0 H' b r',fun _ H'=>r.s.size+1 - atOf b H',
    ⟨r.s.size+1,X.1,X.2,rfl,by have:=hu.s; rw [this]; omega,hR,hu.s,by have:=hu.nds; omega,h1⟩,?_⟩
  rintro x H2 ⟨f,n,r',rfl,hf,hs,hs',hn',h2⟩
  have hb:=h2.bound
  cases f with
  | zero=>omega
  | succ f =>
    unfold signs at hs
    unfold zqd2_6 zqd2_3
    refine next_c h2 ⟨_,_,rfl,?_⟩
    have sg:∀ k:Nat,signOf r'.next.1=k→k ≠ 0→zqd2_1 (fun x' H1=>(∃ (f n:Nat) (r':RP),x'=(n:Nat)∧r'.s.size < f+r'.at_∧signs f n r'=R∧r'.s=r.s∧r'.nds.length≤2 * r'.at_+6∧RPs H0 H1 b r')∧r.s.size+1 - atOf b H1 < r.s.size+1 - atOf b H2)
        Q E (some ⟨b,0,none⟩) (n:Nat) (k:Nat) H2:=by
      intro k hk' hk0
      rw [hk',if_neg hk0] at hs
      have hlt:r'.at_ < r'.s.size:=by
        cases hnx:r'.next with
        | mk d ok =>
          cases ok with
          | true=>exact (RP.next_some hnx).2.1
          | false =>
            have:=(RP.next_none hnx).1
            subst this
            rw [hnx] at hk'
            exact absurd hk'.symm hk0
      unfold zqd2_1
      simp only [ptr_some]
      refine h2.ld1 (h2.st1 (a:=r'.at_+1) (by rw [IntWalk.i64_in _ (by omega)]; omega) (by omega) fun H3 h3=>?_)
      have h3:RPs H0 H3 b r'.inc:=h3
      refine put_k (nd k n 0 S4.zero) h3 (by simp only [RP.inc]; omega) fun H4 h4=>?_
      refine ⟨⟨f,r'.nds.length,r'.inc.put (nd k n 0 S4.zero),rfl,by simp only [RP.put,RP.inc]; omega,hs,hs',by simp [RP.put,RP.inc]; omega,h4⟩,?_⟩
      have h4:RPs H0 H4 b (r'.inc.put (nd k n 0 S4.zero)):=h4
      rw [h4.atOf,h2.atOf]
      simp only [RP.put,RP.inc]
      rw [hs'] at hlt; omega
    refine sel_beq (fun h42=>?_) (fun h42=>?_)
    · exact sg 5 (by unfold signOf; rw [if_pos (by omega)]) (by decide)
    refine sel_beq (fun h43=>?_) (fun h43=>?_)
    · exact sg 6 (by unfold signOf; rw [if_neg (by omega),if_pos (by omega)]) (by decide)
    refine sel_beq (fun h63=>?_) (fun h63=>?_)
    · exact sg 7 (by unfold signOf; rw [if_neg (by omega),if_neg (by omega),if_pos (by omega)]) (by decide)
    have h0:signOf r'.next.1=0:=by unfold signOf; rw [if_neg (by omega),if_neg (by omega),if_neg (by omega)]
    rw [if_pos h0] at hs
    subst hs
    exact hk _ h2
def optI:Option Nat→Int
  | none=>-1
  | some n=>(n:Nat)
theorem alt_c {pat:RP→Nat × RP} {H0 H:Heap} {b:Nat} {r:RP} {Q:QT} {E:ET} (hup:∀ r,Up r (pat r).2 1 0)
    (hp:r.op+1≤24→PatC pat (r.op+1)) (h:RPs H0 H b r) (hn:r.nds.length≤2 * r.at_+6) (hop:r.op≤24)
    (hk:∀ H',RPs H0 H' b (altOf pat r).2→Q (.int .i64 ((altOf pat r).1:Nat)) H') :
    Does Pr 93 #[.pointer (some ⟨b,0,none⟩)] H Q E:=by
  refine zqz1_fn _ Q E H ?_
  unfold zqz1 zqz1_34 zqz1_30
  generalize hR:altOf pat r=R at hk
  have hR:altLoop pat (r.s.size+1) none r=R:=hR
  refine ⟨fun x H'=>∃ (f:Nat) (n:Option Nat) (r':RP),x=optI n∧r'.s.size < f+r'.at_∧altLoop pat f n r'=R∧r'.s=r.s∧(r'.e=0→r'.op=r.op)∧r'.nds.length≤2 * r'.at_+6∧RPs H0 H' b r',fun _ H'=>r.s.size+1 - atOf b H',
    ⟨r.s.size+1,none,r,rfl,by omega,hR,rfl,fun _=>rfl,hn,h⟩,?_⟩
  rintro x H2 ⟨f,n,r',rfl,hf,hs,hs',ho',hn',h2⟩
  have hb:=h2.bound
  cases f with
  | zero=>omega
  | succ f =>
    unfold altLoop at hs
    unfold zqz1_26
    refine next_c h2 ⟨_,_,rfl,?_⟩
    generalize hNX:(fun (x3':Int) (H1:Heap)=>(∃ (f:Nat) (n:Option Nat) (r':RP),x3'=optI n∧r'.s.size < f+r'.at_∧altLoop pat f n r'=R∧r'.s=r.s∧(r'.e=0→r'.op=r.op)∧r'.nds.length≤2 * r'.at_+6∧RPs H0 H1 b r')∧r.s.size+1 - atOf b H1 < r.s.size+1 - atOf b H2)=nx
    -- the end
    have fin:(r'.next.2=false∨r'.next.1=124∨r'.next.1=41)→∀ (r1:RP) (H3:Heap),(if r'.next=(41,true)∧r'.op=0 then r'.fail 83 else r')=r1→r1.nds=r'.nds→r1.at_=r'.at_→RPs H0 H3 b r1→zqz1_14 nx Q E (some ⟨b,0,none⟩) (optI n) (r'.next.1:Nat) true H3:=by
      intro hfin r1 H3 hr1 hn1 ha1 h3
      rw [if_pos hfin] at hs
      simp only [hr1] at hs
      unfold zqz1_14
      refine sel_tt ?_
      unfold zqz1_3
      cases n with
      | none =>
        refine sel_dec (fun _=>?_) (fun hd=>absurd hd (by simp [optI]))
        subst hs
        exact put_c' (nd 1 0 0 S4.zero) h3 (by rw [hn1,ha1]; omega) hk
      | some m =>
        refine sel_dec (fun hd=>absurd hd (by simp only [optI]; omega)) (fun _=>?_)
        unfold zqz1_1
        subst hs
        exact hk _ h3
    have go:¬ (r'.next.2=false∨r'.next.1=124∨r'.next.1=41)→zqz1_11 nx Q E (some ⟨b,0,none⟩) (optI n) (r'.next.1:Nat) H2:=by
      intro hno
      rw [if_neg hno] at hs
      have hnx:r'.next=(r'.next.1,true):=Prod.ext rfl (by simpa using fun h=>hno (.inl h))
      obtain ⟨g1,g2,g3,g4⟩:=RP.next_some hnx
      have ho:=ho' g1
      unfold zqz1_11
      have hu:=partOf_up hup r'.next.1 r' g1
      refine part_c hup (by rw [ho]; exact hp) h2 g1 g2 g4 hn' (by omega) fun H3 h3=>⟨_,rfl,?_⟩
      revert hs h3 hu
      generalize partOf pat r'.next.1 r'=X
      intro hs hu h3
      have hus:=hu.s; have hua:=hu.at_; have hun:=hu.nds; have huo:=hu.op; have hb3:=h3.bound
      rw [hus,hs'] at hb3
      unfold zqz1_8
      cases n with
      | none =>
        refine sel_dec (fun hd=>absurd hd (by simp [optI])) (fun _=>?_)
        unfold zqz1_6
        subst hNX
        refine ⟨⟨f,some X.1,X.2,rfl,by rw [hus]; omega,hs,hus.trans hs',fun h=>(huo (.inl h)).trans ho,by omega,h3⟩,?_⟩
        rw [h3.atOf,h2.atOf]; omega
      | some k =>
        refine sel_dec (fun _=>?_) (fun hd=>absurd hd (by simp only [optI]; omega))
        refine put_k (nd 3 k X.1 S4.zero) h3 (by omega) fun H4 h4=>?_
        have h4:RPs H0 H4 b (X.2.put (nd 3 k X.1 S4.zero)):=h4
        unfold zqz1_6
        subst hNX
        refine ⟨⟨f,some X.2.nds.length,X.2.put (nd 3 k X.1 S4.zero),rfl,by simp only [RP.put]; rw [hus]; omega,hs,hus.trans hs',fun h=>(huo (.inl h)).trans ho,by simp [RP.put]; omega,h4⟩,?_⟩
        rw [h4.atOf,h2.atOf]; simp only [RP.put]; omega
    have c16:∀ (r1:RP) (H3:Heap),(if r'.next=(41,true)∧r'.op=0 then r'.fail 83 else r')=r1→r1.nds=r'.nds→r1.at_=r'.at_→RPs H0 H3 b r1→(r1=r'∧H3=H2∨r'.next=(41,true))→zqz1_16 nx Q E (some ⟨b,0,none⟩) (optI n) (r'.next.1:Nat) r'.next.2 H3:=by
      intro r1 H3 hr1 hn1 ha1 h3 hor
      unfold zqz1_16
      refine sel_not (fun hf=>?_) (fun ht=>?_)
      · exact fin (.inl hf) r1 H3 hr1 hn1 ha1 h3
      refine sel_beq (fun h124=>?_) (fun h124=>?_)
      · exact fin (.inr (.inl (by omega))) r1 H3 hr1 hn1 ha1 h3
      by_cases h41:r'.next.1=41
      · have:((r'.next.1:Nat):Int) == 41:=by simp [h41]
        rw [this]
        exact fin (.inr (.inr h41)) r1 H3 hr1 hn1 ha1 h3
      · have:(((r'.next.1:Nat):Int) == 41)=false:=by simp; omega
        rw [this]
        unfold zqz1_14
        refine sel_ff ?_
        rcases hor with ⟨rfl,rfl⟩ | hor
        · refine go ?_
          rw [ht]; simp; omega
        · rw [hor] at h41; exact absurd rfl h41
    unfold zqz1_22
    have plain:¬ (r'.next=(41,true)∧r'.op=0)→zqz1_16 nx Q E (some ⟨b,0,none⟩) (optI n) (r'.next.1:Nat) r'.next.2 H2:=fun hno =>
      c16 r' H2 (if_neg hno) rfl rfl h2 (.inl ⟨rfl,rfl⟩)
    refine sel_mk (fun ht=>?_) (fun hf=>?_)
    · refine sel_beq (fun h41=>?_) (fun h41=>?_)
      · have hnx:r'.next=(41,true):=Prod.ext (by simp only []; omega) ht
        simp only [ptr_some]
        refine h2.ld2 ?_
        unfold zqz1_20
        refine sel_beq (fun h0=>?_) (fun h0=>?_)
        · refine fail_c h2 fun H3 h3=>⟨_,rfl,?_⟩
          obtain ⟨f1,f2,f3,f4⟩:=fail_op r' 83
          exact c16 (r'.fail 83) H3 (if_pos ⟨hnx,by omega⟩) f2 f3 h3 (.inr hnx)
        · exact plain fun h=>by omega
      · unfold zqz1_20
        exact sel_ff (plain fun h=>h41 (by rw [h.1]; rfl))
    · unfold zqz1_20
      exact sel_ff (plain fun h=>by rw [h.1] at hf; cases hf)
theorem pattern_c {pat:RP→Nat × RP} {op:Nat} (hup:∀ r,Up r (pat r).2 1 0) (hp:op+1≤24→PatC pat (op+1)) (hop:op≤24):PatC (patOf pat) op:=by
  intro H0 H b r Q E h ho hn hk
  subst ho
  refine zqx1_fn _ Q E H ?_
  unfold zqx1 zqx1_16
  refine alt_c hup hp h hn hop fun H1 h1=>⟨_,rfl,?_⟩
  have hu:=altOf_up hup r
  generalize hR:patOf pat r=R at hk
  have hR:patLoop pat (r.s.size+1) (altOf pat r).1 (altOf pat r).2=R:=hR
  revert h1 hu hR
  generalize altOf pat r=X
  intro h1 hu hR
  unfold zqx1_13
  refine ⟨fun x H'=>∃ (f n:Nat) (r':RP),x=(n:Nat)∧r'.s.size < f+r'.at_∧patLoop pat f n r'=R∧r'.s=r.s∧(r'.e=0→r'.op=r.op)∧r'.nds.length≤2 * r'.at_+7∧RPs H0 H' b r',fun _ H'=>r.s.size+1 - atOf b H',
    ⟨r.s.size+1,X.1,X.2,rfl,by rw [hu.s]; omega,hR,hu.s,fun h=>hu.op (.inl h),by have:=hu.nds; omega,h1⟩,?_⟩
  rintro x H2 ⟨f,n,r',rfl,hf,hs,hs',ho',hn',h2⟩
  have hb:=h2.bound
  cases f with
  | zero=>omega
  | succ f =>
    unfold patLoop at hs
    unfold zqx1_8
    refine next_c h2 ⟨_,_,rfl,?_⟩
    have stop:r'.next ≠ (124,true)→Q (.int .i64 (n:Nat)) H2:=fun hne=>by
      rw [if_neg hne] at hs; subst hs; exact hk _ h2
    unfold zqx1_5
    cases hnx:r'.next with
    | mk d ok =>
      cases ok with
      | false =>
        refine sel_tt ?_
        unfold zqx1_3
        exact sel_tt (stop (by rw [hnx]; simp))
      | true =>
        refine sel_ff ?_
        obtain ⟨g1,g2,g3,g4⟩:=RP.next_some hnx
        unfold zqx1_3
        refine sel_bne (fun hd=>stop (by rw [hnx]; simp; omega)) (fun hd=>?_)
        obtain rfl:d=124:=by omega
        rw [if_pos hnx] at hs
        simp only [] at hs
        have ho:=ho' g1
        unfold zqx1_1
        simp only [ptr_some]
        refine h2.ld1 (h2.st1 (a:=r'.at_+1) (by rw [IntWalk.i64_in _ (by omega)]; omega) (by omega) fun H3 h3=>?_)
        have h3:RPs H0 H3 b r'.inc:=h3
        have hu2:=altOf_up hup r'.inc
        refine alt_c hup (by simp only [RP.inc]; rw [ho]; exact hp) h3 (by simp only [RP.inc]; omega) (by simp only [RP.inc]; omega) fun H4 h4=>⟨_,rfl,?_⟩
        revert hs h4 hu2
        generalize altOf pat r'.inc=Y
        intro hs hu2 h4
        have hus:=hu2.s; have hua:=hu2.at_; have hun:=hu2.nds; have huo:=hu2.op; have hb4:=h4.bound
        simp only [RP.inc] at hus hua hun huo
        rw [hus,hs'] at hb4
        refine put_k (nd 4 n Y.1 S4.zero) h4 (by omega) fun H5 h5=>?_
        have h5:RPs H0 H5 b (Y.2.put (nd 4 n Y.1 S4.zero)):=h5
        refine ⟨⟨f,Y.2.nds.length,Y.2.put (nd 4 n Y.1 S4.zero),rfl,by simp only [RP.put]; rw [hus]; omega,hs,hus.trans hs',fun h=>(huo (.inl h)).trans ho,by simp [RP.put]; omega,h5⟩,?_⟩
        rw [h5.atOf,h2.atOf]; simp only [RP.put]; omega
theorem patN_c:∀ (n op:Nat),op≤24→25≤op+n→PatC (patN n) op
  | 0,op,h1,h2=>by omega
  | n+1,op,h1,h2=>pattern_c (patN_up n) (fun h=>patN_c n (op+1) h (by omega)) h1
def parser0 (s:ByteArray):RP:=⟨s,0,0,[],0⟩
def rxParse (s:ByteArray):List Nd × Int :=
  if 128 < s.size then ([],1) else
    let r:=(patN 25 (parser0 s)).2
    if r.e ≠ 0 then ([],r.e) else if 256 < r.nds.length then ([],1) else (r.nds,0)
theorem Parse_c {H:Heap} {s:ByteArray} {Q:QT} {E:ET}
    (hk:∀ p c l e H',rxParse s=(l,e)→Ext H H'→Vec H' 7 p l.length c (flat l)→(∀ i,blk p i→H i=none)→Q (.tuple #[.slice p l.length c,.int .i64 e]) H'):Does Pr 28 #[.string s] H Q E:=by
  refine zqv1_fn _ Q E H ?_
  have none_c:∀ e H',rxParse s=([],e)→Ext H H'→Q (.tuple #[.slice none 0 0,.int .i64 e]) H':=fun e H' h he =>
    hk none 0 [] e H' h he (Vec.nil H' 7) (fun i hi=>by obtain ⟨a,ha,_⟩:=hi; cases ha)
  unfold zqv1 zqv1_12
  refine sel_dec (fun hd=>?_) (fun hd=>?_)
  · exact none_c 1 H (by unfold rxParse; rw [if_pos (by omega)]) (.refl H)
  have hsz:¬ 128 < s.size:=by omega
  unfold zqv1_9
  intro b hb
  have h:RPs H (H.set b (.cells ((parser0 s).cells none 0) 89 (0,0))) b (parser0 s) :=
    ⟨Ext.new hb _,hb,by simp [parser0],by simp only [parser0]; omega,none,0,89,Heap.set_self _ _ _,Vec.nil _ 7,fun i hi=>by obtain ⟨a,ha,_⟩:=hi; cases ha⟩
  unfold zqv1_6
  refine patN_c 25 0 (by omega) (by omega) h rfl (by simp [parser0]) fun H1 h1=>⟨_,rfl,?_⟩
  have hpar:rxParse s=(if (patN 25 (parser0 s)).2.e ≠ 0 then ([],(patN 25 (parser0 s)).2.e) else if 256 < (patN 25 (parser0 s)).2.nds.length then ([],1) else ((patN 25 (parser0 s)).2.nds,0)):=by
    unfold rxParse; rw [if_neg hsz]
  revert hpar h1
  generalize (patN 25 (parser0 s)).2=r
  intro h1 hpar
  unfold zqv1_3
  simp only [ptr_some]
  refine h1.ld4 ?_
  refine sel_bne (fun hne=>?_) (fun heq=>?_)
  · exact h1.ld4 (none_c r.e H1 (by rw [hpar,if_pos hne]) h1.1)
  obtain ⟨g1,g2,g3,g4,p,c,t,g5,g6,g7⟩:=id h1
  refine ldSl_at (p:=p) (l:=r.nds.length) (m:=c) g5 rfl ?_
  refine sel_dec (fun hd=>?_) (fun hd=>?_)
  · exact none_c 1 H1 (by rw [hpar,if_neg (by omega),if_pos (by omega)]) h1.1
  unfold zqv1_1
  simp only [ptr_some]
  refine ldSl_at (p:=p) (l:=r.nds.length) (m:=c) g5 rfl ?_
  exact hk p c r.nds 0 H1 (by rw [hpar,if_neg (by omega),if_neg (by omega)]) g1 g6 (fun i hi=>(g7 i hi).1)
end Go.Proofs.Ytaffcoiomggpfaa
