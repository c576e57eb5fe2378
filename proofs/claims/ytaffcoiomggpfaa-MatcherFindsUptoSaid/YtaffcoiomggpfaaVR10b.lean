import Derived.Test.YtaffcoiomggpfaaVPEq
import Derived.Test.YtaffcoiomggpfaaVRel2
import Derived.Test.YtaffcoiomggpfaaVMean
import Derived.Test.YtaffcoiomggpfaaVR08b
import Derived.Test.YtaffcoiomggpfaaFl10
import Derived.Test.YtaffcoiomggpfaaFr10
/- The two parsers of patterns find the same: patterns. -/
namespace Go.Proofs.Ytaffcoiomggpfaa
open Go.V
attribute [local irreducible] app
set_option linter.unusedVariables false
theorem class_al {r:RP} {q:PS} (h:Al r q) (h0:r.e=0) (hat:q.at_≤q.s.size):Al r.class.2 q.class8.2∧(r.class.2.e=0→r.class.1=q.class8.1):=by
  have hm:=h.more
  have hq0:q.e=0:=by rw [← h.e]; exact h0
  have h9:(q.more && decide (q.byte=94))=decide (r.next.1=94):=by
    rw [hm]
    by_cases hmo:q.more=true
    · rw [if_pos hmo,hmo]; simp
    · rw [if_neg hmo]; simp [hmo]
  unfold RP.class PS.class8
  rw [h9]
  have hc2:∀ (c:Nat) (R:(S4 × Bool) × RP),(classOut c R).2=R.2:=fun c R=>by obtain ⟨⟨o,k⟩,r'⟩:=R; cases k <;> rfl
  have go:∀ (r':RP) (q':PS) (neg:Bool),Al r' q'→r'.e=0→q'.at_≤q'.s.size→q'.s=q.s→(neg=true↔r.next.1=94) →
      Al (classOut r.next.1 (r'.classLoop (r.s.size+1) false S4.zero)).2 (PS.classLoop8 (q.s.size+28) neg 0 S4.zero q').2 ∧
      ((classOut r.next.1 (r'.classLoop (r.s.size+1) false S4.zero)).2.e=0→(classOut r.next.1 (r'.classLoop (r.s.size+1) false S4.zero)).1=(PS.classLoop8 (q.s.size+28) neg 0 S4.zero q').1):=by
    intro r' q' neg ha hr' hq' hs' hneg
    obtain ⟨g1,g2⟩:=classLoop_al neg (r.s.size+1) (q.s.size+28) 0 false S4.zero r' q' ha hr' (by simp) hq' (by rw [hs',h.s]; omega) (by rw [hs']; omega)
    rw [hc2]
    refine ⟨g1,fun he=>?_⟩
    obtain ⟨k1,k2⟩:=g2 he
    rw [k2]
    generalize r'.classLoop (r.s.size+1) false S4.zero=R at k1
    obtain ⟨⟨o,k⟩,r''⟩:=R
    dsimp only at k1
    subst k1
    show (if r.next.1=94 then o.not else o)=(if neg=true then o.not else o)
    by_cases hc:r.next.1=94
    · rw [if_pos hc,if_pos (hneg.2 hc)]
    · rw [if_neg hc,if_neg (fun h=>hc (hneg.1 h))]
  by_cases hc:r.next.1=94
  · rw [if_pos hc,decide_eq_true hc]
    have hmo:q.more=true:=by
      by_cases hmo:q.more=true
      · exact hmo
      · rw [hm,if_neg hmo] at hc; exact absurd hc (by decide)
    exact go r.inc q.inc true h.inc h0 (PS.more_iff.1 hmo).2 rfl (by simp [hc])
  · rw [if_neg hc,decide_eq_false hc]
    exact go r q false h h0 hat rfl (by simp [hc])
/-! ### The depth of the reference's parser -/
theorem pfail_deep (q:PS) (e:Int):(q.fail e).deep=q.deep:=(PS.fail_at q e).2.2
theorem escape8_deep (q:PS):q.escape8.2.2.deep=q.deep:=by
  unfold PS.escape8
  split
  · exact pfail_deep _ _
  · split
    rename_i s x y _
    cases y
    · exact pfail_deep q 82
    · rfl
theorem single8_deep (q:PS):q.single8.2.2.deep=q.deep:=by
  unfold PS.single8
  split
  · exact escape8_deep q.inc
  · split
    · exact pfail_deep q.inc 80
    · rfl
theorem element8_deep (q:PS):q.element8.2.deep=q.deep:=by
  have h:=single8_deep q
  unfold PS.element8
  revert h
  generalize q.single8=R
  obtain ⟨a,one,q1⟩:=R
  intro h
  dsimp only at h ⊢
  split
  · split
    · exact (pfail_deep q1.inc 80).trans h
    · have h3:=single8_deep q1.inc
      revert h3
      generalize q1.inc.single8=R
      obtain ⟨b,two,q3⟩:=R
      intro h3
      dsimp only at h3 ⊢
      split
      · exact ((pfail_deep q3 80).trans h3).trans h
      · exact h3.trans h
  · exact h
theorem classLoop8_deep:∀ (f:Nat) (neg:Bool) (n:Nat) (s:S4) (q:PS),(PS.classLoop8 f neg n s q).2.deep=q.deep
  | 0,_,_,_,q=>rfl
  | f+1,neg,n,s,q=>by
    unfold PS.classLoop8
    split
    · split
      · dsimp only
        split
        · exact pfail_deep q 80
        · rfl
      · have h:=element8_deep q
        revert h
        generalize q.element8=R
        obtain ⟨x,q1⟩:=R
        intro h
        exact (classLoop8_deep f neg _ _ _).trans h
    · exact pfail_deep q 80
theorem class8_deep (q:PS):q.class8.2.deep=q.deep:=by
  unfold PS.class8
  dsimp only
  split
  · exact classLoop8_deep _ _ _ _ q.inc
  · exact classLoop8_deep _ _ _ _ q
/-! ### Nodes that are shifted -/
def kd (B:Nat) (x:Nd):Nd:={ x with l:=if 0 < kids2 x.k then x.l+B else 0,r:=if 1 < kids2 x.k then x.r+B else 0 }
def Bd (L:List Nd):Prop:=∀ x ∈ L,(0≤x.l∧x.l≤L.length)∧(0≤x.r∧x.r≤L.length)∧(¬ 0 < kids2 x.k→x.l=0)∧(¬ 1 < kids2 x.k→x.r=0)
theorem shift_kd {n:Nat} {x:Nd} (hl:0≤x.l∧x.l≤1048576) (hr:0≤x.r∧x.r≤1048576) (hn:n≤1048576):Nd.shift n x=kd n x:=by
  unfold Nd.shift kd sh
  rw [IntWalk.i64_in (x.l+n) (by omega),IntWalk.i64_in (x.r+n) (by omega)]
theorem kd_kd (B n:Nat) (x:Nd):kd B (kd n x)=kd (B+n) x:=by
  unfold kd
  dsimp only
  congr 1
  · by_cases h:0 < kids2 x.k
    · rw [if_pos h,if_pos h,if_pos h]; omega
    · rw [if_neg h,if_neg h]
  · by_cases h:1 < kids2 x.k
    · rw [if_pos h,if_pos h,if_pos h]; omega
    · rw [if_neg h,if_neg h]
theorem kd_zero {L:List Nd} (h:Bd L):L.map (kd 0)=L:=by
  have:∀ x ∈ L,kd 0 x=id x:=fun x hx=>by
    obtain ⟨_,_,h3,h4⟩:=h x hx
    unfold kd
    obtain ⟨k,l,r,a,b,c,d⟩:=x
    simp only [id,Nd.mk.injEq,true_and,and_true] at h3 h4 ⊢
    refine ⟨?_,?_⟩
    · split
      · omega
      · rename_i hh; exact (h3 hh).symm
    · split
      · omega
      · rename_i hh; exact (h4 hh).symm
  rw [List.map_congr_left this,List.map_id]
theorem kd_leaf {k:Int} (hk:kids2 k=0) (B:Nat) (s:S4):kd B (ndI k s)=nd k 0 0 s:=by
  unfold kd ndI nd; dsimp only; rw [hk]; rfl
structure Ra (base:List Nd) (x:Nat × RP) (y:List Nd × PS):Prop where
  al:Al x.2 y.2
  ok:x.2.e=0→x.2.nds=base++y.1.map (kd base.length)∧x.1+1=base.length+y.1.length∧Bd y.1∧0 < y.1.length∧x.2.op=y.2.deep∧x.2.at_≤x.2.s.size
theorem leaf_ra {base:List Nd} {r:RP} {q:PS} {k:Int} {s s':S4} (h:Al r q) (hb:r.e=0→r.nds=base∧s=s'∧r.op=q.deep∧r.at_≤r.s.size) (hk:kids2 k=0):Ra base (r.putN (nd k 0 0 s)) ([ndI k s'],q):=by
  refine ⟨⟨h.s,h.e,h.at_⟩,fun he=>?_⟩
  obtain ⟨h1,h2,h3,h4⟩:=hb he
  subst h1 h2
  refine ⟨?_,rfl,fun x hx=>?_,Nat.one_pos,h3,h4⟩
  · show r.nds++[_]=_
    rw [List.map_singleton,kd_leaf hk]
  · obtain rfl:=List.mem_singleton.1 hx
    simp [ndI]
theorem join_ra {base:List Nd} {r r':RP} {q q':PS} {n m:Nat} {l xl:List Nd} {k:Int} (hk:kids2 k=2) (hz:l.length+xl.length≤1048576) (h:Ra base (n,r) (l,q)) (h':Ra r.nds (m,r') (xl,q')) (he:r.e=0) :
    Ra base (r'.nds.length,r'.put (nd k n m S4.zero)) (joinN k l xl,q'):=by
  refine ⟨⟨h'.al.s,h'.al.e,h'.al.at_⟩,fun he'=>?_⟩
  obtain ⟨a1,a2,a3,a4,a5,a6⟩:=h.ok he
  obtain ⟨b1,b2,b3,b4,b5,b6⟩:=h'.ok he'
  dsimp only at a1 a2 a3 a4 b1 b2 b3 b4 b5 b6
  have hlen:r.nds.length=base.length+l.length:=by rw [a1]; simp
  have hlen':r'.nds.length=base.length+l.length+xl.length:=by rw [b1,List.length_append,hlen]; simp
  refine ⟨?_,?_,?_,by rw [joinN_length]; omega,b5,b6⟩
  · show r'.nds++[_]=_
    unfold joinN
    rw [List.map_append,List.map_append,List.map_map,b1,a1]
    rw [show (base++l.map (kd base.length)).length=base.length+l.length by simp]
    have e1:xl.map (kd base.length ∘ Nd.shift (l.length:Nat))=xl.map (kd (base.length+l.length)):=List.map_congr_left fun x hx=>by
      obtain ⟨c1,c2,_⟩:=b3 x hx
      show kd base.length (Nd.shift (l.length:Nat) x)=_
      rw [shift_kd (by omega) (by omega) (by omega),kd_kd]
    rw [e1]
    have e2:nd k n m S4.zero=kd base.length ⟨k,(l.length:Int) - 1,if 0 < xl.length then (l.length:Int)+xl.length - 1 else 0,0,0,0,0⟩:=by
      unfold nd kd
      dsimp only
      rw [hk,if_pos b4,if_pos (by decide),if_pos (by decide)]
      congr 1
      · omega
      · rw [hlen] at b2; omega
    rw [List.map_singleton,← e2]
    simp only [List.append_assoc]
  · dsimp only
    rw [joinN_length]; omega
  · intro x hx
    rw [joinN_length]
    unfold joinN at hx
    rw [List.mem_append,List.mem_append,List.mem_map,List.mem_singleton] at hx
    rcases hx with (hx | ⟨y,hy,rfl⟩) | rfl
    · obtain ⟨c1,c2,c3,c4⟩:=a3 x hx
      exact ⟨by omega,by omega,c3,c4⟩
    · obtain ⟨c1,c2,c3,c4⟩:=b3 y hy
      rw [shift_kd (by omega) (by omega) (by omega)]
      unfold kd
      dsimp only
      refine ⟨?_,?_,fun hn=>if_neg hn,fun hn=>if_neg hn⟩
      · split <;> omega
      · split <;> omega
    · dsimp only
      rw [hk,if_pos b4]
      exact ⟨by omega,by omega,fun hn=>absurd (by decide) hn,fun hn=>absurd (by decide) hn⟩
theorem join1_ra {base:List Nd} {r:RP} {q:PS} {n:Nat} {l:List Nd} {k:Nat} (hk:kids2 k=1) (h:Ra base (n,r) (l,q)) (hlt:r.e=0→r.at_ < r.s.size) :
    Ra base (r.nds.length,r.inc.put (nd k n 0 S4.zero)) (joinN k l [],q.inc):=by
  refine ⟨⟨h.al.inc.s,h.al.inc.e,h.al.inc.at_⟩,fun he=>?_⟩
  obtain ⟨a1,a2,a3,a4,a5,a6⟩:=h.ok he
  dsimp only at a1 a2 a3 a4
  have hlen:r.nds.length=base.length+l.length:=by rw [a1]; simp
  refine ⟨?_,?_,?_,by rw [joinN_length]; omega,a5,hlt he⟩
  · show r.nds++[_]=_
    unfold joinN
    rw [List.map_append,List.map_append,a1,List.map_nil,List.map_nil,List.append_nil,List.map_singleton,List.append_assoc]
    have e2:nd k n 0 S4.zero=kd base.length ⟨k,(l.length:Int) - 1,if 0 < ([]:List Nd).length then (l.length:Int)+([]:List Nd).length - 1 else 0,0,0,0,0⟩:=by
      unfold nd kd
      dsimp only
      rw [hk,if_pos (by decide),if_neg (show ¬ (1:Int) < 1 by decide)]
      congr 1
      omega
    rw [← e2]
  · dsimp only
    rw [joinN_length,List.length_nil]; omega
  · intro x hx
    rw [joinN_length]
    unfold joinN at hx
    rw [List.mem_append,List.map_nil,List.append_nil,List.mem_singleton] at hx
    rcases hx with hx | rfl
    · obtain ⟨c1,c2,c3,c4⟩:=a3 x hx
      exact ⟨by omega,by omega,c3,c4⟩
    · dsimp only
      rw [hk,if_neg (by simp)]
      exact ⟨by simp; omega,by simp; omega,fun hn=>absurd (by decide) hn,fun _=>rfl⟩
theorem signOf_le (c:Nat):signOf c ≠ 0→kids2 (signOf c:Nat)=1:=by
  unfold signOf
  repeat' split
  all_goals first | (intro _; rfl) | (intro h; exact absurd rfl h)
theorem signs_ra {base:List Nd}:∀ (f f' n:Nat) (l:List Nd) (r:RP) (q:PS),Ra base (n,r) (l,q)→(r.e=0→r.s.size < f+r.at_)→(r.e=0→r.s.size < f'+r.at_)→Ra base (signs f n r) (PS.signs8 f' l q):=by
  intro f
  induction f with
  | zero =>
    intro f' n l r q h hf hf'
    by_cases he:r.e=0
    · have:=hf he; have:=(h.ok he).2.2.2.2.2; dsimp only at this; omega
    · have hm:¬ q.more=true:=fun hm=>he (by have:=h.al.e; dsimp only at this; rw [this]; exact (PS.more_iff.1 hm).1)
      have:PS.signs8 f' l q=(l,q):=by
        cases f' with
        | zero=>rfl
        | succ f'=>unfold PS.signs8; rw [if_neg (fun h=>hm h.1)]
      rw [this]; exact h
  | succ f ih =>
    intro f' n l r q h hf hf'
    have hm:=h.al.more
    dsimp only at hm
    cases f' with
    | zero =>
      by_cases he:r.e=0
      · have:=hf' he; have:=(h.ok he).2.2.2.2.2; dsimp only at this; omega
      · have hm':¬ q.more=true:=fun hm=>he (by have:=h.al.e; dsimp only at this; rw [this]; exact (PS.more_iff.1 hm).1)
        unfold signs PS.signs8
        rw [hm,if_neg hm',if_pos (show signOf 0=0 from rfl)]
        exact h
    | succ f' =>
      unfold signs PS.signs8
      by_cases hmo:q.more=true
      · rw [if_pos hmo] at hm
        rw [hm]
        dsimp only
        by_cases hs:signOf q.byte=0
        · rw [if_pos hs,if_neg (fun h=>h.2 hs)]; exact h
        · rw [if_neg hs,if_pos ⟨hmo,hs⟩]
          obtain ⟨g1,g2⟩:=PS.more_iff.1 hmo
          have he:r.e=0:=by have:=h.al.e; dsimp only at this; rw [this]; exact g1
          have hlt:r.at_ < r.s.size:=by
            have h1:=h.al.at_ he; have h2:=h.al.s
            dsimp only at h1 h2
            rw [h1,h2]; exact g2
          refine ih f' _ _ _ _ (join1_ra (signOf_le _ hs) h fun _=>hlt) (fun _=>?_) (fun _=>?_)
          · have:=hf he; show r.s.size < f+(r.at_+1); omega
          · have:=hf' he; show r.s.size < f'+(r.at_+1); omega
      · rw [if_neg hmo] at hm
        rw [hm,if_pos (show signOf 0=0 from rfl),if_neg (fun h=>hmo h.1)]
        exact h
end Go.Proofs.Ytaffcoiomggpfaa
/- The two parsers of patterns find the same: the parsers. -/
namespace Go.Proofs.Ytaffcoiomggpfaa
open Go.V
attribute [local irreducible] app
set_option linter.unusedVariables false
def Dev (x:Nat × RP) (y:List Nd × PS) (op:Nat):Prop:=op=0∧x.2.e=83∧y.2.e=0∧y.2.more=true∧y.2.byte=41
def Fin (x:Nat × RP) (op:Nat):Prop:=x.2.e=0→x.2.next.2=false∨x.2.next.1=41∧op ≠ 0
def PatR (F:RP→Nat × RP) (G:PS→List Nd × PS) (op:Nat):Prop:=∀ (r:RP) (q:PS),Al r q→r.e=0→r.op=op→q.deep=op→r.at_≤r.s.size→r.s.size≤4096→Ra r.nds (F r) (G q)∧Fin (F r) op∨Dev (F r) (G q) op
variable {F:RP→Nat × RP} {G:PS→List Nd × PS} {op:Nat}
theorem fail_keep {r:RP} (h:r.e ≠ 0) (e:Int):r.fail e=r:=by unfold RP.fail; exact if_neg h
theorem atom_ra {r:RP} {q:PS} (hF:∀ r,Up r (F r).2 1 0) (hp:op+1≤24→PatR F G (op+1)) (h:Al r q) (h0:r.e=0) (hop:r.op=op) (hd:q.deep=op) (hlt:r.at_ < r.s.size) (hsz:r.s.size≤4096) :
    Ra r.nds (atomOf F q.byte r) (PS.atom8 G q):=by
  have hlq:q.at_ < q.s.size:=by rw [← h.s,← h.at_ h0]; exact hlt
  have hod:r.inc.op=q.inc.deep:=by show r.op=q.deep; omega
  unfold atomOf PS.atom8
  by_cases c1:q.byte=46
  · rw [if_pos c1,if_pos c1]; exact leaf_ra h.inc (fun _=>⟨rfl,by decide +kernel,hod,hlt⟩) rfl
  rw [if_neg c1,if_neg c1]
  by_cases c2:q.byte=94
  · rw [if_pos c2,if_pos c2]; exact leaf_ra h.inc (fun _=>⟨rfl,rfl,hod,hlt⟩) rfl
  rw [if_neg c2,if_neg c2]
  by_cases c3:q.byte=36
  · rw [if_pos c3,if_pos c3]; exact leaf_ra h.inc (fun _=>⟨rfl,rfl,hod,hlt⟩) rfl
  rw [if_neg c3,if_neg c3]
  by_cases c7:q.byte=92
  · rw [if_neg (by omega),if_neg (by omega),if_neg (by omega),if_pos c7,if_pos c7]
    obtain ⟨g1,g2⟩:=escape_al h h0
    have hl:r.inc.Le r.escape.2:=escape_le (x:=r.escape.1) rfl
    exact leaf_ra g1 (fun he=>⟨hl.nds,(g2 he).1,by rw [hl.op,escape8_deep]; exact hod,by rw [hl.s]; exact (escape_sh hlt he).2⟩) rfl
  rw [if_neg c7,if_neg c7]
  by_cases c4:q.byte=91
  · rw [if_pos c4,if_pos c4]
    obtain ⟨g1,g2⟩:=class_al h.inc h0 hlq
    have hl:=class_le r.inc
    exact leaf_ra g1 (fun he=>⟨hl.nds,g2 he,by rw [hl.op,class8_deep]; exact hod,by rw [hl.s]; exact (class_sh (r:=r.inc) hlt he).2⟩) rfl
  rw [if_neg c4,if_neg c4]
  by_cases c5:q.byte=93
  · rw [if_pos c5,if_pos c5]
    exact ⟨h.inc.fail 80 (by decide),fun he=>absurd he (RP.fail_e r.inc (by decide))⟩
  rw [if_neg c5,if_neg c5]
  by_cases c6:q.byte=42∨q.byte=43∨q.byte=63
  · rw [if_pos c6,if_pos c6]
    exact ⟨h.inc.fail 81 (by decide),fun he=>absurd he (RP.fail_e r.inc (by decide))⟩
  rw [if_neg c6,if_neg c6]
  by_cases c8:q.byte=40
  · rw [if_pos c8,if_pos c8]
    have hu:Al r.inc.up q.inc.up:=⟨h.s,h.e,h.inc.at_⟩
    by_cases d1:24 < r.op+1
    · rw [if_pos d1,if_pos (show 24 < q.deep+1 by omega)]
      exact ⟨hu.fail 84 (by decide),fun he=>absurd he (RP.fail_e r.inc.up (by decide))⟩
    rw [if_neg d1,if_neg (show ¬ 24 < q.deep+1 by omega)]
    dsimp only
    have hup:=hF r.inc.up
    have hsx:(F r.inc.up).2.s=r.s:=hup.s
    rcases hp (by omega) r.inc.up q.inc.up hu h0 (congrArg (·+1) hop) (congrArg (·+1) hd) hlt hsz with ⟨g1,g2⟩ | ⟨g,_⟩
    · generalize F r.inc.up=X at g1 g2 hsx hup
      generalize G q.inc.up=Y at g1
      have hxal:=g1.al
      have hm:=hxal.more
      by_cases he:X.2.e=0
      · have hy:Y.2.e=0:=by rw [← hxal.e]; exact he
        obtain ⟨k1,k2,k3,k4,k5,k6⟩:=g1.ok he
        by_cases hmo:Y.2.more=true
        · rw [if_pos hmo] at hm
          have hb:Y.2.byte=41:=by
            rcases g2 he with g | g
            · rw [hm] at g; exact absurd (show true=false from g) (by decide)
            · rw [hm] at g; exact g.1
          obtain ⟨m1,m2⟩:=PS.more_iff.1 hmo
          have hlt':X.2.at_ < X.2.s.size:=by rw [hxal.at_ he,hxal.s]; exact m2
          rw [if_pos (by rw [hm,hb]),if_neg (by omega)]
          refine ⟨⟨hxal.s,hxal.e,fun _=>congrArg (·+1) (hxal.at_ he)⟩,fun _=>⟨k1,k2,k3,k4,?_,hlt'⟩⟩
          show X.2.op - 1=Y.2.deep - 1
          omega
        · rw [if_neg hmo] at hm
          have hge:Y.2.s.size≤Y.2.at_:=by
            by_cases hx:Y.2.at_ < Y.2.s.size
            · exact absurd (PS.more_iff.2 ⟨hy,hx⟩) hmo
            · omega
          rw [if_neg (by rw [hm]; intro h; exact absurd (Prod.mk.inj h).2 (by decide)),if_pos ⟨hy,hge⟩]
          have:=hxal.fail 83 (by decide)
          have hne:=RP.fail_e X.2 (e:=83) (by decide)
          exact ⟨⟨this.s,this.e,fun he=>absurd he hne⟩,fun he=>absurd he hne⟩
      · have hy:¬ Y.2.e=0:=by rw [← hxal.e]; exact he
        rw [if_neg (fun h=>he (RP.next_some h).1),if_neg (fun h=>hy h.1),fail_keep he]
        exact ⟨⟨hxal.s,hxal.e,fun h=>absurd h he⟩,fun h=>absurd h he⟩
    · omega
  rw [if_neg c8,if_neg c8]
  exact leaf_ra h.inc (fun _=>⟨rfl,with_self _ _,hod,hlt⟩) rfl
theorem part_ra {r:RP} {q:PS} (hF:∀ r,Up r (F r).2 1 0) (hG:∀ q,PS.Wa q (G q) 1 0) (hp:op+1≤24→PatR F G (op+1)) (h:Al r q) (h0:r.e=0) (hop:r.op=op) (hd:q.deep=op) (hlt:r.at_ < r.s.size) (hsz:r.s.size≤4096) :
    Ra r.nds (partOf F q.byte r) (PS.part8 G q):=by
  have ha:=atom_ra hF hp h h0 hop hd hlt hsz
  have hu:=atomOf_up hF q.byte r h0
  unfold partOf PS.part8
  refine signs_ra _ _ _ _ _ _ ha (fun _=>by rw [hu.s]; omega) (fun _=>by rw [hu.s,h.s]; omega)
def St (base:List Nd) (n:Option Nat) (l:List Nd) (r:RP) (q:PS):Prop:=match n with
  | none=>l=[]∧Al r q∧r.nds=base∧r.op=q.deep∧r.at_≤r.s.size
  | some m=>Ra base (m,r) (l,q)
theorem altLoop_e {F:RP→Nat × RP} (f k:Nat) (r:RP) (h:r.e ≠ 0):(altLoop F (f+1) (some k) r)=(k,r):=by
  have hn:r.next=(0,false):=if_pos (.inl h)
  unfold altLoop
  rw [hn,if_pos (.inl rfl)]
  dsimp only
  rw [if_neg (fun h=>absurd (Prod.mk.inj h.1).2 (by decide))]
theorem patLoop_e {F:RP→Nat × RP} (f k:Nat) (r:RP) (h:r.e ≠ 0):(patLoop F f k r)=(k,r):=by
  cases f with
  | zero=>rfl
  | succ f =>
    have hn:r.next=(0,false):=if_pos (.inl h)
    unfold patLoop
    rw [hn,if_neg (fun h=>absurd (Prod.mk.inj h).2 (by decide))]
def CFin (x:Nat × RP) (op:Nat):Prop:=x.2.e=0→x.2.next.2=false∨x.2.next.1=124∨x.2.next.1=41∧op ≠ 0
theorem cat_ra {base:List Nd} (hF:∀ r,Up r (F r).2 1 0) (hG:∀ q,PS.Wa q (G q) 1 0) (hp:op+1≤24→PatR F G (op+1)) :
    ∀ (f f':Nat) (n:Option Nat) (l:List Nd) (r:RP) (q:PS),St base n l r q→r.e=0→r.op=op→r.s.size≤4096→l.length≤2 * r.at_→r.s.size < f+r.at_→r.s.size < f'+r.at_ →
      Ra base (altLoop F f n r) (PS.catLoop8 G f' l q)∧CFin (altLoop F f n r) op∨Dev (altLoop F f n r) (PS.catLoop8 G f' l q) op:=by
  intro f
  induction f with
  | zero =>
    intro f' n l r q hst h0 hop hsz hl hf hf'
    have:r.at_≤r.s.size:=by
      cases n with
      | none=>exact hst.2.2.2.2
      | some m=>exact (hst.ok h0).2.2.2.2.2
    omega
  | succ f ih =>
    intro f' n l r q hst h0 hop hsz hl hf hf'
    have hfacts:Al r q∧r.op=q.deep∧r.at_≤r.s.size:=by
      cases n with
      | none=>exact ⟨hst.2.1,hst.2.2.2.1,hst.2.2.2.2⟩
      | some m=>exact ⟨hst.al,(hst.ok h0).2.2.2.2.1,(hst.ok h0).2.2.2.2.2⟩
    obtain ⟨hal,hod,hat⟩:=hfacts
    cases f' with
    | zero=>omega
    | succ f' =>
      have hm:=hal.more
      unfold altLoop PS.catLoop8
      by_cases hgo:q.more=true∧q.byte ≠ 124∧q.byte ≠ 41
      · rw [if_pos hgo.1] at hm
        rw [if_pos hgo,hm]
        rw [if_neg (show ¬ (true = false ∨ q.byte = 124 ∨ q.byte = 41) by rintro (h | h | h); · exact absurd h (by decide)
                                                                          · exact hgo.2.1 h
                                                                          · exact hgo.2.2 h)]
        dsimp only
        have hlt:r.at_ < r.s.size:=(RP.next_some hm).2.1
        have hpr:=part_ra hF hG hp hal h0 hop (by omega) hlt hsz
        have hpu:=partOf_up hF q.byte r h0
        have hpw:=PS.part8_wa hG q
        generalize partOf F q.byte r=X at hpr hpu
        generalize PS.part8 G q=Y at hpr hpw
        obtain ⟨x,rx⟩:=X
        obtain ⟨xl,qx⟩:=Y
        have hxe:rx.e=qx.e:=hpr.al.e
        by_cases he:rx.e=0
        · have hqe:qx.e=0:=by omega
          rw [if_neg (show ¬ qx.e ≠ 0 by omega)]
          have hxat:rx.at_=qx.at_:=hpr.al.at_ he
          have hrat:r.at_=q.at_:=hal.at_ h0
          have hlen:=hpw.len
          dsimp only at hlen
          have hge:r.at_+1≤rx.at_:=hpu.at_
          have hrs:rx.s=r.s:=hpu.s
          have hrop:rx.op=op:=by have:=hpu.op (.inl he); rw [← hop]; exact this
          have hxok:=hpr.ok he
          dsimp only at hxok
          have hxle:rx.at_≤r.s.size:=by rw [← hrs]; exact hxok.2.2.2.2.2
          cases n with
          | none =>
            obtain ⟨rfl,_,hb,_,_⟩:=hst
            subst hb
            rw [if_pos (show ([]:List Nd).length=0 from rfl)]
            exact ih f' (some x) xl rx qx hpr he hrop (by rw [hrs]; exact hsz) (by omega) (by rw [hrs]; omega) (by rw [hrs]; omega)
          | some k =>
            have hl0:0 < l.length:=(hst.ok h0).2.2.2.1
            rw [if_neg (show ¬ l.length=0 by omega)]
            have hj:=join_ra (k:=3) rfl (by omega) hst hpr h0
            exact ih f' (some rx.nds.length) _ _ _ hj he hrop (show rx.s.size≤4096 by rw [hrs]; exact hsz) (by rw [joinN_length]; show l.length+xl.length+1≤2 * rx.at_; omega) (show rx.s.size < f+rx.at_ by rw [hrs]; omega) (show rx.s.size < f'+rx.at_ by rw [hrs]; omega)
        · have hqe:qx.e ≠ 0:=by omega
          rw [if_pos hqe]
          have hf1:∃ f2,f=f2+1:=⟨f - 1,by omega⟩
          obtain ⟨f2,rfl⟩:=hf1
          left
          cases n with
          | none =>
            dsimp only
            rw [altLoop_e f2 x rx he]
            exact ⟨⟨hpr.al,fun h=>absurd h he⟩,fun h=>absurd h he⟩
          | some k =>
            dsimp only
            rw [altLoop_e f2 _ (rx.put _) he]
            exact ⟨⟨⟨hpr.al.s,hpr.al.e,hpr.al.at_⟩,fun h=>absurd h he⟩,fun h=>absurd h he⟩
      · rw [if_neg hgo]
        have hstop:r.next.2=false∨r.next.1=124∨r.next.1=41:=by
          rw [hm]
          by_cases hmo:q.more=true
          · rw [if_pos hmo]
            by_cases h1:q.byte=124
            · exact .inr (.inl h1)
            · by_cases h2:q.byte=41
              · exact .inr (.inr h2)
              · exact absurd ⟨hmo,h1,h2⟩ hgo
          · rw [if_neg hmo]; exact .inl rfl
        rw [if_pos hstop]
        by_cases hdev:r.next=(41,true)∧r.op=0
        · right
          have hmo:q.more=true:=by
            by_cases hmo:q.more=true
            · exact hmo
            · rw [if_neg hmo] at hm; rw [hm] at hdev; exact absurd (Prod.mk.inj hdev.1).2 (by decide)
          have hb:q.byte=41:=by rw [if_pos hmo] at hm; rw [hm] at hdev; exact (Prod.mk.inj hdev.1).1
          have h83:(r.fail 83).e=83:=by unfold RP.fail; rw [if_pos h0]
          rw [if_pos hdev]
          have hq0:q.e=0:=by rw [← hal.e]; exact h0
          cases n with
          | none=>exact ⟨by omega,h83,hq0,hmo,hb⟩
          | some m=>exact ⟨by omega,h83,hq0,hmo,hb⟩
        · left
          rw [if_neg hdev]
          have hend:∀ r':RP,r'.next=r.next→(r'.next.2=false∨r'.next.1=124∨r'.next.1=41∧op ≠ 0):=by
            intro r' hr'
            rw [hr']
            rcases hstop with h | h | h
            · exact .inl h
            · exact .inr (.inl h)
            · by_cases h2:r.next.2=false
              · exact .inl h2
              · refine .inr (.inr ⟨h,fun h3=>hdev ⟨Prod.ext h (by simpa using h2),hop.trans h3⟩⟩)
          cases n with
          | none =>
            obtain ⟨rfl,ha,hb,hod,hat⟩:=hst
            subst hb
            rw [if_pos (show ([]:List Nd).length=0 from rfl)]
            exact ⟨leaf_ra ha (fun _=>⟨rfl,rfl,hod,hat⟩) rfl,fun _=>hend _ rfl⟩
          | some m =>
            have hl0:0 < l.length:=(hst.ok h0).2.2.2.1
            rw [if_neg (show ¬ l.length=0 by omega)]
            exact ⟨hst,fun _=>hend _ rfl⟩
theorem alt_ra {base:List Nd} (hF:∀ r,Up r (F r).2 1 0) (hG:∀ q,PS.Wa q (G q) 1 0) (hp:op+1≤24→PatR F G (op+1)) :
    ∀ (f f':Nat) (n:Nat) (l:List Nd) (r:RP) (q:PS),Ra base (n,r) (l,q)→CFin (n,r) op→(r.e=0→r.op=op)→r.s.size≤4096→(r.e=0→l.length≤2 * r.at_+1)→(r.e=0→r.s.size < f+r.at_)→(r.e=0→r.s.size < f'+r.at_) →
      Ra base (patLoop F f n r) (PS.altLoop8 G f' l q)∧Fin (patLoop F f n r) op∨Dev (patLoop F f n r) (PS.altLoop8 G f' l q) op:=by
  intro f
  induction f with
  | zero =>
    intro f' n l r q hst hfin hop hsz hl hf hf'
    by_cases he:r.e=0
    · have h1:=hf he; have h2:=(hst.ok he).2.2.2.2.2; dsimp only at h2; omega
    · have hq:¬ q.more=true:=fun hm=>he (by have:=hst.al.e; dsimp only at this; rw [this]; exact (PS.more_iff.1 hm).1)
      rw [patLoop_e 0 n r he]
      have:PS.altLoop8 G f' l q=(l,q):=by
        cases f' with
        | zero=>rfl
        | succ f'=>unfold PS.altLoop8; rw [if_neg (fun h=>hq h.1)]
      rw [this]; exact .inl ⟨hst,fun h=>absurd h he⟩
  | succ f ih =>
    intro f' n l r q hst hfin hop hsz hl hf hf'
    have hm:=hst.al.more
    dsimp only at hm
    by_cases he:r.e=0
    · cases f' with
      | zero=>have h1:=hf' he; have h2:=(hst.ok he).2.2.2.2.2; dsimp only at h2; omega
      | succ f' =>
        have hq0:q.e=0:=by have:=hst.al.e; dsimp only at this; omega
        unfold patLoop PS.altLoop8
        by_cases hgo:q.more=true∧q.byte=124
        · have hn:r.next=(124,true):=by rw [hm,if_pos hgo.1,hgo.2]
          rw [if_pos hgo,if_pos hn]
          have hlt:r.at_ < r.s.size:=(RP.next_some hn).2.1
          have hok:=hst.ok he
          dsimp only at hok ⊢
          have hrat:r.at_=q.at_:=hst.al.at_ he
          have hcu:=altOf_up hF r.inc
          have hcw:=PS.cat8_wa hG q.inc
          have hrf:=hf he; have hrf':=hf' he
          have hcat:Ra r.nds (altOf F r.inc) (PS.cat8 G q.inc)∧CFin (altOf F r.inc) op∨Dev (altOf F r.inc) (PS.cat8 G q.inc) op:=by
            have hai:Al r.inc q.inc:=hst.al.inc
            refine cat_ra hF hG hp _ _ none [] r.inc q.inc ⟨rfl,hai,rfl,hok.2.2.2.2.1,hlt⟩ he (hop he) hsz (Nat.zero_le _) (by omega) ?_
            rw [← hai.s]; omega
          generalize altOf F r.inc=X at hcat hcu
          generalize PS.cat8 G q.inc=Y at hcat hcw
          obtain ⟨x,rx⟩:=X
          obtain ⟨xl,qx⟩:=Y
          have hrs:rx.s=r.s:=hcu.s
          dsimp only
          rcases hcat with ⟨hra,hcf⟩ | ⟨d1,d2,d3,d4,d5⟩
          · have hxe:rx.e=qx.e:=hra.al.e
            by_cases hxe0:rx.e=0
            · rw [if_neg (show ¬ qx.e ≠ 0 by omega)]
              have hxat:rx.at_=qx.at_:=hra.al.at_ hxe0
              have hlen:=hcw.len
              have hge:r.at_+1+0≤rx.at_:=hcu.at_
              have hl1:=hl he
              have hxok:=hra.ok hxe0
              dsimp only [PS.inc] at hlen hxok
              rw [hrs] at hxok
              have hj:=join_ra (k:=4) rfl (by omega) hst hra he
              refine ih f' _ _ _ _ hj (fun h=>hcf h) (fun _=>(hcu.op (.inl hxe0)).trans (hop he)) (show rx.s.size≤4096 by rw [hrs]; exact hsz) (fun _=>?_) (fun _=>?_) (fun _=>?_)
              · rw [joinN_length]; show _≤2 * rx.at_+1; omega
              · show rx.s.size < f+rx.at_; rw [hrs]; omega
              · show rx.s.size < f'+rx.at_; rw [hrs]; omega
            · rw [if_pos (show qx.e ≠ 0 by omega),patLoop_e f _ (rx.put _) hxe0]
              exact .inl ⟨⟨⟨hra.al.s,hra.al.e,hra.al.at_⟩,fun h=>absurd h hxe0⟩,fun h=>absurd h hxe0⟩
          · dsimp only at d2 d3 d4 d5
            rw [if_neg (show ¬ qx.e ≠ 0 by omega)]
            have hne:rx.e ≠ 0:=by omega
            rw [patLoop_e f _ (rx.put _) hne]
            have:∀ l',PS.altLoop8 G f' l' qx=(l',qx):=fun l'=>by
              cases f' with
              | zero=>rfl
              | succ f'=>unfold PS.altLoop8; rw [if_neg (by rw [d5]; rintro ⟨_,h⟩; exact absurd h (by decide))]
            rw [this]
            exact .inr ⟨d1,d2,d3,d4,d5⟩
        · rw [if_neg hgo]
          have hn:¬ r.next=(124,true):=by
            intro hn
            rw [hm] at hn
            by_cases hmo:q.more=true
            · rw [if_pos hmo] at hn; exact hgo ⟨hmo,(Prod.mk.inj hn).1⟩
            · rw [if_neg hmo] at hn; exact absurd (Prod.mk.inj hn).2 (by decide)
          rw [if_neg hn]
          refine .inl ⟨hst,fun _=>?_⟩
          rcases hfin he with h | h | h
          · exact .inl h
          · by_cases h2:r.next.2=false
            · exact .inl h2
            · exact absurd (Prod.ext h (by simpa using h2)) hn
          · exact .inr h
    · have hq:¬ q.more=true:=fun hm=>he (by have:=hst.al.e; dsimp only at this; rw [this]; exact (PS.more_iff.1 hm).1)
      rw [patLoop_e (f+1) n r he]
      have:PS.altLoop8 G f' l q=(l,q):=by
        cases f' with
        | zero=>rfl
        | succ f'=>unfold PS.altLoop8; rw [if_neg (fun h=>hq h.1)]
      rw [this]; exact .inl ⟨hst,fun h=>absurd h he⟩
theorem pat_ra (hF:∀ r,Up r (F r).2 1 0) (hG:∀ q,PS.Wa q (G q) 1 0) (hp:op+1≤24→PatR F G (op+1)):PatR (patOf F) (PS.alt8 G) op:=by
  intro r q hal h0 hop hd hat hsz
  have hcu:=altOf_up hF r
  have hcw:=PS.cat8_wa hG q
  have hss:q.s=r.s:=hal.s.symm
  have hcat:Ra r.nds (altOf F r) (PS.cat8 G q)∧CFin (altOf F r) op∨Dev (altOf F r) (PS.cat8 G q) op:=by
    refine cat_ra hF hG hp _ _ none [] r q ⟨rfl,hal,rfl,by omega,hat⟩ h0 hop hsz (Nat.zero_le _) (by omega) ?_
    rw [hss]; omega
  have hrat:r.at_=q.at_:=hal.at_ h0
  unfold patOf PS.alt8
  generalize altOf F r=X at hcat hcu
  generalize PS.cat8 G q=Y at hcat hcw
  obtain ⟨x,rx⟩:=X
  obtain ⟨xl,qx⟩:=Y
  have hrs:rx.s=r.s:=hcu.s
  have hge:r.at_+0≤rx.at_:=hcu.at_
  dsimp only
  rcases hcat with ⟨hra,hcf⟩ | ⟨d1,d2,d3,d4,d5⟩
  · refine alt_ra hF hG hp _ _ _ _ _ _ hra hcf (fun h=>(hcu.op (.inl h)).trans hop) (by rw [hrs]; exact hsz) (fun h=>?_) (fun _=>by rw [hrs]; omega) (fun _=>by rw [hrs,hss]; omega)
    have hxat:rx.at_=qx.at_:=hra.al.at_ h
    have hlen:=hcw.len
    dsimp only at hlen
    omega
  · dsimp only at d2 d3 d4 d5
    rw [patLoop_e _ _ rx (by omega)]
    have:PS.altLoop8 G (q.s.size+28) xl qx=(xl,qx):=by
      rw [show q.s.size+28=(q.s.size+27)+1 from rfl]
      unfold PS.altLoop8; rw [if_neg (by rw [d5]; rintro ⟨_,h⟩; exact absurd h (by decide))]
    rw [this]
    exact .inr ⟨d1,d2,d3,d4,d5⟩
theorem patN_ra:∀ (n op:Nat),25≤op+n→op≤24→PatR (patN n) (PS.altN8 n) op
  | 0,op,h,h'=>absurd h (by omega)
  | n+1,op,h,h'=>pat_ra (patN_up n) (PS.altN8_wa n) fun h2=>patN_ra n (op+1) (by omega) h2
theorem parse_eq (s:ByteArray):rxParse s=rParse s:=by
  unfold rxParse rParse
  by_cases hs:128 < s.size
  · rw [if_pos hs,if_pos hs]
  rw [if_neg hs,if_neg hs]
  dsimp only
  have hra:=patN_ra 25 0 (by omega) (by omega) (parser0 s) ⟨s,0,0,0⟩ ⟨rfl,rfl,fun _=>rfl⟩ rfl rfl rfl (Nat.zero_le _) (show s.size≤4096 by omega)
  have hxs:(PS.altN8 25 ⟨s,0,0,0⟩).2.s=s:=(PS.altN8_wa 25 ⟨s,0,0,0⟩).mo.s
  have hb:(parser0 s).nds=[]:=rfl
  rw [hb] at hra
  generalize patN 25 (parser0 s)=X at hra
  generalize PS.altN8 25 ⟨s,0,0,0⟩=Y at hra hxs
  obtain ⟨x,r⟩:=X
  obtain ⟨l,q⟩:=Y
  dsimp only at hxs
  subst hxs
  dsimp only
  rcases hra with ⟨h,hfin⟩ | ⟨_,d2,d3,d4,d5⟩
  · have he:r.e=q.e:=h.al.e
    by_cases h0:r.e=0
    · have hq0:q.e=0:=by omega
      obtain ⟨k1,k2,k3,k4,k5,k6⟩:=h.ok h0
      dsimp only at k1 k3 k4
      have hm:=h.al.more
      dsimp only at hm
      have hmo:¬ q.at_ < q.s.size:=by
        intro hlt
        have hmo:q.more=true:=PS.more_iff.2 ⟨hq0,hlt⟩
        rw [if_pos hmo] at hm
        rcases hfin h0 with g | g
        · dsimp only at g; rw [hm] at g; exact absurd (show true=false from g) (by decide)
        · exact g.2 rfl
      rw [if_neg (show ¬ (q.e=0∧q.at_ < q.s.size) from fun h=>hmo h.2),if_neg (show ¬ r.e ≠ 0 by omega)]
      have hnds:r.nds=l:=by rw [k1,List.nil_append]; exact kd_zero k3
      rw [hnds]
      by_cases hl:256 < l.length
      · have:(q.fail 1).e=1:=by unfold PS.fail; rw [if_pos hq0]
        rw [if_pos hl,if_pos (show q.e=0∧256 < l.length from ⟨hq0,hl⟩),if_pos (show (q.fail 1).e ≠ 0 by rw [this]; decide),this]
      · rw [if_neg hl,if_neg (show ¬ (q.e=0∧256 < l.length) from fun h=>hl h.2),if_neg (show ¬ q.e ≠ 0 by omega)]
    · have hq:¬ q.e=0:=by omega
      rw [if_neg (show ¬ (q.e=0∧q.at_ < q.s.size) from fun h=>hq h.1),if_pos h0,if_neg (show ¬ (q.e=0∧256 < l.length) from fun h=>hq h.1),if_pos hq,he]
  · dsimp only at d2 d3 d4 d5
    have hlt:=(PS.more_iff.1 d4).2
    have h83:(q.fail 83).e=83:=by unfold PS.fail; rw [if_pos d3]
    rw [if_pos (show r.e ≠ 0 by omega),if_pos (show q.e=0∧q.at_ < q.s.size from ⟨d3,hlt⟩),if_neg (show ¬ ((q.fail 83).e=0∧256 < l.length) from fun h=>by rw [h83] at h; exact absurd h.1 (by decide)),
      if_pos (show (q.fail 83).e ≠ 0 by rw [h83]; decide),h83,d2]
end Go.Proofs.Ytaffcoiomggpfaa
/- Contracts of package jobmuxlaw10: sane,pattern; the reference's Valid. -/
namespace Go.Proofs.Ytaffcoiomggpfaa
open Go.V
attribute [local irreducible] app
set_option linter.constructorNameAsVariable false
set_option linter.unusedVariables false
theorem rParse_valid {s:ByteArray} {L:List Nd} (h:rParse s=(L,0)):validOf L=true:=((rxParse_small (by rw [parse_eq]; exact h)).2 rfl).2.2.1
theorem nd_get {H:Heap} {p:OA} {st:List Nd} {i:Nat} {x:Nd} {o:Nat} {n:Int} {K:Int→Prop} (hv:Nds H p st) (hx:st[i]?=some x) (ho:o < 3) (hn:n=if o=0 then x.k else if o=1 then x.l else x.r) (hK:K n) :
    (0≤(i:Int)∧(i:Int) < ((st.length:Nat):Int))∧ptr p fun q=>ldI .i64 (Addr.add (Addr.add q ((i:Int).toNat * 7)) o) H K:=by
  have hlt:=(List.getElem?_eq_some_iff.1 hx).1
  refine ⟨⟨by omega,by omega⟩,?_⟩
  obtain ⟨a,rfl,hrd⟩:=hv i x hx
  simp only [ptr_some,Int.toNat_natCast]
  subst hn
  have:H.cell? ((a.add (i * 7)).add (0+o))=some (.int .i64 (if o=0 then x.k else if o=1 then x.l else x.r)):=rd_get hrd (by
    match o,ho with
    | 0,_=>rfl
    | 1,_=>rfl
    | 2,_=>rfl)
  rw [Nat.zero_add] at this
  exact ⟨_,this,hK⟩
theorem nd_get0 {H:Heap} {p:OA} {st:List Nd} {i:Nat} {x:Nd} {K:Int→Prop} (hv:Nds H p st) (hx:st[i]?=some x) (hK:K x.k) :
    (0≤(i:Int)∧(i:Int) < ((st.length:Nat):Int))∧ptr p fun q=>ldI .i64 (Addr.add q ((i:Int).toNat * 7)) H K:=by
  have hlt:=(List.getElem?_eq_some_iff.1 hx).1
  refine ⟨⟨by omega,by omega⟩,?_⟩
  obtain ⟨a,rfl,hrd⟩:=hv i x hx
  simp only [ptr_some,Int.toNat_natCast]
  have:H.cell? ((a.add (i * 7)).add (0+0))=some (.int .i64 x.k):=rd_get hrd rfl
  have e:(a.add (i * 7)).add (0+0)=a.add (i * 7):=by simp [Addr.add]
  rw [e] at this
  exact ⟨_,this,hK⟩
theorem r10Valid_c {H:Heap} {p:OA} {c:Nat} {st:List Nd} {Q:QT} {E:ET} (hv:Nds H p st) (hN:NV st) (hk:Q (.bool true) H):Does Pr 34 #[.slice p st.length c] H Q E:=by
  obtain ⟨n1,n2,hr,hkind⟩:=hN
  refine zqn2_fn _ _ _ Q E H ?_
  unfold zqn2 zqn2_21 zqn2_18
  refine ⟨fun x H'=>∃ j:Nat,x=(j:Nat)∧j≤st.length∧H'=H,fun x _=>((st.length:Int) - x).toNat,⟨0,rfl,by omega,rfl⟩,?_⟩
  rintro x H2 ⟨j,rfl,hj,rfl⟩
  unfold zqn2_15
  refine sel_dec (fun hlt=>?_) (fun hge=>?_)
  · have hlt:j < st.length:=by omega
    have hx:=getD_some hlt
    have hkx:=hkind _ (List.mem_iff_getElem?.2 ⟨j,hx⟩)
    have hrx:=hr _ (List.mem_iff_getElem?.2 ⟨j,hx⟩)
    generalize st.getD j default=X at hx hkx hrx
    have next:zqn2_5 (fun x' H'=>(∃ j:Nat,x'=(j:Nat)∧j≤st.length∧H'=H2)∧((st.length:Int) - x').toNat < ((st.length:Int) - (j:Nat)).toNat) Q E p st.length c j false H2:=by
      unfold zqn2_5
      refine sel_ff ?_
      unfold zqn2_3
      have hw:IntKind.wrap .i64 ((j:Int)+1)=((j+1:Nat):Int):=by rw [IntWalk.i64_in _ (by omega)]; omega
      rw [hw]
      exact ⟨⟨j+1,rfl,by omega,rfl⟩,by omega⟩
    unfold zqn2_10
    refine nd_get0 hv hx ?_
    unfold zqn2_7
    have two:sel (X.k == 2)
        ((0≤(j:Int)∧(j:Int) < ((st.length:Nat):Int))∧ptr p fun q48 =>
          ldI .i64 (Addr.add (Addr.add q48 ((j:Int).toNat * 7)) 2) H2 fun n49 =>
          sel (decide ((n49:Int) < 0))
          (zqn2_5 (fun x' H'=>(∃ j:Nat,x'=(j:Nat)∧j≤st.length∧H'=H2)∧((st.length:Int) - x').toNat < ((st.length:Int) - (j:Nat)).toNat) Q E p st.length c j true H2)
          ((0≤(j:Int)∧(j:Int) < ((st.length:Nat):Int))∧ptr p fun q50 =>
          ldI .i64 (Addr.add (Addr.add q50 ((j:Int).toNat * 7)) 2) H2 fun n51 =>
          zqn2_5 (fun x' H'=>(∃ j:Nat,x'=(j:Nat)∧j≤st.length∧H'=H2)∧((st.length:Int) - x').toNat < ((st.length:Int) - (j:Nat)).toNat) Q E p st.length c j (decide ((n51:Int) ≥ ((st.length:Nat):Int))) H2))
        (zqn2_5 (fun x' H'=>(∃ j:Nat,x'=(j:Nat)∧j≤st.length∧H'=H2)∧((st.length:Int) - x').toNat < ((st.length:Int) - (j:Nat)).toNat) Q E p st.length c j false H2):=by
      refine sel_beq (fun h2=>?_) (fun h2=>next)
      refine nd_get (o:=2) hv hx (by omega) (n:=X.r) rfl ?_
      refine sel_dec (fun h=>by omega) (fun _=>?_)
      refine nd_get (o:=2) hv hx (by omega) (n:=X.r) rfl ?_
      rw [decide_eq_false (by omega)]
      exact next
    refine sel_dec (fun h=>by omega) (fun _=>?_)
    refine sel_dec (fun h=>by omega) (fun _=>?_)
    refine sel_bne (fun h5=>?_) (fun h5=>two)
    refine nd_get (o:=1) hv hx (by omega) (n:=X.l) rfl ?_
    refine sel_dec (fun h=>by omega) (fun _=>?_)
    refine nd_get (o:=1) hv hx (by omega) (n:=X.l) rfl ?_
    refine sel_dec (fun h=>by omega) (fun _=>two)
  · unfold zqn2_1
    refine sel_dec (fun _=>?_) (fun h=>absurd (by omega) h)
    rw [decide_eq_true (by omega)]
    exact hk
end Go.Proofs.Ytaffcoiomggpfaa
/- The reference's automaton: build,Compile. -/
namespace Go.Proofs.Ytaffcoiomggpfaa
open Go.V
attribute [local irreducible] app
set_option linter.constructorNameAsVariable false
set_option linter.unusedVariables false
theorem cells_one (l:List Nd):(flat l).all oneC=true:=by
  induction l with
  | nil=>rfl
  | cons x l ih =>
    show (x.cells++flat l).all oneC=true
    rw [List.all_append,ih]; rfl
theorem app_nds {H:Heap} {p q:OA} {c c2 la lb:Nat} {a b:List Nd} {K:OA→Nat→Nat→Heap→Prop} (hv:Vec H 7 p a.length c (flat a)) (hw:Vec H 7 q b.length c2 (flat b)) (hla:la=a.length) (hlb:lb=b.length) (hcap:a.length+b.length≤1048576)
    (hk:∀ p' c' H' l',l'=(a++b).length→Vec H' 7 p' (a++b).length c' (flat (a++b))→(∀ j,¬ blk p j→H j ≠ none→H' j=H j)→(∀ j,blk p' j→blk p j∨H j=none)→K p' l' c' H'):app Pr 50 p la c (.slice q lb c2) H K:=by
  subst hla hlb
  refine app_vec (sz:=7) (n:=b.length) (ws:=flat b) sl50 hv (fun K hK=>⟨flat b,by rw [flat_length],hw.rdS,hK⟩) (by rw [flat_length]) (cells_one b) hcap (by omega)
    fun p' c' H' h1 h2 h3=>hk p' c' H' _ (by rw [List.length_append]) ?_ h2 h3
  have e:flat (a++b)=flat a++flat b:=by simp [flat]
  rw [e,List.length_append]; exact h1
theorem vec_node {H:Heap} {i:Nat} {t:TypeId} {x:Nd} (h:H i=some (.cells x.cells.toArray t (0,0))):Vec H 7 (some ⟨i,0,none⟩) [x].length 1 (flat [x]) :=
  ⟨by rw [flat_length],Nat.le_refl _,i,_,t,rfl,h,rfl,fun j hj=>by simp [flat]⟩
theorem wrap_add {a b:Nat} (h:a+b≤1048576):IntKind.wrap .i64 ((a:Int)+(b:Int))=((a+b:Nat):Int):=by rw [IntWalk.i64_in _ (by omega)]; omega
theorem wrap_two {a:Nat} (h:a≤1048570):IntKind.wrap .i64 ((a:Int)+2)=((a+2:Nat):Int):=by rw [IntWalk.i64_in _ (by omega)]; omega
theorem rb_len {l:List Nd} {g:Nat→Nat} (hz:Sz l g):∀ (f n p:Nat),n < f→n < l.length→(rb l f n p).length≤2 * g n
  | 0,n,p,h,_=>by omega
  | f+1,n,p,h,hn=>by
    obtain ⟨x,hx⟩:∃ x,l[n]?=some x:=⟨_,List.getElem?_eq_getElem hn⟩
    have hxd:l.getD n default=x:=by rw [List.getD_eq_getElem?_getD,hx]; rfl
    obtain ⟨g1,g2,g3⟩:=hz n x hx
    obtain ⟨k2,k1,k0⟩:=kids_of hz hn
    rw [hxd] at k2 k1
    have gk2:x.k=3∨x.k=4→g n=1+g x.l.toNat+g x.r.toNat:=fun h=>by
      have:kidsOf x.k=2:=by unfold kidsOf; rw [if_neg (by omega),if_neg (by omega),if_pos h]
      rcases g3 with g3 | g3 | g3 <;> first | exact g3.2.2.2.2.2 | omega
    have gk1:x.k=5∨x.k=6∨x.k=7→g n=1+g x.l.toNat:=fun h=>by
      have:kidsOf x.k=1:=by unfold kidsOf; rw [if_neg (by omega),if_pos h]
      rcases g3 with g3 | g3 | g3 <;> first | exact g3.2.2.2 | omega
    unfold rb
    dsimp only
    rw [hxd]
    have ih:=fun c p (hc:c < n)=>rb_len hz f c p (by omega) (by omega)
    split
    · simp; omega
    split
    · simp; omega
    split
    · simp; omega
    split
    · obtain ⟨a,b,_⟩:=k2 (.inl ‹_›)
      have:=gk2 (.inl ‹_›)
      have i1:=ih x.l.toNat p a
      have i2:=ih x.r.toNat (p+(rb l f x.l.toNat p).length) b
      rw [List.length_append]; omega
    split
    · obtain ⟨a,b,_⟩:=k2 (.inr ‹_›)
      have:=gk2 (.inr ‹_›)
      have i1:=ih x.l.toNat (p+1) a
      have i2:=ih x.r.toNat (p+2+(rb l f x.l.toNat (p+1)).length) b
      simp only [List.length_append,List.length_cons,List.length_nil]; omega
    split
    · have:=gk1 (.inr (.inr ‹_›))
      have i1:=ih x.l.toNat (p+1) (k1 (.inr (.inr ‹_›))).1
      rw [List.length_cons]; omega
    split
    · have:=gk1 (.inl ‹_›)
      have i1:=ih x.l.toNat (p+1) (k1 (.inl ‹_›)).1
      simp only [List.length_append,List.length_cons,List.length_nil]; omega
    split
    · have:=gk1 (.inr (.inl ‹_›))
      have i1:=ih x.l.toNat p (k1 (.inr (.inl ‹_›))).1
      simp only [List.length_append,List.length_cons,List.length_nil]; omega
    · simp; omega
set_option maxHeartbeats 4000000 in
theorem rbuild_c {l:List Nd} {g:Nat→Nat} (hz:Sz l g) (hsz:l.length≤256) {pl:OA} {cl:Nat} {E:Chain→Heap→Prop}:∀ (f n p:Nat) (H:Heap) (Q:Value→Heap→Prop),n < f→n < l.length→p+2 * g n≤100000→Nds H pl l →
    (∀ H' q c' m,Ext H H'→m=(rb l f n p).length→Vec H' 7 q (rb l f n p).length c' (flat (rb l f n p))→(∀ j,blk q j→H j=none)→Q (.slice q m c') H')→Does Pr 63 #[.slice pl l.length cl,.int .i64 (n:Nat),.int .i64 (p:Nat)] H Q E
  | 0,n,p,H,Q,h,_,_,_,_=>by omega
  | f+1,n,p,H,Q,hf,hn,hp,hv,hk=>by
    refine zqq2_fn _ _ _ _ _ Q E H ?_
    unfold zqq2 zqq2_6
    obtain ⟨x,hx⟩:∃ x,l[n]?=some x:=⟨_,List.getElem?_eq_getElem hn⟩
    have hxd:l.getD n default=x:=by rw [List.getD_eq_getElem?_getD,hx]; rfl
    obtain ⟨g1,g2,g3⟩:=hz n x hx
    obtain ⟨k2,k1,k0⟩:=kids_of hz hn
    rw [hxd] at k2 k1 k0
    have gk2:x.k=3∨x.k=4→g n=1+g x.l.toNat+g x.r.toNat:=fun h=>by
      have:kidsOf x.k=2:=by unfold kidsOf; rw [if_neg (by omega),if_neg (by omega),if_pos h]
      rcases g3 with g3 | g3 | g3 <;> first | exact g3.2.2.2.2.2 | omega
    have gk1:x.k=5∨x.k=6∨x.k=7→g n=1+g x.l.toNat:=fun h=>by
      have:kidsOf x.k=1:=by unfold kidsOf; rw [if_neg (by omega),if_pos h]
      rcases g3 with g3 | g3 | g3 <;> first | exact g3.2.2.2 | omega
    obtain ⟨a,rfl,hrd⟩:=hv n x hx
    refine ⟨⟨by omega,by omega⟩,?_⟩
    simp only [ptr_some,Int.toNat_natCast]
    refine ⟨x.k,x.l,x.r,x.a,x.b,x.c,x.d,hrd,?_⟩
    refine nw_ext fun i H2 hi2 he2 hc2=>?_
    refine wr_new hc2 (by simp) rfl (c':=x.cells.toArray) rfl fun H3 hc3 hb3=>?_
    have he3:Ext H H3:=ext_but he2 hi2 hb3
    clear hc2 hb3 he2
    have hc3:H3 i=some (.cells #[.int .i64 x.k,.int .i64 x.l,.int .i64 x.r,.int .u64 x.a,.int .u64 x.b,.int .u64 x.c,.int .u64 x.d] 48 (0,0)):=hc3
    have hv3:=hv.ext he3
    unfold rb at hk
    dsimp only at hk
    rw [hxd] at hk
    unfold zqq2_3
    simp only [ptr_some,add_at,Nat.zero_add]
    rw [wrap_succ (by omega),wrap_two (by omega)]
    -- a leaf: one state
    have leaf:∀ (y:Nd),(∀ H' q c' m,Ext H H'→m=[y].length→Vec H' 7 q [y].length c' (flat [y])→(∀ j,blk q j→H j=none)→Q (.slice q m c') H') →
        nw (.cells y.cells.toArray 91 (0,0)) H3 fun i H=>Q (.slice (some ⟨i,0,none⟩) 1 1) H:=by
      intro y hy
      refine nw_ext fun q H4 hq he4 hc4=>?_
      exact hy H4 _ _ 1 (he3.trans he4) rfl (vec_node hc4) (fun j hj=>by obtain ⟨z,hz1,rfl⟩:=hj; cases hz1; exact he3.free hq)
    refine ldI_at (n:=x.k) hc3 rfl ?_
    refine sel_beq (fun c2=>?_) (fun c2=>?_)
    · rw [if_pos c2] at hk
      refine ⟨x.a,x.b,x.c,x.d,rd_at hc3 _ 3 0 fun j hj=>by
        simp only [List.length_cons,List.length_nil] at hj
        match j,hj with
        | 0,_=>rfl
        | 1,_=>rfl
        | 2,_=>rfl
        | 3,_=>rfl,?_⟩
      exact leaf ⟨1,((p+1:Nat):Int),0,x.a,x.b,x.c,x.d⟩ hk
    rw [if_neg c2] at hk
    refine sel_beq (fun c8=>?_) (fun c8=>?_)
    · rw [if_pos c8] at hk
      exact leaf ⟨3,((p+1:Nat):Int),0,0,0,0,0⟩ hk
    rw [if_neg c8] at hk
    refine sel_beq (fun c9=>?_) (fun c9=>?_)
    · rw [if_pos c9] at hk
      exact leaf ⟨4,((p+1:Nat):Int),0,0,0,0,0⟩ hk
    rw [if_neg c9] at hk
    refine sel_beq (fun c1=>?_) (fun c1=>?_)
    · rw [if_neg (by omega),if_neg (by omega),if_neg (by omega),if_neg (by omega),if_neg (by omega)] at hk
      exact leaf (sp (p+1) (p+1)) hk
    refine sel_beq (fun c3=>?_) (fun c3=>?_)
    · rw [if_pos c3] at hk
      obtain ⟨ha,hr,ha0,hr0⟩:=k2 (.inl c3)
      have hg:=gk2 (.inl c3)
      obtain ⟨La,ea⟩:∃ n:Nat,x.l=(n:Nat):=⟨x.l.toNat,by omega⟩
      obtain ⟨Ra,er⟩:∃ n:Nat,x.r=(n:Nat):=⟨x.r.toNat,by omega⟩
      rw [ea,er] at hk hg
      rw [ea] at ha
      rw [er] at hr
      rw [Int.toNat_natCast] at ha hr
      simp only [Int.toNat_natCast] at hk hg
      have i1:=rb_len hz f La p (by omega) (by omega)
      have i2:=rb_len hz f Ra (p+(rb l f La p).length) (by omega) (by omega)
      refine ldI_at (n:=x.l) hc3 rfl ?_
      rw [ea]
      refine rbuild_c hz hsz f La p H3 _ (by omega) (by omega) (by omega) hv3 fun H4 q4 c4 m4 he4 hm4 hv4 hf4=>⟨_,_,_,rfl,?_⟩
      refine ldI_at (n:=x.r) (he4 _ _ hc3) rfl ?_
      rw [er,hm4,wrap_add (by omega)]
      refine rbuild_c hz hsz f Ra _ H4 _ (by omega) (by omega) (by omega) (hv3.ext he4) fun H5 q5 c5 m5 he5 hm5 hv5 hf5=>⟨_,_,_,rfl,?_⟩
      refine app_nds (hv4.ext he5) hv5 rfl hm5 (by omega) fun q6 c6 H6 l6 hl6 hv6 hs6 hb6=>?_
      have hfa:∀ j,blk q4 j→H j=none:=fun j hj=>he3.free (hf4 j hj)
      have heA:=(he3.trans he4).trans he5
      exact hk H6 q6 c6 l6 (ext_app heA hfa hs6) hl6 hv6 (fresh_app heA hfa hb6)
    rw [if_neg c3] at hk
    refine sel_beq (fun c4=>?_) (fun c4=>?_)
    · rw [if_pos c4] at hk
      obtain ⟨ha,hr,ha0,hr0⟩:=k2 (.inr c4)
      have hg:=gk2 (.inr c4)
      obtain ⟨La,ea⟩:∃ n:Nat,x.l=(n:Nat):=⟨x.l.toNat,by omega⟩
      obtain ⟨Ra,er⟩:∃ n:Nat,x.r=(n:Nat):=⟨x.r.toNat,by omega⟩
      rw [ea,er] at hk hg
      rw [ea] at ha
      rw [er] at hr
      rw [Int.toNat_natCast] at ha hr
      simp only [Int.toNat_natCast] at hk hg
      have i1:=rb_len hz f La (p+1) (by omega) (by omega)
      have i2:=rb_len hz f Ra (p+2+(rb l f La (p+1)).length) (by omega) (by omega)
      refine ldI_at (n:=x.l) hc3 rfl ?_
      rw [ea]
      refine rbuild_c hz hsz f La (p+1) H3 _ (by omega) (by omega) (by omega) hv3 fun H4 q4 c4' m4 he4 hm4 hv4 hf4=>⟨_,_,_,rfl,?_⟩
      refine ldI_at (n:=x.r) (he4 _ _ hc3) rfl ?_
      rw [er,hm4,wrap_add (by omega)]
      refine rbuild_c hz hsz f Ra _ H4 _ (by omega) (by omega) (by omega) (hv3.ext he4) fun H5 q5 c5 m5 he5 hm5 hv5 hf5=>⟨_,_,_,rfl,?_⟩
      rw [hm5,wrap_add (by omega)]
      generalize hA:rb l f La (p+1)=A at *
      generalize hB:rb l f Ra (p+2+A.length)=B at *
      refine nw_ext fun s1 H6 hs1 he6 hc6=>?_
      have heA:=(((he3.trans he4).trans he5).trans he6)
      have f5:∀ j,blk (some ⟨s1,0,none⟩) j→H5 j=none:=fresh_blk hs1
      refine app_nds (a:=[sp (p+1) (p+2+A.length)]) (vec_node hc6) ((hv4.ext he5).ext he6) rfl rfl (by simp; omega) fun q7 c7 H7 l7 hl7 hv7 hs7 hb7=>?_
      have e57:Ext H5 H7:=ext_app he6 f5 hs7
      have f57:=fresh_app he6 f5 hb7
      refine nw_ext fun s2 H8 hs2 he8 hc8=>?_
      refine app_nds (b:=[sp (p+2+A.length+B.length) (p+2+A.length+B.length)]) (hv7.ext he8) (vec_node hc8) hl7 rfl (by simp; omega) fun q9 c9 H9 l9 hl9 hv9 hs9 hb9=>?_
      have e59:Ext H5 H9:=ext_app (e57.trans he8) f57 hs9
      have f59:=fresh_app (e57.trans he8) f57 hb9
      refine app_nds hv9 (hv5.ext e59) hl9 rfl (by simp; omega) fun q10 c10 H10 l10 hl10 hv10 hs10 hb10=>?_
      have e510:Ext H5 H10:=ext_app e59 f59 hs10
      have f510:=fresh_app e59 f59 hb10
      have he5':=(he3.trans he4).trans he5
      exact hk H10 q10 c10 l10 (he5'.trans e510) hl10 hv10 (fun j hj=>he5'.free (f510 j hj))
    rw [if_neg c4] at hk
    refine sel_beq (fun c5=>?_) (fun c5=>?_)
    · rw [if_neg (by omega),if_pos c5] at hk
      obtain ⟨ha,ha0⟩:=k1 (.inl c5)
      have hg:=gk1 (.inl c5)
      obtain ⟨La,ea⟩:∃ n:Nat,x.l=(n:Nat):=⟨x.l.toNat,by omega⟩
      rw [ea] at hk hg ha
      rw [Int.toNat_natCast] at ha
      simp only [Int.toNat_natCast] at hk hg
      have i1:=rb_len hz f La (p+1) (by omega) (by omega)
      refine ldI_at (n:=x.l) hc3 rfl ?_
      rw [ea]
      refine rbuild_c hz hsz f La (p+1) H3 _ (by omega) (by omega) (by omega) hv3 fun H4 q4 c4' m4 he4 hm4 hv4 hf4=>⟨_,_,_,rfl,?_⟩
      rw [hm4,wrap_add (by omega)]
      generalize hA:rb l f La (p+1)=A at *
      refine nw_ext fun s1 H6 hs1 he6 hc6=>?_
      have f5:∀ j,blk (some ⟨s1,0,none⟩) j→H4 j=none:=fresh_blk hs1
      refine app_nds (a:=[sp (p+1) (p+2+A.length)]) (vec_node hc6) (hv4.ext he6) rfl rfl (by simp; omega) fun q7 c7 H7 l7 hl7 hv7 hs7 hb7=>?_
      have e57:Ext H4 H7:=ext_app he6 f5 hs7
      have f57:=fresh_app he6 f5 hb7
      refine nw_ext fun s2 H8 hs2 he8 hc8=>?_
      refine app_nds (b:=[sp p p]) (hv7.ext he8) (vec_node hc8) hl7 rfl (by simp; omega) fun q9 c9 H9 l9 hl9 hv9 hs9 hb9=>?_
      have e59:Ext H4 H9:=ext_app (e57.trans he8) f57 hs9
      have f59:=fresh_app (e57.trans he8) f57 hb9
      have he4':=he3.trans he4
      exact hk H9 q9 c9 l9 (he4'.trans e59) hl9 hv9 (fun j hj=>he4'.free (f59 j hj))
    refine sel_beq (fun c6=>?_) (fun c6=>?_)
    · rw [if_neg (by omega),if_neg (by omega),if_pos c6] at hk
      obtain ⟨ha,ha0⟩:=k1 (.inr (.inl c6))
      have hg:=gk1 (.inr (.inl c6))
      obtain ⟨La,ea⟩:∃ n:Nat,x.l=(n:Nat):=⟨x.l.toNat,by omega⟩
      rw [ea] at hk hg ha
      rw [Int.toNat_natCast] at ha
      simp only [Int.toNat_natCast] at hk hg
      have i1:=rb_len hz f La p (by omega) (by omega)
      refine ldI_at (n:=x.l) hc3 rfl ?_
      rw [ea]
      refine rbuild_c hz hsz f La p H3 _ (by omega) (by omega) (by omega) hv3 fun H4 q4 c4' m4 he4 hm4 hv4 hf4=>⟨_,_,_,rfl,?_⟩
      rw [hm4,wrap_add (by omega)]
      generalize hA:rb l f La p=A at *
      refine nw_ext fun s2 H8 hs2 he8 hc8=>?_
      refine app_nds (b:=[sp p (p+1+A.length)]) (hv4.ext he8) (vec_node hc8) rfl rfl (by simp; omega) fun q9 c9 H9 l9 hl9 hv9 hs9 hb9=>?_
      have hfa:∀ j,blk q4 j→H j=none:=fun j hj=>he3.free (hf4 j hj)
      have heA:=(he3.trans he4).trans he8
      exact hk H9 q9 c9 l9 (ext_app heA hfa hs9) hl9 hv9 (fresh_app heA hfa hb9)
    · have c7:x.k=7:=by omega
      rw [if_pos c7] at hk
      obtain ⟨ha,ha0⟩:=k1 (.inr (.inr c7))
      have hg:=gk1 (.inr (.inr c7))
      obtain ⟨La,ea⟩:∃ n:Nat,x.l=(n:Nat):=⟨x.l.toNat,by omega⟩
      rw [ea] at hk hg ha
      rw [Int.toNat_natCast] at ha
      simp only [Int.toNat_natCast] at hk hg
      have i1:=rb_len hz f La (p+1) (by omega) (by omega)
      unfold zqq2_1
      simp only [ptr_some,add_at,Nat.zero_add]
      refine ldI_at (n:=x.l) hc3 rfl ?_
      rw [ea,wrap_succ (by omega)]
      refine rbuild_c hz hsz f La (p+1) H3 _ (by omega) (by omega) (by omega) hv3 fun H4 q4 c4' m4 he4 hm4 hv4 hf4=>⟨_,_,_,rfl,?_⟩
      rw [hm4,wrap_add (by omega)]
      generalize hA:rb l f La (p+1)=A at *
      refine nw_ext fun s1 H6 hs1 he6 hc6=>?_
      have f5:∀ j,blk (some ⟨s1,0,none⟩) j→H4 j=none:=fresh_blk hs1
      refine app_nds (a:=[sp (p+1) (p+1+A.length)]) (vec_node hc6) (hv4.ext he6) rfl rfl (by simp; omega) fun q7 c7 H7 l7 hl7 hv7 hs7 hb7=>?_
      have e57:Ext H4 H7:=ext_app he6 f5 hs7
      have f57:=fresh_app he6 f5 hb7
      have he4':=he3.trans he4
      exact hk H7 q7 c7 l7 (he4'.trans e57) hl7 hv7 (fun j hj=>he4'.free (f57 j hj))
theorem rCompile_c {H:Heap} {p:OA} {c:Nat} {l:List Nd} {Q:QT} {E:ET} (hv:Nds H p l) (hval:validOf l=true)
    (hk:∀ H' p' c',Ext H H'→Vec H' 7 p' (rcomp l).length c' (flat (rcomp l))→Q (.tuple #[.slice p' (rcomp l).length c',.int .i64 0]) H'):Does Pr 36 #[.slice p l.length c] H Q E:=by
  obtain ⟨hpos,h256,g,hz⟩:=valid_sz hval
  have hg:g (l.length - 1)≤l.length - 1+1:=by
    obtain ⟨x,hx⟩:∃ x,l[l.length - 1]?=some x:=⟨_,List.getElem?_eq_getElem (by omega)⟩
    exact (hz _ x hx).2.1
  refine zqo2_fn _ _ _ Q E H ?_
  unfold zqo2 zqo2_3
  refine rValid_c (by omega) hv fun H1 he1=>⟨_,rfl,?_⟩
  rw [hval]
  refine sel_ff ?_
  unfold zqo2_1
  have hw:IntKind.wrap .i64 ((l.length:Int) - 1)=((l.length - 1:Nat):Int):=by rw [IntWalk.i64_in _ (by omega)]; omega
  rw [hw]
  have i1:=rb_len hz l.length (l.length - 1) 0 (by omega) (by omega)
  refine rbuild_c (f:=l.length) (n:=l.length - 1) (p:=0) hz h256 H1 _ (by omega) (by omega) (by omega) (hv.ext he1) fun H2 q2 c2 m2 he2 hm2 hv2 hf2=>⟨_,_,_,rfl,?_⟩
  refine nw_ext fun s H3 hs he3 hc3=>?_
  refine app_nds (b:=[⟨5,0,0,0,0,0,0⟩]) (hv2.ext he3) (vec_node hc3) hm2 rfl (by simp; omega) fun q4 c4 H4 l4 hl4 hv4 hs4 hb4=>?_
  have hfa:∀ j,blk q2 j→H j=none:=fun j hj=>he1.free (hf2 j hj)
  rw [hl4]
  exact hk H4 q4 c4 (ext_app ((he1.trans he2).trans he3) hfa hs4) hv4
end Go.Proofs.Ytaffcoiomggpfaa
