import Derived.Test.YtaffcoiomggpfaaVAuto2
import Derived.Test.YtaffcoiomggpfaaVRegex4
import Derived.Test.YtaffcoiomggpfaaVRegex
import Derived.Test.YtaffcoiomggpfaaVNode
import Derived.Test.YtaffcoiomggpfaaFmatcher
import Derived.Test.YtaffcoiomggpfaaFnfa
import Derived.Test.YtaffcoiomggpfaaFl11
import Derived.Test.YtaffcoiomggpfaaVAuto6
/- Plain law: the nodes of a parse are one tree,kids before their parents. -/
namespace Go.Proofs.Ytaffcoiomggpfaa
open Go.V
attribute [local irreducible] app
set_option linter.constructorNameAsVariable false
set_option linter.unusedVariables false
def setOk (x:Nd):Prop:=x.k=2∨(x.a=0∧x.b=0∧x.c=0∧x.d=0)
inductive Tree:Nat→List Nd→Prop where
  | leaf {o:Nat} {x:Nd} (hk:kidsOf x.k=0) (hl:x.l=0) (hr:x.r=0) (hs:setOk x):Tree o [x]
  | un {o:Nat} {t:List Nd} {x:Nd} (ht:Tree o t) (hk:kidsOf x.k=1) (hl:x.l+1=((o+t.length:Nat):Int)) (hr:x.r=0) (hs:setOk x):Tree o (t++[x])
  | bin {o:Nat} {t u:List Nd} {x:Nd} (ht:Tree o t) (hu:Tree (o+t.length) u) (hk:kidsOf x.k=2) (hl:x.l+1=((o+t.length:Nat):Int)) (hr:x.r+1=((o+t.length+u.length:Nat):Int)) (hs:setOk x) :
      Tree o (t++u++[x])
theorem Tree.pos {o:Nat} {t:List Nd} (h:Tree o t):0 < t.length:=by
  cases h <;> simp only [List.length_append,List.length_cons,List.length_nil] <;> omega
def Adds (r:RP) (n:Nat) (r':RP):Prop:=r'.e=0→∃ t,r'.nds=r.nds++t∧Tree r.nds.length t∧n+1=r'.nds.length
theorem Adds.leaf {r a:RP} (h:a.nds=r.nds) {k:Int} {s:S4} (hk:kidsOf k=0) (hs:k=2∨s=S4.zero):Adds r (a.putN (nd k 0 0 s)).1 (a.putN (nd k 0 0 s)).2:=fun _ =>
  ⟨[nd k 0 0 s],by simp [RP.putN,RP.put,h],.leaf hk rfl rfl (by rcases hs with h | h; exact .inl h; subst h; exact .inr ⟨rfl,rfl,rfl,rfl⟩),by simp [RP.putN,RP.put]⟩
theorem Adds.bad {r a:RP} {n:Nat} (h:a.e ≠ 0):Adds r n a:=fun h'=>absurd h' h
/-! ### The place does not leave the text. -/
def Fit (r:RP):Prop:=r.at_≤r.s.size
theorem Fit.fail {r:RP} (h:Fit r) (e:Int):Fit (r.fail e):=by obtain ⟨_,_,f3,f4⟩:=fail_op r e; unfold Fit; rw [f3,f4]; exact h
theorem Fit.next {r:RP} {c:Nat} (h:r.next=(c,true)):Fit r.inc:=(RP.next_some h).2.1
theorem next_ok {r:RP} (h:¬ (r.next.2=false)):r.next=(r.next.1,true):=Prod.ext rfl (by simpa using h)
theorem escape_fit {r r':RP} {x} (h:r.escape=(x,r')) (hr:r.at_ < r.s.size):Fit r':=by
  have h0:Fit r.inc:=hr
  unfold RP.escape at h
  split at h
  · cases h; exact h0.fail _
  · rename_i c hn
    have h1:Fit r.inc.inc:=Fit.next hn
    split at h
    · cases h; exact h1
    · split at h
      cases h
      split
      · exact h1
      · exact h1.fail _
theorem member_fit {r r':RP} {x} (h:r.member=(x,r')) (hr:Fit r):Fit r':=by
  unfold RP.member at h
  split at h
  · cases h; exact hr.fail _
  · rename_i c hn
    split at h
    · cases h; exact hr.fail _
    · split at h
      · exact escape_fit h (RP.next_some hn).2.1
      · cases h; exact Fit.next hn
theorem elem_fit {r1 r5:RP} {first:Nat} {set set':S4} {many:Bool} (h:r1.elem first set many=(set',r5)) (hr:Fit r1):Fit r5:=by
  unfold RP.elem at h
  split at h
  · rename_i hn
    split at h
    rename_i last s2 many2 r4 hm
    cases h
    have h1:Fit (if many=true then r1.inc.fail 80 else r1.inc):=by
      split
      · exact (Fit.next hn).fail _
      · exact Fit.next hn
    have h2:=member_fit hm h1
    split
    · exact h2.fail _
    · exact h2
  · cases h; exact hr
theorem classLoop_fit:∀ (n:Nat) (x:Bool) (out:S4) (r:RP),Fit r→Fit (r.classLoop n x out).2
  | 0,_,_,r,h=>h
  | n+1,x,out,r,h=>by
    unfold RP.classLoop
    split
    · rename_i hn; exact Fit.next hn.1
    · split
      rename_i first set many r1 hm
      split
      rename_i set' r5 he
      have h5:=elem_fit he (member_fit hm h)
      split
      · exact h5
      · exact classLoop_fit n true _ r5 h5
theorem class_fit (r:RP) (h:Fit r):Fit r.class.2:=by
  have h1:Fit (if r.next.1=94 then r.inc else r):=by
    split
    · rename_i h94
      exact Fit.next (next_ok (fun hf=>by have:=(RP.next_none (r:=r) (c:=r.next.1) (Prod.ext rfl hf)).1; omega))
    · exact h
  have h2:=classLoop_fit (r.s.size+1) false S4.zero _ h1
  unfold RP.class
  generalize (if r.next.1=94 then r.inc else r).classLoop (r.s.size+1) false S4.zero=R at h2
  obtain ⟨⟨out,k⟩,r'⟩:=R
  cases k <;> exact h2
theorem atomOf_fit {pat:RP→Nat × RP} (hp:∀ r,Fit r→Fit (pat r).2) (c:Nat) (r:RP) (hr:r.at_ < r.s.size):Fit (atomOf pat c r).2:=by
  have h0:Fit r.inc:=hr
  unfold atomOf
  split
  · exact h0
  split
  · exact h0
  split
  · exact h0
  split
  · exact class_fit _ h0
  split
  · exact h0.fail _
  split
  · exact h0.fail _
  split
  · exact (escape_fit (r':=r.escape.2) (x:=r.escape.1) rfl hr:Fit r.escape.2)
  split
  · split
    · exact Fit.fail (r:=r.inc.up) h0 _
    · dsimp only
      have h:=hp r.inc.up h0
      generalize pat r.inc.up=X at h ⊢
      split
      · rename_i hn; exact Fit.next hn
      · exact h.fail _
  · exact h0
theorem signs_fit:∀ (f n:Nat) (r:RP),Fit r→Fit (signs f n r).2
  | 0,n,r,h=>h
  | f+1,n,r,h=>by
    unfold signs
    split
    · exact h
    · rename_i hs
      refine signs_fit f _ _ ?_
      have h1:Fit r.inc:=Fit.next (next_ok (fun hf=>by
        have:=(RP.next_none (r:=r) (c:=r.next.1) (Prod.ext rfl hf)).1
        rcases signOf_pos hs with h | h | h <;> omega))
      exact h1
theorem altLoop_fit {pat:RP→Nat × RP} (hp:∀ r,Fit r→Fit (pat r).2):∀ (f:Nat) (n:Option Nat) (r:RP),Fit r→Fit (altLoop pat f n r).2
  | 0,n,r,h=>h
  | f+1,n,r,h=>by
    unfold altLoop
    split
    · have h1:Fit (if r.next=(41,true)∧r.op=0 then r.fail 83 else r):=by
        split
        · exact h.fail _
        · exact h
      cases n <;> exact h1
    · rename_i hc
      have hn:=next_ok (fun h=>hc (.inl h))
      have h1:Fit (partOf pat r.next.1 r).2:=signs_fit _ _ _ (atomOf_fit hp _ _ (RP.next_some hn).2.1)
      cases n
      · exact altLoop_fit hp f _ _ h1
      · exact altLoop_fit hp f _ _ h1
theorem patLoop_fit {pat:RP→Nat × RP} (hp:∀ r,Fit r→Fit (pat r).2):∀ (f n:Nat) (r:RP),Fit r→Fit (patLoop pat f n r).2
  | 0,n,r,h=>h
  | f+1,n,r,h=>by
    unfold patLoop
    split
    · rename_i hn
      have h1:Fit (altOf pat r.inc).2:=altLoop_fit hp _ _ _ (Fit.next hn)
      exact patLoop_fit hp f _ _ h1
    · exact h
theorem patN_fit:∀ (n:Nat) (r:RP),Fit r→Fit (patN n r).2
  | 0,r,h=>h
  | n+1,r,h=>patLoop_fit (patN_fit n) _ _ _ (altLoop_fit (patN_fit n) _ _ _ h)
def PatA (pat:RP→Nat × RP) (op:Nat):Prop:=∀ r,Fit r→r.op=op→Adds r (pat r).1 (pat r).2
theorem atomOf_adds {pat:RP→Nat × RP} (c:Nat) (r:RP) (hp:r.op+1≤24→PatA pat (r.op+1)) (hr:r.at_ < r.s.size):Adds r (atomOf pat c r).1 (atomOf pat c r).2:=by
  unfold atomOf
  split
  · exact .leaf rfl (by decide) (.inl rfl)
  split
  · exact .leaf rfl (by decide) (.inr rfl)
  split
  · exact .leaf rfl (by decide) (.inr rfl)
  split
  · exact .leaf (class_le r.inc).nds (by decide) (.inl rfl)
  split
  · exact .bad (RP.fail_e _ (by decide))
  split
  · exact .bad (RP.fail_e _ (by decide))
  split
  · exact .leaf (escape_le (x:=r.escape.1) rfl).nds (by decide) (.inl rfl)
  split
  · split
    · exact .bad (RP.fail_e _ (by decide))
    · dsimp only
      intro he
      rename_i h24
      have h:=hp (by omega) r.inc.up hr rfl
      revert he h
      generalize pat r.inc.up=X
      intro he h
      split at he
      · rename_i hn
        rw [if_pos hn]
        exact h he
      · exact absurd he (RP.fail_e _ (by decide))
  · exact .leaf rfl (by decide) (.inl rfl)
theorem signs_adds (r0:RP):∀ (f n:Nat) (r:RP),Adds r0 n r→Adds r0 (signs f n r).1 (signs f n r).2
  | 0,n,r,h=>h
  | f+1,n,r,h=>by
    unfold signs
    split
    · exact h
    · rename_i hs
      refine signs_adds r0 f _ _ fun he=>?_
      obtain ⟨t,h1,h2,h3⟩:=h he
      refine ⟨t++[nd (signOf r.next.1) n 0 S4.zero],by simp [RP.put,RP.inc,h1],.un h2 ?_ ?_ rfl (.inr ⟨rfl,rfl,rfl,rfl⟩),by simp [RP.put,RP.inc]⟩
      · show kidsOf ((signOf r.next.1:Nat):Int)=1
        rcases signOf_pos hs with h | h | h <;> rw [h] <;> decide
      · simp only [nd]; rw [h1] at h3; simp at h3; omega
theorem partOf_adds {pat:RP→Nat × RP} (c:Nat) (r:RP) (hp:r.op+1≤24→PatA pat (r.op+1)) (hr:r.at_ < r.s.size):Adds r (partOf pat c r).1 (partOf pat c r).2 :=
  signs_adds r _ _ _ (atomOf_adds c r hp hr)
theorem altLoop_adds {pat:RP→Nat × RP} {op:Nat} (hu:∀ r,Up r (pat r).2 1 0) (hp:op+1≤24→PatA pat (op+1)) (r0:RP):∀ (f:Nat) (n:Option Nat) (r:RP),(r.e=0→r.op=op)→r.s.size < f+r.at_ →
    (match n with | none=>r.nds=r0.nds | some m=>Adds r0 m r)→(altLoop pat f n r).2.e=0→((altLoop pat f n r).2.at_≤(altLoop pat f n r).2.s.size)→Adds r0 (altLoop pat f n r).1 (altLoop pat f n r).2
  | 0,n,r,ho,hf,h,he,hb=>by simp only [altLoop] at *; omega
  | f+1,n,r,ho,hf,h,he,hb=>by
    unfold altLoop at he hb ⊢
    split
    · rename_i hc
      rw [if_pos hc] at he hb
      cases n with
      | none =>
        simp only [] at h ⊢
        refine .leaf ?_ (by decide) (.inr rfl)
        split
        · exact (fail_op _ _).2.1.trans h
        · exact h
      | some m =>
        simp only [] at h he ⊢
        intro _
        split at he
        · exact absurd he (RP.fail_e _ (by decide))
        · rename_i hn; rw [if_neg hn]; exact h he
    · rename_i hc
      rw [if_neg hc] at he hb
      have hr:=next_e (fun h=>hc (.inl h))
      have h1:=partOf_up hu r.next.1 r hr
      have hop:=ho hr
      have h2:=partOf_adds r.next.1 r (by rw [hop]; exact hp) (RP.next_some (next_ok (fun h=>hc (.inl h)))).2.1
      revert he hb h1 h2
      generalize partOf pat r.next.1 r=X
      intro he hb h1 h2
      have hx:=h1.at_
      have hxs:=h1.s
      have hxo:=h1.op
      cases n with
      | none =>
        simp only [] at h he hb ⊢
        refine altLoop_adds hu hp r0 f (some X.1) X.2 (fun h=>(hxo (.inl h)).trans hop) (by rw [hxs]; omega) ?_ he hb
        intro hX
        obtain ⟨t,g1,g2,g3⟩:=h2 hX
        rw [h] at g1 g2
        exact ⟨t,g1,g2,g3⟩
      | some k =>
        simp only [] at h he hb ⊢
        refine altLoop_adds hu hp r0 f (some X.2.nds.length) _ (fun h=>(hxo (.inl h)).trans hop) (by simp only [RP.put]; rw [hxs]; omega) ?_ he hb
        intro hX
        obtain ⟨t,g1,g2,g3⟩:=h hr
        obtain ⟨u,q1,q2,q3⟩:=h2 hX
        refine ⟨t++u++[nd 3 k X.1 S4.zero],by simp [RP.put,q1,g1],.bin g2 (by rw [g1] at q2; simpa using q2) (show kidsOf 3=2 by decide) ?_ ?_ (.inr ⟨rfl,rfl,rfl,rfl⟩),by simp [RP.put]⟩
        · simp only [nd]; rw [g1] at g3; simp at g3; omega
        · simp only [nd]; rw [q1,g1] at q3; simp at q3; omega
theorem patLoop_adds {pat:RP→Nat × RP} {op:Nat} (hu:∀ r,Up r (pat r).2 1 0) (ha:∀ r,Fit r→(r.e=0→r.op=op)→Adds r (altOf pat r).1 (altOf pat r).2) (r0:RP):∀ (f n:Nat) (r:RP),(r.e=0→r.op=op)→Adds r0 n r→Adds r0 (patLoop pat f n r).1 (patLoop pat f n r).2
  | 0,n,r,ho,h=>h
  | f+1,n,r,ho,h=>by
    unfold patLoop
    split
    · rename_i hn
      obtain ⟨g1,g2,g3,g4⟩:=RP.next_some hn
      have h2:=ha r.inc (by simp only [Fit,RP.inc]; omega) ho
      have hxo:=(altOf_up hu r.inc).op
      dsimp only
      refine patLoop_adds hu ha r0 f _ _ (fun h=>(hxo (.inl h)).trans (ho g1)) fun hX=>?_
      clear hxo
      revert hX h2
      generalize altOf pat r.inc=X
      intro h2 hX
      obtain ⟨t,e1,e2,e3⟩:=h g1
      obtain ⟨u,q1,q2,q3⟩:=h2 hX
      have q1:X.2.nds=r.nds++u:=q1
      have q2:Tree r.nds.length u:=q2
      refine ⟨t++u++[nd 4 n X.1 S4.zero],by simp [RP.put,q1,e1],.bin e2 (by rw [e1] at q2; simpa using q2) (show kidsOf 4=2 by decide) ?_ ?_ (.inr ⟨rfl,rfl,rfl,rfl⟩),by simp [RP.put]⟩
      · simp only [nd]; rw [e1] at e3; simp at e3; omega
      · simp only [nd]; rw [q1,e1] at q3; simp at q3; omega
    · exact h
theorem altOf_adds {pat:RP→Nat × RP} {op:Nat} (hu:∀ r,Up r (pat r).2 1 0) (hf:∀ r,Fit r→Fit (pat r).2) (hp:op+1≤24→PatA pat (op+1)) (r:RP) (hr:Fit r) (ho:r.e=0→r.op=op) :
    Adds r (altOf pat r).1 (altOf pat r).2:=fun he =>
  altLoop_adds hu hp r (r.s.size+1) none r ho (by omega) rfl he (altLoop_fit hf _ _ _ hr) he
theorem patN_adds:∀ (n op:Nat),op≤24→25≤op+n→PatA (patN n) op
  | 0,op,h1,h2=>by omega
  | n+1,op,h1,h2=>fun r hr ho=>by
    have ha:=fun r hr ho=>altOf_adds (op:=op) (patN_up n) (patN_fit n) (fun h=>patN_adds n (op+1) h (by omega)) r hr ho
    exact patLoop_adds (patN_up n) ha r _ _ _ (fun h=>((altOf_up (patN_up n) r).op (.inl h)).trans ho) (ha r hr fun _=>ho)
end Go.Proofs.Ytaffcoiomggpfaa
/- Plain law: a tree is Valid,and has one kid less than nodes. -/
namespace Go.Proofs.Ytaffcoiomggpfaa
open Go.V
attribute [local irreducible] app
set_option linter.constructorNameAsVariable false
set_option linter.unusedVariables false
theorem set_no {x:Nd} (h:setOk x):¬ (x.k ≠ 2∧¬ (x.a=0∧x.b=0∧x.c=0∧x.d=0)):=fun g=>by
  rcases h with h | h
  · exact g.1 h
  · exact g.2 h
theorem vsteps_cons {sz sz':List Int} {x:Nd} {l:List Nd} (h:vstep sz x=some sz'):vsteps sz (x :: l)=vsteps sz' l:=by
  conv=>lhs; unfold vsteps
  rw [h]
theorem tree_vsteps {o:Nat} {t:List Nd} (h:Tree o t):∀ (sz:List Int) (rest:List Nd),sz.length=o →
    ∃ zs:List Int,zs.length=t.length∧zs.getD (t.length - 1) 0=t.length∧vsteps sz (t++rest)=vsteps (sz++zs) rest:=by
  induction h with
  | @leaf o x hk hl hr hs =>
    intro sz rest ho
    refine ⟨[1],rfl,rfl,?_⟩
    have:vstep sz x=some (sz++[1]):=by
      unfold vstep; simp only []; rw [if_neg (set_no hs),if_pos hk,if_pos ⟨hl,hr⟩]
    simp only [List.singleton_append,vsteps,this]
  | @un o t x ht hk hl hr hs ih =>
    intro sz rest ho
    obtain ⟨zs,h1,h2,h3⟩:=ih sz (x :: rest) ho
    have hp:=ht.pos
    refine ⟨zs++[1+(t.length:Int)],by simp [h1],?_,?_⟩
    · rw [getD_app_right _ _ _ (by simp; omega)]; simp [h1]; omega
    · have hlen:((sz++zs).length:Int)=((o+t.length:Nat):Int):=by simp [ho,h1]
      have hv:vstep (sz++zs) x=some (sz++zs++[1+(t.length:Int)]):=by
        unfold vstep; simp only []
        rw [if_neg (set_no hs),if_neg (by omega),if_neg (by omega),if_pos hk,if_neg (by omega),if_pos ⟨by omega,hr⟩]
        rw [hlen,getD_app_right _ _ _ (by omega),show (((o+t.length:Nat):Int) - 1).toNat - sz.length=t.length - 1 by omega,h2]
      rw [List.append_assoc,List.singleton_append,h3]
      simp only [vsteps,hv,List.append_assoc]
  | @bin o t u x ht hu hk hl hr hs ih1 ih2 =>
    intro sz rest ho
    obtain ⟨zs,h1,h2,h3⟩:=ih1 sz (u++(x :: rest)) ho
    obtain ⟨ws,g1,g2,g3⟩:=ih2 (sz++zs) (x :: rest) (by simp [ho,h1])
    have hp:=ht.pos
    have hq:=hu.pos
    refine ⟨zs++ws++[1+(u.length:Int)+t.length],by simp [h1,g1],?_,?_⟩
    · rw [getD_app_right _ _ _ (by simp; omega)]; simp [h1,g1]; omega
    · have hlen:((sz++zs++ws).length:Int)=((o+t.length+u.length:Nat):Int):=by simp [ho,h1,g1]; omega
      have e1:(sz++zs++ws).getD (((o+t.length+u.length:Nat):Int) - 1).toNat 0=u.length:=by
        rw [getD_app_right _ _ _ (by simp; omega),show (((o+t.length+u.length:Nat):Int) - 1).toNat - (sz++zs).length=u.length - 1 by simp [ho,h1]; omega,g2]
      have e2:(sz++zs++ws).getD (((o+t.length+u.length:Nat):Int) - (1+(u.length:Int))).toNat 0=t.length:=by
        rw [getD_app_left _ _ _ (by simp; omega),getD_app_right _ _ _ (by omega),show (((o+t.length+u.length:Nat):Int) - (1+(u.length:Int))).toNat - sz.length=t.length - 1 by omega,h2]
      have hv:vstep (sz++zs++ws) x=some (sz++zs++ws++[1+(u.length:Int)+t.length]):=by
        unfold vstep; simp only []
        rw [if_neg (set_no hs),if_neg (by omega),if_pos hk,if_neg (by omega),hlen,e1,if_neg (by omega),if_pos ⟨by omega,by omega⟩,e2]
      have e:t++u++[x]++rest=t++(u++(x :: rest)):=by simp
      rw [e,h3,g3,vsteps_cons hv]
      simp only [List.append_assoc]
theorem tree_valid {t:List Nd} (h:Tree 0 t) (hl:t.length≤256):validOf t=true:=by
  obtain ⟨zs,h1,h2,h3⟩:=tree_vsteps h [] [] rfl
  have hp:=h.pos
  cases t with
  | nil=>simp at hp
  | cons x l =>
    unfold validOf
    rw [if_neg (by omega)]
    rw [List.append_nil,List.nil_append] at h3
    have h3:vsteps [] (x :: l)=some zs:=h3
    simp only [h3,decide_eq_true_eq]
    exact h2
theorem kids2_eq {k:Int} (h:0≤kidsOf k):kids2 k=kidsOf k:=by
  unfold kidsOf at *; unfold kids2
  repeat' split
  all_goals first | rfl | omega | (exfalso; simp_all; done) | skip
  all_goals (split at h <;> omega)
def kidsSum (l:List Nd):Int:=(l.map fun x=>kids2 x.k).sum
theorem tree_kids {o:Nat} {t:List Nd} (h:Tree o t):kidsSum t=t.length - 1:=by
  induction h with
  | @leaf o x hk hl hr hs =>
    have:=kids2_eq (k:=x.k) (by omega)
    simp [kidsSum,this,hk]
  | @un o t x ht hk hl hr hs ih =>
    have:=kids2_eq (k:=x.k) (by omega)
    simp [kidsSum,this,hk] at ih ⊢; omega
  | @bin o t u x ht hu hk hl hr hs ih1 ih2 =>
    have:=kids2_eq (k:=x.k) (by omega)
    simp [kidsSum,this,hk] at ih1 ih2 ⊢; omega
theorem rxParse_small {s:ByteArray} {l:List Nd} {e:Int} (h:rxParse s=(l,e)):(e ≠ 0→l=[])∧(e=0→l.length≤2 * s.size+1∧kidsSum l=l.length - 1∧validOf l=true∧l.length≤256):=by
  unfold rxParse at h
  split at h
  · cases h; exact ⟨fun _=>rfl,fun h=>absurd h (by decide)⟩
  · simp only [] at h
    have hu:=patN_up 25 (parser0 s)
    have hf:=patN_fit 25 (parser0 s) (Nat.zero_le _)
    have ha:=patN_adds 25 0 (by omega) (by omega) (parser0 s) (Nat.zero_le _) rfl
    revert h hu hf ha
    generalize patN 25 (parser0 s)=X
    intro h hu hf ha
    split at h
    · cases h; exact ⟨fun _=>rfl,fun h=>absurd h (by assumption)⟩
    · split at h
      · cases h; exact ⟨fun _=>rfl,fun h=>absurd h (by decide)⟩
      · cases h
        rename_i he hlen
        have he:X.2.e=0:=by simpa using he
        obtain ⟨t,g1,g2,g3⟩:=ha he
        have g1:X.2.nds=t:=by simpa [parser0] using g1
        have g2:Tree 0 t:=g2
        refine ⟨fun h=>absurd rfl h,fun _=>⟨?_,?_,?_,by omega⟩⟩
        · have:=hu.nds
          have:=hu.s
          unfold Fit at hf
          rw [this] at hf
          simp [parser0] at *
          omega
        · rw [g1]; exact tree_kids g2
        · rw [g1]; exact tree_valid g2 (by rw [← g1]; omega)
end Go.Proofs.Ytaffcoiomggpfaa
/- Contracts of packages nfa (Compile) and matcher. -/
namespace Go.Proofs.Ytaffcoiomggpfaa
open Go.V
attribute [local irreducible] app
set_option linter.constructorNameAsVariable false
set_option linter.unusedVariables false
theorem Compile_c {H:Heap} {p:OA} {c:Nat} {l:List Nd} {Q:QT} {E:ET} (hv:Vec H 7 p l.length c (flat l)) (hval:validOf l=true)
    (hk:∀ H' p' c',Ext H H'→Vec H' 7 p' (buildOf l).length c' (flat (buildOf l))→Q (.tuple #[.slice p' (buildOf l).length c',.int .i64 0]) H'):Does Pr 33 #[.slice p l.length c] H Q E:=by
  refine zqh2_fn _ _ _ Q E H ?_
  unfold zqh2 zqh2_3
  refine Valid_c hv fun H1 he1=>⟨_,rfl,?_⟩
  rw [hval]
  refine sel_ff ?_
  unfold zqh2_1
  exact Build_c (Vec.nds (hv.ext he1)) hval fun H2 p2 c2 he2 hv2 hf2=>⟨_,_,_,rfl,hk H2 p2 c2 (he1.trans he2) hv2⟩
theorem MNew_c {H:Heap} {s:ByteArray} {N:List Nd} {e:Int} {Q:QT} {E:ET} (hp:rxParse s=(N,e))
    (hbad:e ≠ 0→∀ H',Ext H H'→Q (.tuple #[.agg #[.slice none 0 0],.int .i64 e]) H')
    (hk:e=0→∀ H' p c,Ext H H'→Vec H' 7 p (buildOf N).length c (flat (buildOf N))→Q (.tuple #[.agg #[.slice p (buildOf N).length c],.int .i64 0]) H'):Does Pr 77 #[.string s] H Q E:=by
  refine zqn1_fn _ Q E H ?_
  unfold zqn1
  refine nw_ext fun i H1 hi he1 hc1=>?_
  unfold zqn1_6
  refine Parse_c fun p c l e' H2 hp' he2 hv2 hf2=>⟨_,_,_,_,rfl,?_⟩
  rw [hp] at hp'
  cases hp'
  have hc2:=he2 _ _ hc1
  unfold zqn1_3
  refine sel_bne (fun hne=>?_) (fun heq=>?_)
  · simp only [ptr_some]
    refine wr_new hc2 (by simp) rfl (c':=#[.slice none 0 0]) rfl fun H3 hc3 hb3=>?_
    exact ⟨none,0,0,rd_at hc3 _ 0 0 (fun j hj=>by simp),hbad hne H3 (ext_but (he1.trans he2) hi hb3)⟩
  · obtain ⟨_,r2⟩:=rxParse_small hp
    obtain ⟨_,_,r3,_⟩:=r2 heq
    unfold zqn1_1
    refine Compile_c hv2 r3 fun H3 p3 c3 he3 hv3=>⟨_,_,_,_,rfl,?_⟩
    simp only [ptr_some]
    refine wr_new (he3 _ _ hc2) (by simp) rfl (c':=#[.slice p3 (buildOf N).length c3]) rfl fun H4 hc4 hb4=>?_
    refine ⟨p3,(buildOf N).length,c3,rd_at hc4 _ 0 0 (fun j hj=>by simp),hk heq H4 p3 c3 (ext_but ((he1.trans he2).trans he3) hi hb4) ?_⟩
    exact hv3.keep fun j hj hn=>by
      by_cases e:j=i
      · subst e
        obtain ⟨_,_,h3⟩:=hv3
        cases p3 with
        | none=>obtain ⟨x,hx,_⟩:=hj; cases hx
        | some a =>
          obtain ⟨b,cs,t,rfl,hb,hcs,hget⟩:=h3
          obtain ⟨x,hx,rfl⟩:=hj
          cases hx
          rw [he3 _ _ hc2] at hb
          cases hb
          have:=build_facts r3
          simp at hcs
          omega
      · exact hb4 j e
theorem Begin_c {H:Heap} {p:OA} {c:Nat} {st:List Nd} {Q:QT} {E:ET} (hv:Vec H 7 p st.length c (flat st)) (hr:InR st) (hpos:0 < st.length) (hn:st.length≤100000)
    (hk:∀ a H1 H',Ext H H1→MSt H1 H' a p c st false (startM st true)→Q (.pointer (some ⟨a,0,none⟩)) H'):Does Pr 78 #[.agg #[.slice p st.length c]] H Q E:=by
  refine zqo1_fn _ _ _ Q E H ?_
  unfold zqo1
  refine nw_ext fun i H1 hi he1 hc1=>?_
  refine ldSl_at (p:=p) (l:=st.length) (m:=c) hc1 rfl ?_
  exact start_c (hv.ext he1) hr hpos hn fun a H2 m2=>⟨_,rfl,hk a H1 H2 he1 m2⟩
def Pcs (H:Heap) (p:OA) (n c:Nat) (L:List (List UInt8)):Prop :=
  L.length=n∧n≤c∧∃ vs:List Value,vs.length=n∧H.rdS p vs∧∀ (i:Nat) (bs:List UInt8),L[i]?=some bs→∃ (q:OA) (m cc:Nat),vs[i]?=some (Value.slice q m cc)∧Byt H q m cc bs
theorem Pcs.ext {H H':Heap} {p:OA} {n c:Nat} {L:List (List UInt8)} (h:Pcs H p n c L) (he:Ext H H'):Pcs H' p n c L:=by
  obtain ⟨h1,h2,vs,h3,h4,h5⟩:=h
  refine ⟨h1,h2,vs,h3,rdS_ext he h4,fun i bs hb=>?_⟩
  obtain ⟨q,m,cc,e1,e2⟩:=h5 i bs hb
  exact ⟨q,m,cc,e1,e2.ext he⟩
def playOf (s:ByteArray) (L:List (List UInt8)):Int × Int × Int :=
  if (rxParse s).2 ≠ 0 then (0,0,(rxParse s).2) else playSt (buildOf (rxParse s).1) L
theorem sum_drop (L:List (List UInt8)) {k:Nat} {b:List UInt8} (h:L[k]?=some b):((L.drop k).map List.length).sum=b.length+((L.drop (k+1)).map List.length).sum:=by
  have hlt:=(List.getElem?_eq_some_iff.1 h).1
  rw [List.drop_eq_getElem_cons hlt]
  rw [List.getElem?_eq_getElem hlt] at h
  rw [Option.some.inj h]
  simp
set_option maxHeartbeats 1000000 in
theorem Play_c {H:Heap} {s:ByteArray} {p:OA} {n c:Nat} {L:List (List UInt8)} {Q:QT} {E:ET} (hL:Pcs H p n c L) (hn:n≤1048576) (hsum:(L.map List.length).sum≤1048576)
    (hk:∀ H',Ext H H'→Q (.tuple #[.int .i64 (playOf s L).1,.int .i64 (playOf s L).2.1,.int .i64 (playOf s L).2.2]) H'):Does Pr 45 #[.string s,.slice p n c] H Q E:=by
  refine zqm1_fn _ _ _ _ Q E H ?_
  unfold zqm1 zqm1_30
  obtain ⟨N,e',hp⟩:∃ N e',rxParse s=(N,e'):=⟨_,_,rfl⟩
  refine MNew_c hp (fun hne H1 he1=>?_) (fun heq H1 p1 c1 he1 hv1=>?_)
  · have hpl:playOf s L=(0,0,e'):=by unfold playOf; rw [hp]; exact if_pos hne
    rw [hpl] at hk
    refine ⟨_,_,_,_,rfl,?_⟩
    refine nw_ext fun i H2 hi he2 hc2=>?_
    refine wr_new hc2 (by simp) rfl (c':=#[.slice none 0 0]) rfl fun H3 hc3 hb3=>?_
    unfold zqm1_27
    refine sel_bne (fun _=>?_) (fun h=>absurd h hne)
    exact hk H3 (he1.trans (ext_but he2 hi hb3))
  · subst heq
    obtain ⟨_,r2⟩:=rxParse_small hp
    obtain ⟨_,_,r3,_⟩:=r2 rfl
    obtain ⟨b1,b2,b3,b4⟩:=build_facts r3
    have hpl:playOf s L=playSt (buildOf N) L:=by unfold playOf; rw [hp]; exact if_neg (by simp)
    rw [hpl] at hk
    generalize buildOf N=st at *
    refine ⟨_,_,_,_,rfl,?_⟩
    refine nw_ext fun i H2 hi he2 hc2=>?_
    refine wr_new hc2 (by simp) rfl (c':=#[.slice p1 st.length c1]) rfl fun H3 hc3 hb3=>?_
    have he13:Ext H1 H3:=ext_but he2 hi hb3
    unfold zqm1_27
    refine sel_bne (fun h=>absurd rfl h) (fun _=>?_)
    unfold zqm1_24
    simp only [ptr_some]
    refine ⟨p1,st.length,c1,rd_at hc3 _ 0 0 (fun j hj=>by simp),?_⟩
    refine Begin_c (hv1.ext he13) b1 (by omega) (by omega) fun a HB H4 heB m4=>⟨_,rfl,?_⟩
    have hHB:Ext H HB:=(he1.trans he13).trans heB
    have hok:=start_ok b1 (by omega) true
    unfold zqm1_21
    refine matched_c m4 b1 (by omega) fun H5 m5=>⟨_,rfl,?_⟩
    refine sel_dec (fun hf=>?_) (fun hf=>?_)
    · have:playSt st L=(-1,0,0):=if_pos hf
      rw [this] at hk
      exact hk H5 (hHB.trans m5.1)
    · have hps:playSt st L=playL st L 0 ((startM st true).matched st):=if_neg hf
      have hat:((startM st true).matched st).at_=0:=(Ma.matched_at st _).1
      generalize (startM st true).matched st=M0 at *
      rw [hps] at hk
      unfold zqm1_17 zqm1_14
      refine ⟨fun x H'=>∃ (k:Nat) (M:Ma),x=(k:Nat)∧k≤n∧playL st (L.drop k) k M=playL st L 0 M0∧M.at_+((L.drop k).map List.length).sum≤1048576∧MSt HB H' a p1 c1 st false M,
        fun x _=>(n - x).toNat,⟨0,M0,rfl,by omega,by simp,by rw [hat]; simpa using hsum,m5⟩,?_⟩
      rintro x H6 ⟨k,M,rfl,hkn,hpk,hatk,m6⟩
      have hLB:=hL.ext hHB
      obtain ⟨l1,l2,vs,l3,l4,l5⟩:=hLB
      unfold zqm1_11 zqm1_8
      refine sel_dec (fun hlt=>?_) (fun hge=>?_)
      · have hlt:k < L.length:=by omega
        have hbk:L[k]?=some L[k]:=List.getElem?_eq_getElem hlt
        rw [List.drop_eq_getElem_cons hlt] at hpk
        have hsd:=sum_drop L hbk
        generalize L[k]=b at hbk hpk hsd
        obtain ⟨q,m,cc,e1,e2⟩:=l5 k b hbk
        simp only [playL] at hpk
        unfold zqm1_5
        cases p with
        | none =>
          have:vs=[]:=l4
          subst this; simp at e1
        | some ad =>
          have hcell:H6.cell? (ad.add (0+k))=some (.slice q m cc):=rd_get (rd_ext m6.1 l4) e1
          rw [Nat.zero_add] at hcell
          simp only [ptr_some,Int.toNat_natCast,Nat.mul_one]
          refine ⟨⟨by omega,by omega⟩,q,m,cc,hcell,?_⟩
          refine feed_c m6 b1 (by omega) (by omega) e2.1 e2.2.2 (by omega) fun H7 m7=>⟨_,rfl,?_⟩
          refine sel_dec (fun hf2=>?_) (fun hf2=>?_)
          · rw [if_pos hf2] at hpk
            refine found_c m7 b1 (by omega) fun H8 m8=>⟨_,rfl,?_⟩
            rw [← hpk] at hk
            exact hk H8 (hHB.trans m8.1)
          · rw [if_neg hf2] at hpk
            unfold zqm1_3
            have hw:IntKind.wrap .i64 ((k:Int)+1)=((k+1:Nat):Int):=by rw [IntWalk.i64_in _ (by omega)]; omega
            rw [hw]
            have hfa:=feed_at st false (b.map UInt8.toNat) M
            rw [List.length_map] at hfa
            exact ⟨⟨k+1,_,rfl,by omega,hpk,by omega,m7⟩,by omega⟩
      · have hkL:k=L.length:=by omega
        rw [hkL,List.drop_length] at hpk
        have hpk:(((L.length:Nat):Int),(-1:Int),(0:Int))=playL st L 0 M0:=hpk
        rw [← hpk] at hk
        unfold zqm1_1
        rw [← l1]
        exact hk H6 (hHB.trans m6.1)
end Go.Proofs.Ytaffcoiomggpfaa
/- Patterns,ranges,appended bytes. -/
namespace Go.Proofs.Ytaffcoiomggpfaa
open Go.V
attribute [local irreducible] app
set_option linter.constructorNameAsVariable false
set_option linter.unusedVariables false
theorem drawOf_bounds {xs:List Int} {k n:Nat} (hn:0 < n) (hn2:n≤1048576):0≤drawOf xs k n∧drawOf xs k n < n:=by
  unfold drawOf
  split
  · exact modOf_bounds hn hn2
  · omega
theorem Patterns_c {H:Heap} {Q:QT} {E:ET} (hk:∀ H' i,Ext H H'→H i=none→H' i=some (.cells #[(.string ⟨[111,107].toArray⟩),(.string ⟨#[]⟩),(.string ⟨[114,46,42,121,36].toArray⟩),(.string ⟨[94,117,112,124,103,111,43].toArray⟩),(.string ⟨[91,48,45,57,93,43,120,63].toArray⟩),(.string ⟨[40,97,98,41,42,99].toArray⟩),(.string ⟨[94,36].toArray⟩)] 9 (0,0))→Q (.slice (some ⟨i,0,none⟩) 7 7) H') :
    Does Pr 21 #[] H Q E:=by
  refine zqp1_fn Q E H ?_
  unfold zqp1
  exact nw_ext fun i H1 hi he1 hc1=>hk H1 i he1 hi hc1
def pats:List ByteArray:=[⟨[111,107].toArray⟩,⟨#[]⟩,⟨[114,46,42,121,36].toArray⟩,⟨[94,117,112,124,103,111,43].toArray⟩,⟨[91,48,45,57,93,43,120,63].toArray⟩,⟨[40,97,98,41,42,99].toArray⟩,⟨[94,36].toArray⟩]
theorem pats_get {n:Nat} (h:n < 7):(#[(.string ⟨[111,107].toArray⟩),(.string ⟨#[]⟩),(.string ⟨[114,46,42,121,36].toArray⟩),(.string ⟨[94,117,112,124,103,111,43].toArray⟩),(.string ⟨[91,48,45,57,93,43,120,63].toArray⟩),(.string ⟨[40,97,98,41,42,99].toArray⟩),(.string ⟨[94,36].toArray⟩)]:Array Value)[n]?=some (.string (pats.getD n default)):=by
  match n,h with
  | 0,_=>rfl
  | 1,_=>rfl
  | 2,_=>rfl
  | 3,_=>rfl
  | 4,_=>rfl
  | 5,_=>rfl
  | 6,_=>rfl
theorem bytes_one (l:List UInt8):(l.map byteV).all oneC=true:=by
  induction l with
  | nil=>rfl
  | cons x l ih=>simp only [List.map_cons,List.all_cons,Bool.and_eq_true]; exact ⟨rfl,ih⟩
theorem app_byt {H:Heap} {p q:OA} {l c n c2:Nat} {bs ws:List UInt8} {K:OA→Nat→Nat→Heap→Prop} (hv:Vec H 1 p l c (bs.map byteV)) (hw:Byt H q n c2 ws) (hcap:l+n≤1048576)
    (hk:∀ p' c' H',Vec H' 1 p' (l+n) c' ((bs++ws).map byteV)→(∀ j,¬ blk p j→H j ≠ none→H' j=H j)→(∀ j,blk p' j→blk p j∨H j=none)→K p' (l+n) c' H'):app Pr 24 p l c (.slice q n c2) H K :=
  app_vec (sz:=1) (n:=n) (ws:=ws.map byteV) sl24 hv (fun K hK=>⟨ws.map byteV,by rw [List.length_map,hw.1]; omega,hw.2.2,hK⟩) (by rw [List.length_map,hw.1]; omega) (bytes_one ws) hcap (by omega)
    fun p' c' H' h1 h2 h3=>hk p' c' H' (by rw [List.map_append]; exact h1) h2 h3
theorem ext_app {H0 H H':Heap} {p:OA} (he:Ext H0 H) (hf:∀ j,blk p j→H0 j=none) (hs:∀ j,¬ blk p j→H j ≠ none→H' j=H j):Ext H0 H':=fun j o hj=>by
  have h1:=he j o hj
  rw [hs j (fun hb=>by rw [hf j hb] at hj; cases hj) (by rw [h1]; simp)]; exact h1
theorem fresh_app {H0 H:Heap} {p p':OA} (he:Ext H0 H) (hf:∀ j,blk p j→H0 j=none) (hb:∀ j,blk p' j→blk p j∨H j=none):∀ j,blk p' j→H0 j=none:=fun j hj=>by
  rcases hb j hj with h | h
  · exact hf j h
  · exact he.free h
theorem vec_byt {H:Heap} {p:OA} {l c:Nat} {bs:List UInt8} (h:Vec H 1 p l c (bs.map byteV)):Byt H p l c bs :=
  ⟨by have:=h.1; simpa using this,h.2.1,h.rdS⟩
theorem fresh_blk {H:Heap} {i:Nat} (h:H i=none):∀ j,blk (some ⟨i,0,none⟩) j→H j=none:=fun j hj=>by obtain ⟨a,ha,rfl⟩:=hj; cases ha; exact h
theorem Byt.take {H:Heap} {p:OA} {n c:Nat} {bs:List UInt8} (h:Byt H p n c bs) (k:Nat) (hk:k≤n) :
    Byt H (if c=0 then p else Option.map (fun a=>Addr.add a (0 * 1)) p) (k - 0) (c - 0) (bs.take k):=by
  obtain ⟨h1,h2,h3⟩:=h
  have hp:(if c=0 then p else Option.map (fun a=>Addr.add a (0 * 1)) p)=p:=by
    split
    · rfl
    · cases p with
      | none=>rfl
      | some a=>simp [Addr.add]
  rw [hp]
  refine ⟨by rw [List.length_take]; omega,by omega,?_⟩
  have tk:∀ (k:Nat) (a:Addr) (vs:List Value) (i:Nat),H.rd a i vs→H.rd a i (vs.take k):=fun k a=>by
    induction k with
    | zero=>intro vs i _; simp; trivial
    | succ k ih =>
      intro vs i h
      cases vs with
      | nil=>trivial
      | cons v vs=>exact ⟨h.1,ih vs (i+1) h.2⟩
  cases p with
  | none =>
    have:bs.map byteV=[]:=h3
    simp at this; subst this; simp; rfl
  | some a =>
    rw [List.map_take]
    exact tk k a _ 0 h3
end Go.Proofs.Ytaffcoiomggpfaa
/- Contracts of package jobmuxlaw11: Output,pieces,sane. -/
namespace Go.Proofs.Ytaffcoiomggpfaa
open Go.V
attribute [local irreducible] app
set_option linter.constructorNameAsVariable false
set_option linter.unusedVariables false
theorem sl64:SlT Pr 64 1:=.of (by kernel_rfl)
def outs:List ByteArray:=[⟨[111,107].toArray⟩,⟨[111].toArray⟩,⟨[107].toArray⟩,⟨[114,101,97,100,121,10].toArray⟩,⟨[117,112].toArray⟩,⟨[10,103,111,111].toArray⟩,⟨[49,50,120].toArray⟩,⟨[97,98,97,98,99].toArray⟩,⟨[99].toArray⟩,⟨[10].toArray⟩,⟨[122,122].toArray⟩,⟨[27,91,49,109,104,105,13,10].toArray⟩]
theorem outs_get {n:Nat} (h:n < 12):(#[(.string ⟨[111,107].toArray⟩),(.string ⟨[111].toArray⟩),(.string ⟨[107].toArray⟩),(.string ⟨[114,101,97,100,121,10].toArray⟩),(.string ⟨[117,112].toArray⟩),(.string ⟨[10,103,111,111].toArray⟩),(.string ⟨[49,50,120].toArray⟩),(.string ⟨[97,98,97,98,99].toArray⟩),(.string ⟨[99].toArray⟩),(.string ⟨[10].toArray⟩),(.string ⟨[122,122].toArray⟩),(.string ⟨[27,91,49,109,104,105,13,10].toArray⟩)]:Array Value)[n]?=some (.string (outs.getD n default))∧(outs.getD n default).size≤8:=by
  match n,h with
  | 0,_=>exact ⟨rfl,by decide⟩
  | 1,_=>exact ⟨rfl,by decide⟩
  | 2,_=>exact ⟨rfl,by decide⟩
  | 3,_=>exact ⟨rfl,by decide⟩
  | 4,_=>exact ⟨rfl,by decide⟩
  | 5,_=>exact ⟨rfl,by decide⟩
  | 6,_=>exact ⟨rfl,by decide⟩
  | 7,_=>exact ⟨rfl,by decide⟩
  | 8,_=>exact ⟨rfl,by decide⟩
  | 9,_=>exact ⟨rfl,by decide⟩
  | 10,_=>exact ⟨rfl,by decide⟩
  | 11,_=>exact ⟨rfl,by decide⟩
theorem Output_c {H0 H:Heap} {d k:Nat} {xs:List Int} {Q:QT} {E:ET} (h:Deck H0 H d xs k)
    (hk:∀ (H':Heap) (i c:Nat) (bs:List UInt8) (cs:Array Value) (t:TypeId) (fr:Nat × Nat) (k':Nat),Deck H0 H' d xs k'→(∀ j o,j ≠ d→H j=some o→H' j=some o)→H i=none→i ≠ d→H' i=some (.cells cs t fr)→(∀ j,j < bs.length→cs[j]?=(bs.map byteV)[j]?)→bs.length≤8→bs.length≤c→Q (.slice (some ⟨i,0,none⟩) bs.length c) H') :
    Does Pr 76 #[.pointer (some ⟨d,0,none⟩)] H Q E:=by
  refine zqu1_fn _ Q E H ?_
  unfold zqu1
  refine nw_ext fun i H1 hi he1 hc1=>?_
  refine Next_c (h.ext he1) (b:=12) (by decide) fun H2 hd2 hf2=>⟨_,rfl,?_⟩
  have hb:=drawOf_bounds (xs:=xs) (k:=k) (n:=12) (by omega) (by omega)
  have e12:(12:Int)=((12:Nat):Int):=rfl
  rw [e12]
  generalize drawOf xs k ((12:Nat):Int)=r at hb
  have hid:i ≠ d:=fun e=>by
    obtain ⟨_,_,_,p,n,c,t,_,h5⟩:=h
    rw [e,h5] at hi; cases hi
  obtain ⟨g1,g2⟩:=outs_get (n:=0+r.toNat * 1) (by omega)
  refine ⟨⟨hb.1,hb.2⟩,?_⟩
  rw [add_at]
  refine ldS_at ((hf2 i hid).trans hc1) g1 ?_
  generalize outs.getD (0+r.toNat * 1) default=s at g2
  intro c hc
  refine nw_ext fun q H3 hq he3 hc3=>?_
  have hqd:q ≠ d:=fun e=>by
    obtain ⟨_,_,_,p,n,c,t,_,h5⟩:=hd2
    rw [e,h5] at hq; cases hq
  have hl:s.data.toList.length=s.size:=by rw [Array.length_toList]; rfl
  have old:∀ j o,j ≠ d→H j=some o→H2 j=some o:=fun j o hj ho=>by rw [hf2 j hj]; exact he1 j o ho
  have:=hk H3 q c s.data.toList _ 5 _ _ (hd2.ext he3) (fun j o hj ho=>he3 j o (old j o hj ho)) (by
    cases hh:H q with
    | none=>rfl
    | some o=>rw [old q o hqd hh] at hq; cases hq) hqd hc3 (fun j hj=>by
      rw [List.getElem?_toArray,List.getElem?_append_left (by simp [bytesV]; omega)]; rfl) (by rw [hl]; exact g2) (by rw [hl]; exact hc)
  rw [hl] at this
  exact this
theorem byt_of {H:Heap} {i c:Nat} {cs:Array Value} {t:TypeId} {fr:Nat × Nat} {bs:List UInt8} (h:H i=some (.cells cs t fr)) (hc:∀ j,j < bs.length→cs[j]?=(bs.map byteV)[j]?) (hl:bs.length≤c):Byt H (some ⟨i,0,none⟩) bs.length c bs :=
  ⟨rfl,hl,rd_at h _ 0 0 fun j hj=>by rw [Nat.add_zero,Nat.zero_add]; exact hc j (by simpa using hj)⟩
set_option maxHeartbeats 1000000 in
theorem pieces_c {H:Heap} {p:OA} {n c:Nat} {xs:List Int} {Q:QT} {E:ET} (h:Ints H p n xs)
    (hk:∀ (H':Heap) (p:OA) (n c:Nat) (L:List (List UInt8)),Ext H H'→Pcs H' p n c L→n≤5→(∀ b ∈ L,b.length≤8)→Q (.slice p n c) H'):Does Pr 44 #[.slice p n c] H Q E:=by
  refine zqv2_fn _ _ _ Q E H ?_
  unfold zqv2 zqv2_18
  refine New_c h fun d H1 hd=>⟨_,rfl,?_⟩
  unfold zqv2_15 zqv2_11
  refine Next_c hd (b:=6) (by decide) fun H2 hd2 hf2=>⟨_,rfl,?_⟩
  have hb:=drawOf_bounds (xs:=xs) (k:=0) (n:=6) (by omega) (by omega)
  have e6:(6:Int)=((6:Nat):Int):=rfl
  rw [e6]
  generalize drawOf xs 0 ((6:Nat):Int)=r at hb
  unfold zqv2_8
  refine ⟨fun p4 l4 c4 x5 H'=>∃ (L:List (List UInt8)) (vs:List Value) (j:Nat) (HB:Heap),l4=L.length∧vs.length=L.length∧0≤x5∧(L.length:Int)+x5≤5∧Vec H' 1 p4 L.length c4 vs∧Deck H H' d xs j ∧
      Ext H HB∧Ext HB H'∧HB d=none∧(∀ i,blk p4 i→HB i=none∧i ≠ d)∧(∀ b ∈ L,b.length≤8)∧∀ (i:Nat) (bs:List UInt8),L[i]?=some bs→∃ (q:OA) (m cc:Nat),vs[i]?=some (Value.slice q m cc)∧Byt HB q m cc bs,
    fun _ _ _ x5 _=>x5.toNat,⟨[],[],_,H,rfl,rfl,by omega,by show (0:Int)+_≤_; omega,Vec.nil _ 1,hd2,Ext.refl _,hd2.1,hd2.2.1,fun i hi=>(by obtain ⟨a,ha,_⟩:=hi; cases ha),by simp,by simp⟩,?_⟩
  rintro p4 l4 c4 x5 H3 ⟨L,vs,j,HB,rfl,hvl,hx0,hx5,hv,hdk,heB,hBH,hBd,hf,hb8,hel⟩
  unfold zqv2_5
  refine sel_dec (fun hpos=>?_) (fun hend=>?_)
  · unfold zqv2_3
    refine Output_c hdk fun H4 i ci bs cs t fr k' hd4 hold hi hid hci hcs hbl hbc=>⟨_,_,_,rfl,?_⟩
    have hv4:Vec H4 1 p4 L.length c4 vs:=by
      refine hv.keep fun q hq hn=>?_
      cases hh:H3 q with
      | none=>exact absurd hh hn
      | some o=>exact hold q o (hf q hq).2 hh
    have hB4d:H3 d ≠ none:=by
      obtain ⟨_,_,_,p,n,c,t,_,h5⟩:=hdk
      rw [h5]; simp
    have base1:Ext HB (beside HB H3 H4):=fun q o hq=>by
      rw [beside_some (by rw [hq]; simp)]
      exact hold q o (fun e=>by rw [e,hBd] at hq; cases hq) (hBH q o hq)
    have base2:Ext (beside HB H3 H4) H4:=beside_ext _ _ _
    have hnew:(beside HB H3 H4) i=some (.cells cs t fr):=by rw [beside_free hi]; exact hci
    refine nw_ext fun q H5 hq he5 hc5=>?_
    refine app_one (sz:=1) (ws:=[.slice (some ⟨i,0,none⟩) bs.length ci]) sl64 (hv4.ext he5) hc5 rfl rfl (by omega) (by omega) fun p' c' H6 hv6 hs6 hb6=>?_
    have hw:IntKind.wrap .i64 (x5 - 1)=x5 - 1:=by rw [IntWalk.i64_in _ (by omega)]
    rw [hw]
    have hfb:∀ j,blk p4 j→(beside HB H3 H4) j=none:=fun j hj=>beside_priv (hf j hj).1 (hv.known hj)
    have base3:Ext (beside HB H3 H4) H6:=ext_app (base2.trans he5) hfb hs6
    have hd5:=hd4.ext he5
    have hd6:Deck H H6 d xs k':=by
      obtain ⟨g1,g2,g3,p2,n2,c2,t2,g4,g5⟩:=hd5
      refine ⟨fun k o hk=>?_,g2,g3,p2,n2,c2,t2,g4,?_⟩
      · rw [hs6 k (fun hq=>by have:=(hf k hq).1; rw [heB k o hk] at this; cases this) (by simp [g1 k o hk])]; exact g1 k o hk
      · rw [hs6 d (fun hq=>(hf d hq).2 rfl) (by simp [g5])]; exact g5
    refine ⟨⟨L++[bs],vs++[.slice (some ⟨i,0,none⟩) bs.length ci],_,beside HB H3 H4,by simp,by simp [hvl],by omega,by rw [List.length_append]; push_cast; simp; omega,by simpa using hv6,hd6,heB.trans base1,base3,beside_priv hBd hB4d,fun k hk=>?_,?_,?_⟩,by show (x5 - 1).toNat < x5.toNat; omega⟩
    · rcases hb6 k hk with h | h
      · exact ⟨hfb k h,(hf k h).2⟩
      · refine ⟨(base2.trans he5).free h,fun e=>?_⟩
        obtain ⟨g1,g2,g3,p2,n2,c2,t2,g4,g5⟩:=hd5
        rw [e,g5] at h; cases h
    · intro b hb
      rcases List.mem_append.1 hb with h | h
      · exact hb8 b h
      · simp at h; subst h; exact hbl
    · intro k b hkb
      by_cases hkl:k < L.length
      · rw [List.getElem?_append_left hkl] at hkb
        obtain ⟨q,m,cc,e1,e2⟩:=hel k b hkb
        exact ⟨q,m,cc,by rw [List.getElem?_append_left (by omega)]; exact e1,e2.ext base1⟩
      · have hk1:k=L.length:=by
          have:=(List.getElem?_eq_some_iff.1 hkb).1
          simp at this; omega
        subst hk1
        simp at hkb; subst hkb
        exact ⟨some ⟨i,0,none⟩,bs.length,ci,by rw [List.getElem?_append_right (by omega),hvl]; simp,byt_of hnew hcs hbc⟩
  · unfold zqv2_1
    refine hk H3 p4 L.length c4 L (heB.trans hBH) ⟨rfl,hv.2.1,vs,hvl,hv.rdS,fun i bs hi=>?_⟩ (by omega) hb8
    obtain ⟨q,m,cc,e1,e2⟩:=hel i bs hi
    exact ⟨q,m,cc,e1,e2.ext hBH⟩
theorem sane11_1:playOf ⟨[98,36].toArray⟩ [[97,98],[98],[10,120]]=(2,4,0):=by decide +kernel
theorem sane11_2:playOf ⟨#[]⟩ []=(-1,0,0):=by decide +kernel
theorem sane11_c {H:Heap} {Q:QT} {E:ET} (hk:∀ H',Ext H H'→Q (.bool true) H'):Does Pr 43 #[] H Q E:=by
  refine zqu2_fn Q E H ?_
  unfold zqu2
  have fz:∀ {H1 H2:Heap} {i:Nat} {o:Obj},Ext H1 H2→H1 i=none→Ext H1 (H2.set i o):=fun he hi=>he.set hi _
  refine nw_ext fun i1 H1 hi1 he1 hc1=>⟨_,_,hc1,?_⟩
  have x1:Ext H (H1.set i1 (.cells #[.int .u8 97,.int .u8 98] 5 (2,2+1))):=he1.set hi1 _
  have y1:=Heap.set_self H1 i1 (.cells #[.int .u8 97,.int .u8 98] 5 (2,2+1))
  change (fun H=>nw _ H _) (H1.set i1 (.cells #[.int .u8 97,.int .u8 98] 5 (2,2+1)))
  revert x1 y1
  generalize H1.set i1 (.cells #[.int .u8 97,.int .u8 98] 5 (2,2+1))=G1
  intro x1 y1
  refine nw_ext fun i2 H2 hi2 he2 hc2=>⟨_,_,hc2,?_⟩
  have x2:Ext G1 (H2.set i2 (.cells #[.int .u8 98] 5 (1,1+1))):=he2.set hi2 _
  have y2:=Heap.set_self H2 i2 (.cells #[.int .u8 98] 5 (1,1+1))
  change (fun H=>nw _ H _) (H2.set i2 (.cells #[.int .u8 98] 5 (1,1+1)))
  revert x2 y2
  generalize H2.set i2 (.cells #[.int .u8 98] 5 (1,1+1))=G2
  intro x2 y2
  refine nw_ext fun i3 H3 hi3 he3 hc3=>⟨_,_,hc3,?_⟩
  have x3:Ext G2 (H3.set i3 (.cells #[.int .u8 10,.int .u8 120] 5 (2,2+1))):=he3.set hi3 _
  have y3:=Heap.set_self H3 i3 (.cells #[.int .u8 10,.int .u8 120] 5 (2,2+1))
  change (fun H=>nw _ H _) (H3.set i3 (.cells #[.int .u8 10,.int .u8 120] 5 (2,2+1)))
  revert x3 y3
  generalize H3.set i3 (.cells #[.int .u8 10,.int .u8 120] 5 (2,2+1))=G3
  intro x3 y3
  refine nw_ext fun i4 H4 hi4 he4 hc4=>?_
  have hp:Pcs H4 (some ⟨i4,0,none⟩) 3 3 [[97,98],[98],[10,120]]:=by
    refine ⟨rfl,Nat.le_refl _,[.slice (some ⟨i1,0,none⟩) 2 2,.slice (some ⟨i2,0,none⟩) 1 1,.slice (some ⟨i3,0,none⟩) 2 2],rfl,rd_at hc4 _ 0 0 (fun j hj=>by simp),fun i bs hb=>?_⟩
    match i,hb with
    | 0,hb=>cases hb; exact ⟨_,_,_,rfl,byt_of (he4 _ _ (x3 _ _ (x2 _ _ y1))) (fun j hj=>by simp; rfl) (Nat.le_refl _)⟩
    | 1,hb=>cases hb; exact ⟨_,_,_,rfl,byt_of (he4 _ _ (x3 _ _ y2)) (fun j hj=>by simp; rfl) (Nat.le_refl _)⟩
    | 2,hb=>cases hb; exact ⟨_,_,_,rfl,byt_of (he4 _ _ y3) (fun j hj=>by simp; rfl) (Nat.le_refl _)⟩
    | i+3,hb=>simp at hb
  refine Play_c hp (by omega) (by decide) fun H5 he5=>⟨_,_,_,rfl,?_⟩
  rw [sane11_1]
  refine Play_c (L:=[]) (p:=none) (n:=0) (c:=0) ⟨rfl,Nat.le_refl _,[],rfl,rfl,by simp⟩ (by omega) (by decide) fun H6 he6=>⟨_,_,_,rfl,?_⟩
  rw [sane11_2]
  exact sel_tt (sel_tt (sel_tt (sel_tt (hk H6 (((((x1.trans x2).trans x3).trans he4).trans he5).trans he6)))))
theorem flatten_le:∀ (L:List (List UInt8)),(∀ b ∈ L,b.length≤8)→L.flatten.length≤8 * L.length
  | [],_=>by simp
  | b :: L,h=>by
    have h1:=h b (by simp)
    have h2:=flatten_le L fun x hx=>h x (by simp [hx])
    simp only [List.flatten_cons,List.length_append,List.length_cons]
    omega
theorem sum_flatten (L:List (List UInt8)):(L.map List.length).sum=L.flatten.length:=by rw [List.length_flatten]
end Go.Proofs.Ytaffcoiomggpfaa
/- What nodes mean,and what the states of an automaton mean: plain laws. -/
namespace Go.Proofs.Ytaffcoiomggpfaa
open Go.V
attribute [local irreducible] app
set_option linter.unusedVariables false
inductive Star (R:Nat→Nat→Prop):Nat→Nat→Prop where
  | none (i:Nat):Star R i i
  | more {i j k:Nat}:R i j→Star R j k→Star R i k
def bolAt (t:List Nat) (i:Nat):Prop:=i=0∨t[i - 1]?=some 10
def eolAt (t:List Nat) (i:Nat):Prop:=t[i]?=some 10
def leafR (x:Nd) (t:List Nat) (i j:Nat):Prop :=
  if x.k=2 then j=i+1∧∃ b,t[i]?=some b∧x.set.has b=true
  else if x.k=8 then j=i∧bolAt t i
  else if x.k=9 then j=i∧eolAt t i
  else j=i
def mean (t:List Nat) (l:List Nd):Nat→Nat→Nat→Nat→Prop
  | 0,_,i,j=>j=i
  | f+1,n,i,j =>
    let x:=l.getD n default
    if x.k=2∨x.k=8∨x.k=9 then leafR x t i j
    else if x.k=3 then ∃ m,mean t l f x.l.toNat i m∧mean t l f x.r.toNat m j
    else if x.k=4 then mean t l f x.l.toNat i j∨mean t l f x.r.toNat i j
    else if x.k=7 then mean t l f x.l.toNat i j∨j=i
    else if x.k=5 then Star (mean t l f x.l.toNat) i j
    else if x.k=6 then ∃ m,mean t l f x.l.toNat i m∧Star (mean t l f x.l.toNat) m j
    else j=i
def Step (st:List Nd) (t:List Nat) (q i q' i':Nat):Prop :=
  let x:=st.getD q default
  (x.k=2∧i'=i∧(q'=x.l.toNat∨q'=x.r.toNat))∨(x.k=3∧bolAt t i∧i'=i∧q'=x.l.toNat)∨(x.k=4∧eolAt t i∧i'=i∧q'=x.l.toNat) ∨
  (x.k=1∧i'=i+1∧q'=x.l.toNat∧∃ b,t[i]?=some b∧x.set.has b=true)
inductive Acc (st:List Nd) (t:List Nat) (g k:Nat):Nat→Nat→Nat→Prop where
  | here:Acc st t g k 0 g k
  | step {n q i q' i':Nat}:Step st t q i q' i'→Acc st t g k n q' i'→Acc st t g k (n+1) q i
theorem acc_step {st:List Nd} {t:List Nat} {g k n q i:Nat} (h:Acc st t g k n q i) (hg:q ≠ g):∃ m q' i',n=m+1∧Step st t q i q' i'∧Acc st t g k m q' i':=by
  cases h with
  | here=>exact absurd rfl hg
  | step h1 h2=>exact ⟨_,_,_,rfl,h1,h2⟩
theorem setL_end:∀ (st a:List Nd) (v:Int),setL (st++a) st.length v=st++setL a 0 v
  | [],_,_=>rfl
  | x :: st,a,v=>by
    show x :: setL (st++a) st.length v=_
    rw [setL_end st a v]; rfl
theorem bd_app (l:List Nd):∀ (f n out:Nat) (st:List Nd),∃ new,(bd l f n out st).2=st++new
  | 0,n,out,st=>⟨[],by simp [bd]⟩
  | f+1,n,out,st=>by
    unfold bd
    dsimp only
    split
    · exact ⟨_,rfl⟩
    split
    · exact ⟨_,rfl⟩
    split
    · exact ⟨_,rfl⟩
    split
    · obtain ⟨a,ha⟩:=bd_app l f (l.getD n default).r.toNat out st
      obtain ⟨b,hb⟩:=bd_app l f (l.getD n default).l.toNat (bd l f (l.getD n default).r.toNat out st).1 (bd l f (l.getD n default).r.toNat out st).2
      exact ⟨a++b,by rw [hb,ha,List.append_assoc]⟩
    split
    · obtain ⟨a,ha⟩:=bd_app l f (l.getD n default).l.toNat out st
      obtain ⟨b,hb⟩:=bd_app l f (l.getD n default).r.toNat out (bd l f (l.getD n default).l.toNat out st).2
      refine ⟨a++(b++[⟨2,(bd l f (l.getD n default).l.toNat out st).1,(bd l f (l.getD n default).r.toNat out (bd l f (l.getD n default).l.toNat out st).2).1,0,0,0,0⟩]),?_⟩
      show _++[_]=_
      rw [hb,ha,List.append_assoc,List.append_assoc]
    split
    · obtain ⟨a,ha⟩:=bd_app l f (l.getD n default).l.toNat out st
      exact ⟨a++[_],by rw [ha,List.append_assoc]⟩
    split
    · obtain ⟨a,ha⟩:=bd_app l f (l.getD n default).l.toNat st.length (st++[⟨2,0,out,0,0,0,0⟩])
      refine ⟨setL ([⟨2,0,out,0,0,0,0⟩]++a) 0 ((bd l f (l.getD n default).l.toNat st.length (st++[⟨2,0,out,0,0,0,0⟩])).1:Nat),?_⟩
      rw [ha,List.append_assoc]
      exact setL_end st _ _
    · exact ⟨[],by simp⟩
end Go.Proofs.Ytaffcoiomggpfaa
