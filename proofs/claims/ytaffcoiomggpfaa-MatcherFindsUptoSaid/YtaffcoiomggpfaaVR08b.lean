import Derived.Test.YtaffcoiomggpfaaVEnds
import Derived.Test.YtaffcoiomggpfaaVRegex
import Derived.Test.YtaffcoiomggpfaaVRel2
/- Searching a text with the states of an automaton: sets of states as predicates. -/
namespace Go.Proofs.Ytaffcoiomggpfaa
open Go.V
attribute [local irreducible] app
set_option linter.unusedVariables false
theorem step_le {st:List Nd} {t:List Nat} {q i q' i':Nat} (h:Step st t q i q' i'):i≤i':=by
  unfold Step at h; dsimp only at h
  rcases h with ⟨_,rfl,_⟩ | ⟨_,_,rfl,_⟩ | ⟨_,_,rfl,_⟩ | ⟨_,rfl,_⟩ <;> omega
theorem acc_le {st:List Nd} {t:List Nat} {g k m q i:Nat} (h:Acc st t g k m q i):i≤k:=by
  induction h with
  | here=>omega
  | step h1 _ ih=>have:=step_le h1; omega
theorem step_agree {st:List Nd} {t u:List Nat} {q i q' i':Nat} (h:Step st t q i q' i') (hu:∀ p,p≤i→u[p]?=t[p]?):Step st u q i q' i':=by
  unfold Step at h ⊢; dsimp only at h ⊢
  rcases h with h | ⟨h1,h2,h3⟩ | ⟨h1,h2,h3⟩ | ⟨h1,h2,h3,h4⟩
  · exact .inl h
  · refine .inr (.inl ⟨h1,?_,h3⟩)
    unfold bolAt at h2 ⊢
    rw [hu _ (by omega)]; exact h2
  · refine .inr (.inr (.inl ⟨h1,?_,h3⟩))
    unfold eolAt at h2 ⊢
    rw [hu _ (by omega)]; exact h2
  · refine .inr (.inr (.inr ⟨h1,h2,h3,?_⟩))
    rw [hu _ (by omega)]; exact h4
theorem acc_agree {st:List Nd} {t u:List Nat} {g k m q i:Nat} (h:Acc st t g k m q i) (hu:∀ p,p≤k→u[p]?=t[p]?):Acc st u g k m q i:=by
  induction h with
  | here=>exact .here
  | step h1 h2 ih =>
    have:=step_le h1; have:=acc_le h2
    exact .step (step_agree h1 fun p hp=>hu p (by omega)) ih
def Cl (st:List Nd) (bol eol:Bool) (P:Nat→Prop) (q:Nat):Prop:=∃ j,P j∧Rch st bol eol j q
def Rd (st:List Nd) (c:Nat) (P:Nat→Prop) (q':Nat):Prop:=∃ q,P q∧(st.getD q default).k=1∧(st.getD q default).set.has c=true∧q'=(st.getD q default).l.toNat
def CanP (st:List Nd) (t:List Nat) (g k i:Nat) (P:Nat→Prop):Prop:=∃ q,P q∧∃ m,Acc st t g k m q i
theorem Cl.closed {st:List Nd} {bol eol:Bool} {P:Nat→Prop} {j s:Nat} (h:Cl st bol eol P j) (hs:s ∈ goes st bol eol j):Cl st bol eol P s:=by
  obtain ⟨a,h1,h2⟩:=h
  exact ⟨a,h1,h2.snoc hs⟩
theorem Rch.trans {st:List Nd} {bol eol:Bool} {a b c:Nat} (h:Rch st bol eol a b) (h2:Rch st bol eol b c):Rch st bol eol a c:=by
  induction h with
  | here j=>exact h2
  | more h1 _ ih=>exact .more h1 (ih h2)
theorem goes_mono {st:List Nd} {bol:Bool} {e e':Bool} (h:e=true→e'=true) {j s:Nat} (hs:s ∈ goes st bol e j):s ∈ goes st bol e' j:=by
  unfold goes at hs ⊢
  by_cases h2:(st.getD j default).k=2
  · rw [if_pos h2] at hs ⊢; exact hs
  · rw [if_neg h2] at hs ⊢
    by_cases h3:((st.getD j default).k=3∧bol=true)∨((st.getD j default).k=4∧e=true)
    · rw [if_pos h3] at hs
      rw [if_pos (h3.imp id fun h4=>⟨h4.1,h h4.2⟩)]; exact hs
    · rw [if_neg h3] at hs; simp at hs
theorem Rch.mono {st:List Nd} {bol:Bool} {e e':Bool} (h:e=true→e'=true) {a b:Nat} (hr:Rch st bol e a b):Rch st bol e' a b:=by
  induction hr with
  | here j=>exact .here j
  | more h1 _ ih=>exact .more (goes_mono h h1) ih
theorem Cl.twice {st:List Nd} {bol:Bool} {e e':Bool} (h:e=true→e'=true) {P:Nat→Prop} {q:Nat}:Cl st bol e' (Cl st bol e P) q↔Cl st bol e' P q :=
  ⟨fun ⟨a,⟨b,h1,h2⟩,h3⟩=>⟨b,h1,(h2.mono h).trans h3⟩,fun ⟨b,h1,h2⟩=>⟨b,⟨b,h1,.here _⟩,h2⟩⟩
theorem canP_cl {st:List Nd} {t:List Nat} {g:Nat} {bol eol:Bool} {i k:Nat} {P:Nat→Prop} (hb:bol=true→bolAt t i) (he:eol=true→eolAt t i) :
    CanP st t g k i (Cl st bol eol P)↔CanP st t g k i P:=by
  constructor
  · rintro ⟨q,⟨j,hj,hrch⟩,m,ha⟩
    refine ⟨j,hj,?_⟩
    clear hj
    induction hrch with
    | here j=>exact ⟨m,ha⟩
    | more h1 _ ih =>
      obtain ⟨m2,h2⟩:=ih ha
      exact ⟨m2+1,.step (goes_step hb he h1) h2⟩
  · rintro ⟨q,hq,m,ha⟩
    exact ⟨q,⟨q,hq,.here q⟩,m,ha⟩
theorem canP_read {st:List Nd} {t:List Nat} {g:Nat} {bol eol:Bool} {i k:Nat} {P:Nat→Prop} (hc:∀ j,P j→∀ s ∈ goes st bol eol j,P s) (hb:bolAt t i→bol=true) (he:eolAt t i→eol=true) :
    CanP st t g k i P↔(P g∧k=i)∨∃ c,t[i]?=some c∧CanP st t g k (i+1) (Rd st c P):=by
  constructor
  · rintro ⟨q,hq,m,ha⟩
    induction m generalizing q with
    | zero =>
      cases ha with
      | here=>exact .inl ⟨hq,rfl⟩
    | succ m ih =>
      cases ha with
      | step hs ha =>
        rename_i q' i'
        unfold Step at hs
        dsimp only at hs
        rcases hs with ⟨h2,rfl,h⟩ | ⟨h3,hb',rfl,rfl⟩ | ⟨h4,he',rfl,rfl⟩ | ⟨h1,rfl,rfl,c,hc',hh⟩
        · refine ih q' (hc q hq _ ?_) ha
          unfold goes
          rw [if_pos h2]
          simp only [List.mem_cons,List.not_mem_nil,or_false]
          exact h.symm
        · refine ih _ (hc q hq _ ?_) ha
          unfold goes
          rw [if_neg (by omega),if_pos (.inl ⟨h3,hb hb'⟩)]
          simp
        · refine ih _ (hc q hq _ ?_) ha
          unfold goes
          rw [if_neg (by omega),if_pos (.inr ⟨h4,he he'⟩)]
          simp
        · exact .inr ⟨c,hc',_,⟨q,hq,h1,hh,rfl⟩,m,ha⟩
  · rintro (⟨h,rfl⟩ | ⟨c,hc',q',hq',m,ha⟩)
    · exact ⟨g,h,0,.here⟩
    · obtain ⟨q,hq,h1,hh,rfl⟩:=hq'
      exact ⟨q,hq,m+1,.step (.inr (.inr (.inr ⟨h1,rfl,rfl,c,hc',hh⟩))) ha⟩
def Mt (st:List Nd) (g:Nat) (t:List Nat) (n:Nat):Prop:=∃ j,j≤n∧∃ k m,Acc st (t.take n) g k m 0 j
def Trk (st:List Nd) (g:Nat) (t:List Nat) (i:Nat) (P:Nat→Prop):Prop :=
  ∀ u:List Nat,(∀ p,p < i→u[p]?=t[p]?)→∀ k,i≤k→(CanP st u g k i P↔∃ j,j≤i∧∃ m,Acc st u g k m 0 j)
def Old (st:List Nd) (g:Nat) (t:List Nat) (i:Nat):Prop:=∀ j k m,k < i→¬ Acc st t g k m 0 j
theorem trk_0 {st:List Nd} {g:Nat} {t:List Nat} {P:Nat→Prop} (h:∀ q,P q↔q=0):Trk st g t 0 P:=fun u _ k _ =>
  ⟨fun ⟨q,hq,m,ha⟩=>⟨0,by omega,m,by rw [(h q).1 hq] at ha; exact ha⟩,fun ⟨j,hj,m,ha⟩=>⟨0,(h 0).2 rfl,m,by rw [show j=0 by omega] at ha; exact ha⟩⟩
theorem trk_congr {st:List Nd} {g:Nat} {t:List Nat} {i:Nat} {P P':Nat→Prop} (h:Trk st g t i P) (e:∀ q,P' q↔P q):Trk st g t i P':=by
  have:P'=P:=funext fun q=>propext (e q)
  rw [this]; exact h
theorem bol_agree {t u:List Nat} {i:Nat} (h:∀ p,p < i→u[p]?=t[p]?):bolAt u i↔bolAt t i:=by
  unfold bolAt
  by_cases h0:i=0
  · simp [h0]
  · rw [h _ (by omega)]
theorem trk_cl {st:List Nd} {g:Nat} {t:List Nat} {i:Nat} {bol:Bool} {P:Nat→Prop} (h:Trk st g t i P) (hb:bol=true↔bolAt t i):Trk st g t i (Cl st bol false P):=fun u hu k hk=>by
  rw [canP_cl (fun hh=>(bol_agree hu).2 (hb.1 hh)) (fun hh=>absurd hh (by decide))]
  exact h u hu k hk
theorem trk_step {st:List Nd} {g:Nat} {t:List Nat} {i c:Nat} {bol eol:Bool} {P P':Nat→Prop} (h:Trk st g t i P) (hb:bol=true↔bolAt t i) (hc:t[i]?=some c) (he:eol=true↔c=10)
    (hP':∀ q,P' q↔Rd st c (Cl st bol eol P) q∨q=0):Trk st g t (i+1) P':=fun u hu k hk=>by
  have hui:u[i]?=some c:=by rw [hu i (by omega),hc]
  have hu':∀ p,p < i→u[p]?=t[p]?:=fun p hp=>hu p (by omega)
  have heol:eol=true↔eolAt u i:=by unfold eolAt; rw [hui,he]; simp
  have hbol:bol=true↔bolAt u i:=hb.trans (bol_agree hu').symm
  have h1:=h u hu' k (by omega)
  rw [← canP_cl (bol:=bol) (eol:=eol) hbol.1 heol.1,canP_read (fun j hj s hs=>hj.closed hs) hbol.2 heol.2] at h1
  constructor
  · rintro ⟨q,hq,m,ha⟩
    rcases (hP' q).1 hq with hr | rfl
    · obtain ⟨j,hj,h2⟩:=h1.1 (.inr ⟨c,hui,q,hr,m,ha⟩)
      exact ⟨j,by omega,h2⟩
    · exact ⟨i+1,by omega,m,ha⟩
  · rintro ⟨j,hj,m,ha⟩
    by_cases hji:j=i+1
    · subst hji; exact ⟨0,(hP' 0).2 (.inr rfl),m,ha⟩
    · rcases h1.2 ⟨j,by omega,m,ha⟩ with ⟨_,rfl⟩ | ⟨c',hc',q,hq,h2⟩
      · omega
      · rw [hui] at hc'; cases hc'
        exact ⟨q,(hP' q).2 (.inl hq),h2⟩
theorem take_get {t:List Nat} {n p:Nat}:(t.take n)[p]?=if p < n then t[p]? else none:=List.getElem?_take
theorem old_0 {st:List Nd} {g:Nat} {t:List Nat}:Old st g t 0:=fun j k m hk=>by omega
theorem hit_here {st:List Nd} {g:Nat} {t:List Nat} {i:Nat} {bol:Bool} {P:Nat→Prop} (h:Trk st g t i P) (hb:bol=true↔bolAt t i) (hg:Cl st bol false P g):Mt st g t i:=by
  have hu:∀ p,p < i→(t.take i)[p]?=t[p]?:=fun p hp=>by rw [take_get,if_pos hp]
  obtain ⟨j,hj,m,ha⟩:=((trk_cl h hb) (t.take i) hu i (Nat.le_refl _)).1 ⟨g,hg,0,.here⟩
  exact ⟨j,hj,i,m,ha⟩
theorem hit_eol {st:List Nd} {g:Nat} {t:List Nat} {i:Nat} {bol eol:Bool} {P:Nat→Prop} (h:Trk st g t i P) (hb:bol=true↔bolAt t i) (hc:t[i]?=some 10) (hg:Cl st bol eol P g):Mt st g t (i+1):=by
  have hu:∀ p,p < i→(t.take (i+1))[p]?=t[p]?:=fun p hp=>by rw [take_get,if_pos (by omega)]
  have he:eolAt (t.take (i+1)) i:=by unfold eolAt; rw [take_get,if_pos (by omega),hc]
  have h1:CanP st (t.take (i+1)) g i i P:=(canP_cl (bol:=bol) (eol:=eol) (fun hh=>(bol_agree hu).2 (hb.1 hh)) (fun _=>he)).1 ⟨g,hg,0,.here⟩
  obtain ⟨j,hj,m,ha⟩:=(h _ hu i (Nat.le_refl _)).1 h1
  exact ⟨j,by omega,i,m,ha⟩
theorem miss_at {st:List Nd} {g:Nat} {t u:List Nat} {i:Nat} {bol eol:Bool} {P:Nat→Prop} (h:Trk st g t i P) (hb:bol=true↔bolAt t i) (hu:∀ p,p < i→u[p]?=t[p]?) (he:eolAt u i→eol=true)
    (he2:eol=true→eolAt u i) (hg:¬ Cl st bol eol P g):∀ j m,¬ Acc st u g i m 0 j:=fun j m ha=>by
  have hji:=acc_le ha
  have hbol:bol=true↔bolAt u i:=hb.trans (bol_agree hu).symm
  have h1:=(h u hu i (Nat.le_refl _)).2 ⟨j,hji,m,ha⟩
  rw [← canP_cl (bol:=bol) (eol:=eol) hbol.1 he2,canP_read (fun j hj s hs=>hj.closed hs) hbol.2 he] at h1
  rcases h1 with ⟨h2,_⟩ | ⟨c,_,q,_,m2,ha2⟩
  · exact hg h2
  · have:=acc_le ha2; omega
theorem miss_here {st:List Nd} {g:Nat} {t:List Nat} {i:Nat} {bol:Bool} {P:Nat→Prop} (ho:Old st g t i) (h:Trk st g t i P) (hb:bol=true↔bolAt t i) (hg:¬ Cl st bol false P g):¬ Mt st g t i:=by
  rintro ⟨j,hj,k,m,ha⟩
  have hu:∀ p,p < i→(t.take i)[p]?=t[p]?:=fun p hp=>by rw [take_get,if_pos hp]
  have hne:¬ eolAt (t.take i) i:=fun h=>by unfold eolAt at h; rw [take_get,if_neg (by omega)] at h; cases h
  by_cases hk:k < i
  · exact ho j k m hk (acc_agree ha fun p hp=>by rw [take_get,if_pos (by omega)])
  · have hki:k≤i∨i < k:=by omega
    rcases hki with hki | hki
    · obtain rfl:k=i:=by omega
      exact miss_at h hb hu (fun h=>absurd h hne) (fun h=>absurd h (by decide)) hg j m ha
    · have h1:=(h _ hu k (by omega)).2 ⟨j,hj,m,ha⟩
      have hbol:bol=true↔bolAt (t.take i) i:=hb.trans (bol_agree hu).symm
      rw [← canP_cl (bol:=bol) (eol:=false) hbol.1 (fun h=>absurd h (by decide)),canP_read (fun j hj s hs=>hj.closed hs) hbol.2 (fun h=>absurd h hne)] at h1
      rcases h1 with ⟨_,rfl⟩ | ⟨c,hc,_⟩
      · omega
      · rw [take_get,if_neg (by omega)] at hc; cases hc
theorem old_step {st:List Nd} {g:Nat} {t:List Nat} {i c:Nat} {bol eol:Bool} {P:Nat→Prop} (ho:Old st g t i) (h:Trk st g t i P) (hb:bol=true↔bolAt t i) (hc:t[i]?=some c) (he:eol=true↔c=10) (hg:¬ Cl st bol eol P g):Old st g t (i+1):=fun j k m hk ha=>by
  by_cases hki:k < i
  · exact ho j k m hki ha
  · obtain rfl:k=i:=by omega
    have heol:eol=true↔eolAt t k:=by unfold eolAt; rw [hc,he]; simp
    exact miss_at h hb (fun p _=>rfl) heol.2 heol.1 hg j m ha
end Go.Proofs.Ytaffcoiomggpfaa
/- Plain laws of lang: LangStays,LangLines. -/
namespace Go.Proofs.Ytaffcoiomggpfaa
open Go.V
set_option linter.constructorNameAsVariable false
set_option linter.unusedVariables false
theorem firstOf_feed {l:List Nd} {bs:List UInt8} (hv:validOf l=true):firstOf l bs=(feed (buildOf l) false (bs.map UInt8.toNat) (startM (buildOf l) true)).found:=by
  obtain ⟨b1,b2,b3,b4⟩:=build_facts hv
  unfold firstOf
  rw [if_pos hv]
  unfold feed
  rw [matched_again b1 (feedL_ok b1 (by omega) false _ _ (start_ok b1 (by omega) true))]
end Go.Proofs.Ytaffcoiomggpfaa
/- Only state 1 of an automaton is its match. -/
namespace Go.Proofs.Ytaffcoiomggpfaa
open Go.V
attribute [local irreducible] app
set_option linter.unusedVariables false
theorem setL_kinds {n:Nat} {v:Int} {st:List Nd} (h:∀ x ∈ st,x.k ≠ 5):∀ x ∈ setL st n v,x.k ≠ 5:=by
  intro x hx
  obtain ⟨i,hi⟩:=List.mem_iff_getElem?.1 hx
  unfold setL at hi
  rw [List.getElem?_modify] at hi
  cases hs:st[i]? with
  | none=>rw [hs] at hi; simp at hi
  | some y =>
    rw [hs] at hi
    have hy:=h y (List.mem_iff_getElem?.2 ⟨i,hs⟩)
    simp at hi
    subst hi
    split <;> exact hy
theorem bd_app5 (l:List Nd):∀ (f n out:Nat) (st:List Nd),∃ new,(bd l f n out st).2=st++new∧∀ x ∈ new,x.k ≠ 5
  | 0,n,out,st=>⟨[],by simp [bd],by simp⟩
  | f+1,n,out,st=>by
    unfold bd
    dsimp only
    split
    · exact ⟨_,rfl,by simp⟩
    split
    · exact ⟨_,rfl,by simp⟩
    split
    · exact ⟨_,rfl,by simp⟩
    split
    · obtain ⟨a,ha,ka⟩:=bd_app5 l f (l.getD n default).r.toNat out st
      obtain ⟨b,hb,kb⟩:=bd_app5 l f (l.getD n default).l.toNat (bd l f (l.getD n default).r.toNat out st).1 (bd l f (l.getD n default).r.toNat out st).2
      exact ⟨a++b,by rw [hb,ha,List.append_assoc],fun x hx=>(List.mem_append.1 hx).elim (ka x) (kb x)⟩
    split
    · obtain ⟨a,ha,ka⟩:=bd_app5 l f (l.getD n default).l.toNat out st
      obtain ⟨b,hb,kb⟩:=bd_app5 l f (l.getD n default).r.toNat out (bd l f (l.getD n default).l.toNat out st).2
      refine ⟨a++(b++[⟨2,(bd l f (l.getD n default).l.toNat out st).1,(bd l f (l.getD n default).r.toNat out (bd l f (l.getD n default).l.toNat out st).2).1,0,0,0,0⟩]),?_,fun x hx=>?_⟩
      · show _++[_]=_
        rw [hb,ha,List.append_assoc,List.append_assoc]
      · rcases List.mem_append.1 hx with hx | hx
        · exact ka x hx
        · rcases List.mem_append.1 hx with hx | hx
          · exact kb x hx
          · obtain rfl:=List.mem_singleton.1 hx; simp
    split
    · obtain ⟨a,ha,ka⟩:=bd_app5 l f (l.getD n default).l.toNat out st
      refine ⟨a++[_],by rw [ha,List.append_assoc],fun x hx=>?_⟩
      rcases List.mem_append.1 hx with hx | hx
      · exact ka x hx
      · obtain rfl:=List.mem_singleton.1 hx; simp
    split
    · obtain ⟨a,ha,ka⟩:=bd_app5 l f (l.getD n default).l.toNat st.length (st++[⟨2,0,out,0,0,0,0⟩])
      refine ⟨setL ([⟨2,0,out,0,0,0,0⟩]++a) 0 ((bd l f (l.getD n default).l.toNat st.length (st++[⟨2,0,out,0,0,0,0⟩])).1:Nat),?_,setL_kinds fun x hx=>?_⟩
      · rw [ha,List.append_assoc]
        exact setL_end st _ _
      · rcases List.mem_append.1 hx with hx | hx
        · obtain rfl:=List.mem_singleton.1 hx; simp
        · exact ka x hx
    · exact ⟨[],by simp,by simp⟩
theorem build_five (l:List Nd):∀ j,j < (buildOf l).length→(((buildOf l).getD j default).k=5↔j=1):=by
  obtain ⟨new,hnew,hk⟩:=bd_app5 l l.length (l.length - 1) 1 [⟨2,0,0,0,0,0,0⟩,⟨5,0,0,0,0,0,0⟩]
  intro j hj
  unfold buildOf at hj ⊢
  rw [setLR_length] at hj
  rw [setLR_get]
  generalize bd l l.length (l.length - 1) 1 [⟨2,0,0,0,0,0,0⟩,⟨5,0,0,0,0,0,0⟩]=X at hnew hj
  obtain ⟨first,T⟩:=X
  dsimp only at hnew hj ⊢
  subst hnew
  match j,hj with
  | 0,hj=>rw [if_pos ⟨rfl,hj⟩]; simp
  | 1,hj=>rw [if_neg (by omega)]; simp
  | j+2,hj =>
    rw [if_neg (by omega)]
    have:(([⟨2,0,0,0,0,0,0⟩,⟨5,0,0,0,0,0,0⟩]:List Nd)++new).getD (j+2) default=new.getD j default:=by simp [List.getD_eq_getElem?_getD]
    rw [this]
    have hjn:j < new.length:=by simp at hj; omega
    have hx:new.getD j default=new[j]:=by rw [List.getD_eq_getElem?_getD,List.getElem?_eq_getElem hjn]; rfl
    rw [hx]
    constructor
    · intro h; exact absurd h (hk _ (List.getElem_mem hjn))
    · intro h; omega
end Go.Proofs.Ytaffcoiomggpfaa
/- firstOf: the least number of bytes that match. -/
namespace Go.Proofs.Ytaffcoiomggpfaa
open Go.V
attribute [local irreducible] app
set_option linter.unusedVariables false
theorem feed_cons (st:List Nd) (anch:Bool) (c:Nat) (r:List Nat) (M:Ma):feed st anch (c :: r) M=if 0≤(M.matched st).found then M.matched st
    else if c=10∧(spread st (M.matched st).bol true (M.matched st).now).2=true then { M.matched st with now:=(spread st (M.matched st).bol true (M.matched st).now).1,found:=(M.matched st).at_+1 }
    else feed st anch r (stepM st anch M c):=by
  unfold feed
  rw [feedL_cons]
  split
  · rw [matched_stop ‹_›]
  · split
    · rw [matched_stop (by dsimp only; omega)]
    · rfl
theorem cl_spread {st:List Nd} (hr:InR st) (bol eol:Bool) {l:List Nat} (ho:OkL st.length l) (q:Nat):q ∈ (spread st bol eol l).1↔Cl st bol eol (· ∈ l) q:=spread_mem hr bol eol ho q
theorem rd_readL {st:List Nd} {c:Nat} (l:List Nat) (q:Nat):q ∈ readL st c l↔Rd st c (· ∈ l) q:=mem_readL l
theorem Rd.congr {st:List Nd} {c:Nat} {P P':Nat→Prop} (h:∀ q,P q↔P' q) (q:Nat):Rd st c P q↔Rd st c P' q:=by
  rw [show P=P' from funext fun q=>propext (h q)]
theorem Cl.congr {st:List Nd} {bol eol:Bool} {P P':Nat→Prop} (h:∀ q,P q↔P' q) (q:Nat):Cl st bol eol P q↔Cl st bol eol P' q:=by
  rw [show P=P' from funext fun q=>propext (h q)]
def Least (M:Nat→Prop) (i n:Nat) (F F0:Int):Prop:=(F=F0∧∀ k,i≤k→k≤n→¬ M k)∨∃ k:Nat,i≤k∧k≤n∧F=(k:Nat)∧M k∧∀ k',i≤k'→k' < k→¬ M k'
theorem feed_spec {st:List Nd} {t:List Nat} (hr:InR st) (hpos:0 < st.length) (h5:∀ j,j < st.length→((st.getD j default).k=5↔j=1)):∀ (r:List Nat) (i:Nat) (M:Ma),OkL st.length M.now→M.found < 0→M.at_=i →
    (M.bol=true↔bolAt t i)→t.drop i=r→i≤t.length→Trk st 1 t i (· ∈ M.now)→Old st 1 t i→Least (Mt st 1 t) i t.length (feed st false r M).found M.found:=by
  intro r
  induction r with
  | nil =>
    intro i M ho hf ha hb ht hi hT hO
    have hlen:i=t.length:=by
      have:=congrArg List.length ht; simp at this; omega
    have hm:(M.matched st).found=if (spread st M.bol false M.now).2=true then (M.at_:Int) else M.found:=by unfold Ma.matched; rw [if_pos hf]
    show Least _ i t.length (M.matched st).found M.found
    rw [hm]
    have h1:=spread_one hr h5 M.bol false ho
    by_cases hs:(spread st M.bol false M.now).2=true
    · rw [if_pos hs]
      refine .inr ⟨i,by omega,by omega,by rw [ha],?_,fun k' h1 h2=>by omega⟩
      exact hit_here hT hb ((cl_spread hr _ _ ho 1).1 (h1.1 hs))
    · rw [if_neg hs]
      refine .inl ⟨rfl,fun k h2 h3=>?_⟩
      obtain rfl:k=i:=by omega
      exact miss_here hO hT hb (fun h=>hs (h1.2 ((cl_spread hr _ _ ho 1).2 h)))
  | cons c r ih =>
    intro i M ho hf ha hb ht hi hT hO
    have hc:t[i]?=some c:=by
      have:=congrArg (·[0]?) ht
      simpa using this
    have hlt:i < t.length:=by
      rcases Nat.lt_or_ge i t.length with h | h
      · exact h
      · rw [List.getElem?_eq_none h] at hc; cases hc
    have hdr:t.drop (i+1)=r:=by
      have:=congrArg List.tail ht
      simpa using this
    have h1:=spread_one hr h5 M.bol false ho
    have hm:(M.matched st).found=if (spread st M.bol false M.now).2=true then (M.at_:Int) else M.found:=by unfold Ma.matched; rw [if_pos hf]
    have hmn:(M.matched st).now=(spread st M.bol false M.now).1:=by unfold Ma.matched; rw [if_pos hf]
    have hmb:=(M.matched_at st).2
    have hma:=(M.matched_at st).1
    have hok:=matched_ok hr ho
    rw [feed_cons]
    by_cases hs:(spread st M.bol false M.now).2=true
    · rw [if_pos hs] at hm
      rw [if_pos (by omega),hm]
      refine .inr ⟨i,by omega,by omega,by rw [ha],?_,fun k' h1 h2=>by omega⟩
      exact hit_here hT hb ((cl_spread hr _ _ ho 1).1 (h1.1 hs))
    rw [if_neg hs] at hm
    rw [if_neg (by omega)]
    have hmiss:¬ Mt st 1 t i:=miss_here hO hT hb (fun h=>hs (h1.2 ((cl_spread hr _ _ ho 1).2 h)))
    have hc2:∀ (e:Bool) q,q ∈ (spread st (M.matched st).bol e (M.matched st).now).1↔Cl st M.bol e (· ∈ M.now) q:=fun e q=>by
      rw [cl_spread hr _ _ hok,hmb,hmn,Cl.congr (cl_spread hr M.bol false ho),Cl.twice (fun h=>absurd h (by decide))]
    by_cases h10:c=10∧(spread st (M.matched st).bol true (M.matched st).now).2=true
    · rw [if_pos h10]
      refine .inr ⟨i+1,by omega,by omega,?_,?_,fun k' h1 h2=>?_⟩
      · show ((M.matched st).at_:Int)+1=_
        rw [hma,ha]; omega
      · exact hit_eol (eol:=true) hT hb (by rw [hc,h10.1]) ((hc2 true 1).1 ((spread_one hr h5 _ true hok).1 h10.2))
      · obtain rfl:k'=i:=by omega
        exact hmiss
    rw [if_neg h10]
    obtain ⟨s1,s2,s3⟩:=stepM_facts hr hpos false c ho
    have hcl:∀ q,q ∈ (if c=10 then { M.matched st with now:=(spread st (M.matched st).bol true (M.matched st).now).1 } else M.matched st:Ma).now↔Cl st M.bol (decide (c=10)) (· ∈ M.now) q:=fun q=>by
      by_cases e:c=10
      · rw [if_pos e,decide_eq_true e]; exact hc2 true q
      · rw [if_neg e,decide_eq_false e,hmn]; exact cl_spread hr _ _ ho q
    have hclo:OkL st.length (if c=10 then { M.matched st with now:=(spread st (M.matched st).bol true (M.matched st).now).1 } else M.matched st:Ma).now:=by
      split
      · exact spread_ok hr _ _ hok
      · exact hok
    have hng:¬ Cl st M.bol (decide (c=10)) (· ∈ M.now) 1:=fun h=>by
      by_cases e:c=10
      · rw [decide_eq_true e] at h
        exact h10 ⟨e,(spread_one hr h5 _ true hok).2 ((hc2 true 1).2 h)⟩
      · rw [decide_eq_false e] at h
        exact hs (h1.2 ((cl_spread hr _ _ ho 1).2 h))
    have hbol:(stepM st false M c).bol=true↔bolAt t (i+1):=by
      show decide (c=10)=true↔_
      unfold bolAt
      rw [decide_eq_true_iff,show i+1 - 1=i from rfl,hc]
      constructor
      · intro h; exact .inr (by rw [h])
      · rintro (h | h)
        · omega
        · exact Option.some.inj h
    have hT':Trk st 1 t (i+1) (· ∈ (stepM st false M c).now):=by
      have hrd:=readL_ok hr c _ hclo.2 [] (OkL.nil _)
      change OkL st.length (readL st c _) at hrd
      have hadd:=hrd.add hpos
      have t1:Trk st 1 t (i+1) (· ∈ addL (readL st c (if c=10 then { M.matched st with now:=(spread st (M.matched st).bol true (M.matched st).now).1 } else M.matched st:Ma).now) 0) :=
        trk_step (bol:=M.bol) (eol:=decide (c=10)) hT hb hc (by simp) fun q=>by
          rw [mem_addL,rd_readL,Rd.congr hcl]
      refine trk_congr (trk_cl t1 hbol) fun q=>?_
      show q ∈ (spread st (decide (c=10)) false (addL (readL st c _) 0)).1↔_
      exact cl_spread hr _ _ hadd q
    have hO':Old st 1 t (i+1):=old_step hO hT hb hc (by simp) hng
    have:=ih (i+1) (stepM st false M c) s1 (by rw [s3,hm]; exact hf) (by rw [s2,ha]) hbol hdr (by omega) hT' hO'
    rw [s3,hm] at this
    rcases this with ⟨e,hn⟩ | ⟨k,k1,k2,k3,k4,k5⟩
    · refine .inl ⟨e,fun k h1 h2=>?_⟩
      by_cases hk:k=i
      · subst hk; exact hmiss
      · exact hn k (by omega) h2
    · refine .inr ⟨k,by omega,k2,k3,k4,fun k' h1 h2=>?_⟩
      by_cases hk:k'=i
      · subst hk; exact hmiss
      · exact k5 k' (by omega) h2
def Mn (l:List Nd) (t:List Nat) (n:Nat):Prop:=∃ j,j≤n∧∃ k,mean (t.take n) l l.length (l.length - 1) j k
theorem mt_mn (l:List Nd) (t:List Nat) (n:Nat):Mt (buildOf l) 1 t n↔Mn l t n:=by
  unfold Mt Mn
  constructor
  · rintro ⟨j,hj,k,m,ha⟩
    exact ⟨j,hj,k,(acc_build l j k).1 ⟨m,ha⟩⟩
  · rintro ⟨j,hj,k,hm⟩
    obtain ⟨m,ha⟩:=(acc_build l j k).2 hm
    exact ⟨j,hj,k,m,ha⟩
theorem feed_start {st:List Nd} {t:List Nat} (hr:InR st) (hpos:0 < st.length) (h5:∀ j,j < st.length→((st.getD j default).k=5↔j=1)) :
    Least (Mt st 1 t) 0 t.length (feed st false t (startM st true)).found (-1):=by
  have h0:OkL st.length [0]:=⟨by simp,fun j hj=>by obtain rfl:=List.mem_singleton.1 hj; exact hpos⟩
  have hb:((startM st true).bol=true↔bolAt t 0):=⟨fun _=>.inl rfl,fun _=>rfl⟩
  refine feed_spec hr hpos h5 t 0 (startM st true) (start_ok hr hpos true) (by show (-1:Int) < 0; omega) rfl hb (by simp) (by omega) ?_ old_0
  refine trk_congr (trk_cl (trk_0 (P:=(· ∈ [0])) fun q=>List.mem_singleton) hb) fun q=>?_
  exact cl_spread hr _ _ h0 q
theorem firstOf_spec {l:List Nd} (bs:List UInt8) (hv:validOf l=true):Least (Mn l (bs.map UInt8.toNat)) 0 bs.length (firstOf l bs) (-1):=by
  obtain ⟨hr,hlen,_,_⟩:=build_facts hv
  have:=feed_start (t:=bs.map UInt8.toNat) hr (by omega) (build_five l)
  rw [firstOf_feed hv,show Mn l (bs.map UInt8.toNat)=Mt (buildOf l) 1 (bs.map UInt8.toNat) from funext fun n=>propext (mt_mn l _ n).symm]
  rw [List.length_map] at this
  exact this
theorem Least.unique {M:Nat→Prop} {i n:Nat} {F F' F0:Int} (h:Least M i n F F0) (h':Least M i n F' F0):F=F':=by
  rcases h with ⟨e,hn⟩ | ⟨k,k1,k2,k3,k4,k5⟩ <;> rcases h' with ⟨e',hn'⟩ | ⟨k',k1',k2',k3',k4',k5'⟩
  · rw [e,e']
  · exact absurd k4' (hn k' k1' k2')
  · exact absurd k4 (hn' k k1 k2)
  · rw [k3,k3']
    rcases Nat.lt_trichotomy k k' with h | h | h
    · exact absurd k4 (k5' k k1 h)
    · rw [h]
    · exact absurd k4' (k5 k' k1' h)
end Go.Proofs.Ytaffcoiomggpfaa
/- Relations between places: package r09 (4): root,First. -/
namespace Go.Proofs.Ytaffcoiomggpfaa
open Go.V
attribute [local irreducible] app
set_option linter.constructorNameAsVariable false
set_option linter.unusedVariables false
theorem sl134:SlT Pr 134 1:=.of (by kernel_rfl)
def AllR (H0 HB H:Heap) (p:OA) (m c N:Nat) (ps:Nat→OA) (cs:Nat→Nat) (M:Nat→Nat→Nat→Prop):Prop :=
  Ext H0 HB∧Ext HB H∧Vec H 1 p m c ((List.range m).map fun i=>Value.slice (ps i) N (cs i))∧(∀ j,blk p j→HB j=none)∧∀ i,i < m→RelH HB (ps i) N (cs i) (M i)
theorem AllR.get {H0 HB H:Heap} {p:OA} {m c N i:Nat} {ps:Nat→OA} {cs:Nat→Nat} {M:Nat→Nat→Nat→Prop} {K:OA→Nat→Nat→Prop} (h:AllR H0 HB H p m c N ps cs M) {H':Heap} (he:Ext H H') (hi:i < m)
    (hK:K (ps i) N (cs i)):(0≤(i:Int)∧(i:Int) < ((m:Nat):Int))∧ptr p fun q=>ldSl (Addr.add q ((i:Int).toNat * 1)) H' K:=by
  refine ⟨⟨by omega,by omega⟩,?_⟩
  obtain ⟨b,t,cc,rfl,q,g⟩:=vec_at1 (h.2.2.1.ext he) (n:=i) (v:=.slice (ps i) N (cs i)) (by simp [hi])
  simp only [ptr_some,add_at,Int.toNat_natCast,Nat.mul_one,Nat.zero_add]
  exact ldSl_at q g hK
theorem AllR.rel {H0 HB H:Heap} {p:OA} {m c N i:Nat} {ps:Nat→OA} {cs:Nat→Nat} {M:Nat→Nat→Nat→Prop} (h:AllR H0 HB H p m c N ps cs M) {H':Heap} (he:Ext H H') (hi:i < m):RelH H' (ps i) N (cs i) (M i) :=
  (h.2.2.2.2 i hi).ext (h.2.1.trans he)
theorem AllR.push {H0 HB H H3 H4:Heap} {p p':OA} {m c N c':Nat} {ps:Nat→OA} {cs:Nat→Nat} {M:Nat→Nat→Nat→Prop} {ad:Nat→Nat} {R:Nat→Nat→Prop} {K:OA→Nat→Nat→Heap→Prop}
    (h:AllR H0 HB H p m c N ps cs M) (he:Ext H H3) (hr:RelA H3 H4 p' N N c' ad R) (hm:m < 65536) (hR:∀ i k,i < N→k < N→(R i k↔M m i k))
    (hk:∀ p2 c2 HB' H' ps' cs',AllR H0 HB' H' p2 (m+1) c2 N ps' cs' M→K p2 (m+1) c2 H') :
    nw (.cells #[.slice p' N c'] 79 (0,0)) H4 fun i H5=>app Pr 134 p m c (.slice (some ⟨i,0,none⟩) 1 1) H5 K:=by
  obtain ⟨h1,h2,h3,h4,h5⟩:=h
  obtain ⟨r1,r2,r3,r4,r5⟩:=id hr
  have hx:Ext H H4:=he.trans r1
  have base1:Ext HB (beside HB H3 H4):=fun q o hq=>by
    rw [beside_some (by rw [hq]; simp)]
    exact hx q o (h2 q o hq)
  have base2:Ext (beside HB H3 H4) H4:=beside_ext _ _ _
  have hnew:RelH (beside HB H3 H4) p' N c' R :=
    ⟨ad,r2.keep fun j hj _=>beside_free (r5 j hj),fun i hi=>by rw [beside_free (r3 i hi).2.1]; exact (r3 i hi).1⟩
  refine nw_ext fun q H5 hq he5 hc5=>?_
  refine app_one (sz:=1) (ws:=[.slice p' N c']) sl134 ((h3.ext hx).ext he5) hc5 rfl rfl (by omega) (by omega) fun p2 c2 H6 hv6 hs6 hb6=>?_
  have hfb:∀ j,blk p j→(beside HB H3 H4) j=none:=fun j hj=>beside_priv (h4 j hj) (fun e=>(h3.ext he).known hj e)
  refine hk p2 c2 (beside HB H3 H4) H6 (fun i=>if i=m then p' else ps i) (fun i=>if i=m then c' else cs i) ⟨h1.trans base1,ext_app (base2.trans he5) hfb hs6,?_,fresh_app (base2.trans he5) hfb hb6,fun i hi=>?_⟩
  · have:((List.range (m+1)).map fun i=>Value.slice (if i=m then p' else ps i) N (if i=m then c' else cs i))=((List.range m).map fun i=>Value.slice (ps i) N (cs i))++[.slice p' N c']:=by
      rw [List.range_succ,List.map_append]
      congr 1
      · refine List.map_congr_left fun j hj=>?_
        rw [List.mem_range] at hj
        simp only [if_neg (show ¬ j=m by omega)]
      · simp
    rw [this]; exact hv6
  · dsimp only
    by_cases e:i=m
    · subst e; simp only [if_true]; exact hnew.congr hR
    · simp only [if_neg e]; exact (h5 i (by omega)).ext base1
end Go.Proofs.Ytaffcoiomggpfaa
/- endsOf: the places to which the pattern leads. -/
namespace Go.Proofs.Ytaffcoiomggpfaa
open Go.V
attribute [local irreducible] app
set_option linter.unusedVariables false
end Go.Proofs.Ytaffcoiomggpfaa
/- Contracts of package jobmuxref08 (2): the parser's small functions,classes,lists of nodes. -/
namespace Go.Proofs.Ytaffcoiomggpfaa
open Go.V
attribute [local irreducible] app
set_option linter.constructorNameAsVariable false
set_option linter.unusedVariables false
structure PS where
  s:ByteArray
  at_:Nat
  deep:Nat
  e:Int
namespace PS
def cells (q:PS):Array Value:=#[.string q.s,.int .i64 q.at_,.int .i64 q.deep,.int .i64 q.e]
def fail (q:PS) (e:Int):PS:=if q.e=0 then { q with e:=e } else q
def inc (q:PS):PS:={ q with at_:=q.at_+1 }
def more (q:PS):Bool:=decide (q.e=0) && decide (q.at_ < q.s.size)
def byte (q:PS):Nat:=byteAt q.s q.at_
def escape8 (q:PS):S4 × Bool × PS :=
  if q.s.size≤q.at_ then (S4.zero,false,q.fail 82)
  else match named8 q.byte with
    | (s,x,y)=>(s,x,(if y=true then q else q.fail 82).inc)
def single8 (q:PS):S4 × Bool × PS :=
  if q.byte=92 then q.inc.escape8 else if q.byte=94∨q.byte=45∨q.byte=93 then (S4.zero,false,q.inc.fail 80) else (S4.zero.with1 q.byte,true,q.inc)
def element8 (q:PS):S4 × PS :=
  match q.single8 with
  | (a,one,q1) =>
    if q1.more=true∧q1.byte=45 then
      if one=false∨q1.s.size≤q1.at_+1 then (a,q1.inc.fail 80)
      else match q1.inc.single8 with
        | (b,two,q3)=>(S4.zero.with_ (only8 a) (only8 b),if q3.e=0∧(two=false∨only8 b < only8 a) then q3.fail 80 else q3)
    else (a,q1)
def classLoop8:Nat→Bool→Nat→S4→PS→S4 × PS
  | 0,_,_,s,q=>(s,q)
  | f+1,neg,n,s,q =>
    if q.more=true then
      if q.byte=93 then (if neg=true then s.not else s,(if n=0 then q.fail 80 else q).inc)
      else match q.element8 with
        | (x,q1)=>classLoop8 f neg (n+1) (s.or x) q1
    else (s,q.fail 80)
def class8 (q:PS):S4 × PS :=
  let neg:=q.more && decide (q.byte=94)
  classLoop8 (q.s.size+28) neg 0 S4.zero (if neg=true then q.inc else q)
structure Mo (q q':PS):Prop where
  s:q'.s=q.s
  at_:q.at_≤q'.at_
  deep:q.deep≤q'.deep
theorem Mo.refl (q:PS):Mo q q:=⟨rfl,Nat.le_refl _,Nat.le_refl _⟩
theorem Mo.trans {a b c:PS} (h:Mo a b) (g:Mo b c):Mo a c:=⟨g.s.trans h.s,Nat.le_trans h.at_ g.at_,Nat.le_trans h.deep g.deep⟩
theorem Mo.fail (q:PS) (e:Int):Mo q (q.fail e):=by unfold PS.fail; split <;> exact ⟨rfl,Nat.le_refl _,Nat.le_refl _⟩
theorem Mo.inc (q:PS):Mo q q.inc:=⟨rfl,Nat.le_succ _,Nat.le_refl _⟩
theorem fail_at (q:PS) (e:Int):(q.fail e).at_=q.at_∧(q.fail e).s=q.s∧(q.fail e).deep=q.deep:=by unfold PS.fail; split <;> exact ⟨rfl,rfl,rfl⟩
theorem fail_e (q:PS) {e:Int} (he:e ≠ 0):(q.fail e).e ≠ 0:=by
  unfold PS.fail
  by_cases h:q.e=0
  · rw [if_pos h]; exact he
  · rw [if_neg h]; exact h
theorem more_iff {q:PS}:q.more=true↔q.e=0∧q.at_ < q.s.size:=by simp [PS.more]
theorem escape8_mo (q:PS):Mo q q.escape8.2.2:=by
  unfold PS.escape8
  split
  · exact Mo.fail _ _
  · split
    rename_i s x y _
    cases y
    · exact (Mo.fail _ _).trans (Mo.inc _)
    · exact Mo.inc _
theorem single8_mo (q:PS):Mo q q.single8.2.2∧q.at_ < q.single8.2.2.at_:=by
  unfold PS.single8
  split
  · have:=escape8_mo q.inc
    exact ⟨(Mo.inc q).trans this,Nat.lt_of_lt_of_le (Nat.lt_succ_self _) this.at_⟩
  · split
    · exact ⟨(Mo.inc q).trans (Mo.fail _ _),by rw [(fail_at q.inc 80).1]; exact Nat.lt_succ_self _⟩
    · exact ⟨Mo.inc q,Nat.lt_succ_self _⟩
theorem element8_mo (q:PS):Mo q q.element8.2∧q.at_ < q.element8.2.at_:=by
  have h:=single8_mo q
  unfold PS.element8
  revert h
  generalize q.single8=R
  obtain ⟨a,one,q1⟩:=R
  intro h
  dsimp only at h ⊢
  split
  · have h1:=h.1.trans (Mo.inc q1)
    have h2:q.at_ < q1.inc.at_:=Nat.lt_trans h.2 (Nat.lt_succ_self _)
    split
    · exact ⟨h1.trans (Mo.fail _ _),Nat.lt_of_lt_of_le h2 (Mo.fail _ _).at_⟩
    · have h3:=(single8_mo q1.inc).1
      revert h3
      generalize q1.inc.single8=R
      obtain ⟨b,two,q3⟩:=R
      intro h3
      dsimp only at h3 ⊢
      split
      · exact ⟨(h1.trans h3).trans (Mo.fail _ _),Nat.lt_of_lt_of_le h2 (h3.trans (Mo.fail _ _)).at_⟩
      · exact ⟨h1.trans h3,Nat.lt_of_lt_of_le h2 h3.at_⟩
  · exact h
theorem classLoop8_mo:∀ (f:Nat) (neg:Bool) (n:Nat) (s:S4) (q:PS),Mo q (classLoop8 f neg n s q).2
  | 0,_,_,_,q=>Mo.refl q
  | f+1,neg,n,s,q=>by
    unfold classLoop8
    split
    · split
      · dsimp only
        split
        · exact (Mo.fail _ _).trans (Mo.inc _)
        · exact Mo.inc _
      · have h:=(element8_mo q).1
        revert h
        generalize q.element8=R
        obtain ⟨x,q1⟩:=R
        intro h
        exact h.trans (classLoop8_mo f neg _ _ _)
    · exact Mo.fail _ _
theorem class8_mo (q:PS):Mo q q.class8.2:=by
  unfold PS.class8
  dsimp only
  split
  · exact (Mo.inc q).trans (classLoop8_mo _ _ _ _ _)
  · exact classLoop8_mo _ _ _ _ _
end PS
def Exb (b:Nat) (H H':Heap):Prop:=∀ j o,j ≠ b→H j=some o→H' j=some o
theorem Exb.refl (b:Nat) (H:Heap):Exb b H H:=fun _ _ _ h=>h
theorem Exb.trans {b:Nat} {A B C:Heap} (h:Exb b A B) (g:Exb b B C):Exb b A C:=fun j o hj x=>g j o hj (h j o hj x)
theorem _root_.Go.V.Ext.exb {H H':Heap} (h:Ext H H') (b:Nat):Exb b H H':=fun j o _ x=>h j o x
theorem Exb.upd {b:Nat} {H H':Heap} (h:Exb b H H') (o:Obj):Exb b H (H'.set b o):=fun j x hj hx=>by rw [Heap.set_ne _ _ hj]; exact h j x hj hx
theorem Exb.set {b i:Nat} {H H':Heap} (h:Exb b H H') (hi:H i=none) (o:Obj):Exb b H (H'.set i o):=fun j x hj hx=>by
  rw [Heap.set_ne _ _ (fun e=>by rw [e,hi] at hx; cases hx)]; exact h j x hj hx
def PSs (H:Heap) (b:Nat) (q:PS):Prop :=
  q.s.size≤4096∧q.at_+q.deep≤q.s.size+26∧(q.e=0→q.at_≤q.s.size∧q.deep≤24)∧H b=some (.cells q.cells 83 (0,0))
section
variable {H:Heap} {b:Nat} {q:PS} {Q:QT} {E:ET}
theorem PSs.ext {H':Heap} (h:PSs H b q) (he:Ext H H'):PSs H' b q:=⟨h.1,h.2.1,h.2.2.1,he _ _ h.2.2.2⟩
theorem PSs.other {i:Nat} {o:Obj} (h:PSs H b q) (hi:b ≠ i):PSs (H.set i o) b q:=⟨h.1,h.2.1,h.2.2.1,by rw [Heap.set_ne _ _ hi]; exact h.2.2.2⟩
theorem PSs.ne {i:Nat} (h:PSs H b q) (hi:H i=none):b ≠ i:=ne_of h.2.2.2 hi
theorem PSs.ldAt {K:Int→Prop} (h:PSs H b q) (hk:K (q.at_:Nat)):ldI .i64 (Addr.add ⟨b,0,none⟩ 1) H K:=by rw [add_at]; exact ldI_at (n:=(q.at_:Nat)) h.2.2.2 rfl hk
theorem PSs.ldDeep {K:Int→Prop} (h:PSs H b q) (hk:K (q.deep:Nat)):ldI .i64 (Addr.add ⟨b,0,none⟩ 2) H K:=by rw [add_at]; exact ldI_at (n:=(q.deep:Nat)) h.2.2.2 rfl hk
theorem PSs.ldE {K:Int→Prop} (h:PSs H b q) (hk:K q.e):ldI .i64 (Addr.add ⟨b,0,none⟩ 3) H K:=by rw [add_at]; exact ldI_at (n:=q.e) h.2.2.2 rfl hk
theorem PSs.ldStr {K:ByteArray→Prop} (h:PSs H b q) (hk:K q.s):ldS ⟨b,0,none⟩ H K:=ldS_at (n:=q.s) h.2.2.2 rfl hk
theorem PSs.incS {K:Heap→Prop} (h:PSs H b q) (h1:q.at_+1+q.deep≤q.s.size+26) (h2:q.e=0→q.at_ < q.s.size)
    (hk:∀ H',PSs H' b q.inc→Exb b H H'→K H'):wr (Addr.add ⟨b,0,none⟩ 1) [.int .i64 (IntKind.wrap .i64 ((q.at_:Nat)+1))] H K:=by
  obtain ⟨a1,a2,a3,a4⟩:=h
  rw [add_at]
  have hw:IntKind.wrap .i64 (((q.at_:Nat):Int)+1)=((q.at_+1:Nat):Int):=by rw [IntWalk.i64_in _ (by omega)]; omega
  rw [hw]
  refine wr_at a4 (by simp [PS.cells]) rfl (hk _ ⟨a1,by simpa [PS.inc] using h1,fun he=>⟨h2 he,(a3 he).2⟩,Heap.set_self _ _ _⟩ ((Exb.refl _ _).upd _))
theorem pfail_c {e:Int} (he:e ≠ 0) (h:PSs H b q) (hk:∀ H',PSs H' b (q.fail e)→Exb b H H'→Q (.tuple #[]) H'):Does Pr 57 #[.pointer (some ⟨b,0,none⟩),.int .i64 e] H Q E:=by
  refine zqe_fn _ _ Q E H ?_
  unfold zqe
  simp only [ptr_some]
  refine h.ldE (sel_beq (fun h0=>?_) (fun h0=>?_))
  · obtain ⟨a1,a2,a3,a4⟩:=h
    have hf:q.fail e={ q with e:=e }:=if_pos h0
    rw [hf] at hk
    rw [add_at]
    exact wr_at a4 (by simp [PS.cells]) rfl (hk _ ⟨a1,a2,fun h=>absurd h he,Heap.set_self _ _ _⟩ ((Exb.refl _ _).upd _))
  · have hf:q.fail e=q:=if_neg h0
    rw [hf] at hk
    exact hk _ h (Exb.refl _ _)
theorem more_c (h:PSs H b q) (hk:Q (.bool q.more) H):Does Pr 90 #[.pointer (some ⟨b,0,none⟩)] H Q E:=by
  refine zqi_fn _ Q E H ?_
  unfold zqi
  simp only [ptr_some]
  refine h.ldE (sel_beq (fun h0=>?_) (fun h0=>?_))
  · refine h.ldAt (h.ldStr ?_)
    have e:q.more=decide (((q.at_:Nat):Int) < (q.s.size:Nat)):=by unfold PS.more; rw [decide_eq_true h0]; simp
    rwa [e] at hk
  · have e:q.more=false:=by unfold PS.more; rw [decide_eq_false h0]; rfl
    rwa [e] at hk
theorem escape8_c (h:PSs H b q) (h0:q.e=0) (hk:∀ H' s x q',q.escape8=(s,x,q')→PSs H' b q'→Exb b H H'→Q (.tuple #[.agg s.cells,.bool x]) H'):Does Pr 109 #[.pointer (some ⟨b,0,none⟩)] H Q E:=by
  refine zqq_fn _ Q E H ?_
  unfold zqq
  refine nw_ext fun i H1 hi he1 hc1=>?_
  have hc1:H1 i=some (cs S4.zero):=hc1
  have hbi:=h.ne hi
  have h1:=h.ext he1
  have hib:i ≠ b:=Ne.symm hbi
  obtain ⟨g1,g2,g3,g4⟩:=id h
  unfold zqq_9
  simp only [ptr_some]
  refine h1.ldAt (h1.ldStr (sel_dec (fun hd=>?_) (fun hd=>?_)))
  · refine pfail_c (by decide) h1 fun H2 h2 hx2=>?_
    refine S4.wr S4.zero (hx2 _ _ hib hc1) ⟨_,_,_,_,S4.rd (s:=S4.zero) (Heap.set_self _ _ _),?_⟩
    exact hk _ S4.zero false (q.fail 82) (by unfold PS.escape8; rw [if_pos (by omega)]) (h2.other hbi) (((he1.exb b).trans hx2).set hi _)
  · have hlt:q.at_ < q.s.size:=by omega
    unfold zqq_6
    simp only [ptr_some]
    refine h1.ldStr (h1.ldAt ⟨⟨by omega,by omega⟩,?_⟩)
    rw [sAt_nat]
    refine named8_c (byteAt_le _ _) fun H2 s x y he2 hn=>⟨_,_,_,_,_,_,rfl,?_⟩
    have h2:=h1.ext he2
    refine nw_ext fun j H3 hj he3 hc3=>?_
    have hc3:H3 j=some (cs S4.zero):=hc3
    have hbj:=h2.ne hj
    have hij:i ≠ j:=ne_of (he2 _ _ hc1) hj
    refine S4.wr s hc3 ?_
    have h4:PSs (H3.set j (cs s)) b q:=(h2.ext he3).other hbj
    have hj4:(H3.set j (cs s)) j=some (cs s):=Heap.set_self _ _ _
    have hi4:(H3.set j (cs s)) i=some (cs S4.zero):=by rw [Heap.set_ne _ _ hij]; exact he3 _ _ (he2 _ _ hc1)
    have hx4:Exb b H (H3.set j (cs s)):=(((he1.trans he2).trans he3).set ((he1.trans he2).free hj) _).exb b
    change zqq_3 _ _ _ _ _ _ _ (H3.set j (cs s))
    revert h4 hj4 hi4 hx4
    generalize H3.set j (cs s)=H4
    intro h4 hj4 hi4 hx4
    have fin:∀ (q1:PS) (H5:Heap),(if y=true then q else q.fail 82)=q1→PSs H5 b q1→Exb b H4 H5→zqq_1 Q E (some ⟨b,0,none⟩) (some ⟨i,0,none⟩) (some ⟨j,0,none⟩) x H5:=by
      intro q1 H5 hq h5 hx5
      have hq1:q1.at_=q.at_∧q1.s=q.s∧q1.deep=q.deep:=by
        rw [← hq]; split
        · exact ⟨rfl,rfl,rfl⟩
        · exact PS.fail_at q 82
      unfold zqq_1
      simp only [ptr_some]
      refine h5.ldAt (h5.incS (by have:=(g3 h0).2; rw [hq1.1,hq1.2.1,hq1.2.2]; omega) (fun _=>by rw [hq1.1,hq1.2.1]; exact hlt) fun H6 h6 hx6=>?_)
      refine ⟨_,_,_,_,S4.rd (hx6 _ _ (Ne.symm hbj) (hx5 _ _ (Ne.symm hbj) hj4)),?_⟩
      refine S4.wr s (hx6 _ _ hib (hx5 _ _ hib hi4)) ⟨_,_,_,_,S4.rd (s:=s) (Heap.set_self _ _ _),?_⟩
      exact hk _ s x q1.inc (by unfold PS.escape8; rw [if_neg (by omega)]; unfold PS.byte; rw [hn]; dsimp only; rw [hq]) (h6.other hbi) (((hx4.trans hx5).trans hx6).set hi _)
    unfold zqq_3
    refine sel_not (fun hy=>?_) (fun hy=>?_)
    · exact pfail_c (by decide) h4 fun H5 h5 hx5=>fin _ H5 (by rw [if_neg (by simp [hy])]) h5 hx5
    · exact fin q H4 (by rw [if_pos hy]) h4 (Exb.refl _ _)
theorem single8_c (h:PSs H b q) (h0:q.e=0) (hlt:q.at_ < q.s.size) (hk:∀ H' s x q',q.single8=(s,x,q')→PSs H' b q'→Exb b H H'→Q (.tuple #[.agg s.cells,.bool x]) H'):Does Pr 124 #[.pointer (some ⟨b,0,none⟩)] H Q E:=by
  refine zql2_fn _ Q E H ?_
  unfold zql2
  refine nw_ext fun i H1 hi he1 hc1=>?_
  have hc1:H1 i=some (cs S4.zero):=hc1
  have hbi:=h.ne hi
  have h1:=h.ext he1
  have hib:i ≠ b:=Ne.symm hbi
  obtain ⟨g1,g2,g3,g4⟩:=id h
  unfold zql2_23
  simp only [ptr_some]
  refine h1.ldStr (h1.ldAt ⟨⟨by omega,by omega⟩,?_⟩)
  rw [sAt_nat]
  unfold zql2_20 zql2_16 zql2_12 zql2_10
  simp only [ptr_some]
  refine h1.ldAt (h1.incS (by have:=(g3 h0).2; omega) (fun _=>hlt) fun H2 h2 hx2=>?_)
  have hbyte:byteAt q.s q.at_=q.byte:=rfl
  have hb255:q.byte≤255:=byteAt_le _ _
  rw [hbyte]
  have hc2:=hx2 _ _ hib hc1
  have hxx:=(he1.exb b).trans hx2
  refine sel_beq (fun hc=>?_) (fun hc=>?_)
  · unfold zql2_3
    refine escape8_c h2 h0 fun H3 s x q3 hq3 h3 hx3=>⟨_,_,_,_,_,rfl,?_⟩
    simp only [ptr_some]
    refine S4.wr s (hx3 _ _ hib hc2) ⟨_,_,_,_,S4.rd (s:=s) (Heap.set_self _ _ _),?_⟩
    exact hk _ s x q3 (by unfold PS.single8; rw [if_pos (by omega),hq3]) (h3.other hbi) ((hxx.trans hx3).set hi _)
  · have bad:(q.byte=94∨q.byte=45∨q.byte=93)→zql2_5 Q E (some ⟨b,0,none⟩) (some ⟨i,0,none⟩) (q.byte:Nat) true H2:=by
      intro hbad
      unfold zql2_5
      refine sel_tt (pfail_c (by decide) h2 fun H3 h3 hx3=>?_)
      simp only [ptr_some]
      refine S4.wr S4.zero (hx3 _ _ hib hc2) ⟨_,_,_,_,S4.rd (s:=S4.zero) (Heap.set_self _ _ _),?_⟩
      exact hk _ S4.zero false (q.inc.fail 80) (by unfold PS.single8; rw [if_neg (by omega),if_pos hbad]) (h3.other hbi) ((hxx.trans hx3).set hi _)
    unfold zql2_7
    refine sel_mk (fun h94=>?_) (fun h94=>?_)
    · rw [h94]; exact bad (.inl (by have h:(q.byte:Int)=94:=(by simpa using h94); omega))
    refine sel_mk (fun h45=>?_) (fun h45=>?_)
    · rw [h45]; exact bad (.inr (.inl (by have : (q.byte : Int) = 45 := by simpa using h45
                                          omega)))
    cases h93:((q.byte:Int) == 93) with
    | true => exact bad (.inr (.inr (by have : (q.byte : Int) = 93 := by simpa using h93
                                        omega)))
    | false =>
      have h94:(q.byte:Int) ≠ 94:=by simpa using h94
      have h45:(q.byte:Int) ≠ 45:=by simpa using h45
      have h93:(q.byte:Int) ≠ 93:=by simpa using h93
      unfold zql2_5
      refine sel_ff ?_
      unfold zql2_1
      refine With_c (s:=S4.zero) hb255 fun H3 he3=>⟨_,_,_,_,rfl,?_⟩
      simp only [ptr_some]
      refine S4.wr (S4.zero.with1 q.byte) (he3 _ _ hc2) ⟨_,_,_,_,S4.rd (s:=S4.zero.with1 q.byte) (Heap.set_self _ _ _),?_⟩
      exact hk _ _ true q.inc (by unfold PS.single8; rw [if_neg (by omega),if_neg (by omega)]) ((h2.ext he3).other hbi) ((hxx.trans (he3.exb b)).set hi _)
end
end Go.Proofs.Ytaffcoiomggpfaa
