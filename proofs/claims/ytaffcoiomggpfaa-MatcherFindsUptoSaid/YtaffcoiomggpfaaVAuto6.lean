import Derived.Test.YtaffcoiomggpfaaVAuto2
import Derived.Test.YtaffcoiomggpfaaVNode
/- Contracts of package auto (3): sets,spread. -/
namespace Go.Proofs.Ytaffcoiomggpfaa
open Go.V
attribute [local irreducible] app
set_option linter.constructorNameAsVariable false
set_option linter.unusedVariables false
theorem sl22:SlT Pr 22 1:=.of (by kernel_rfl)
def natV (i:Nat):Value:=.int .i64 (i:Nat)
def addL (l:List Nat) (i:Nat):List Nat:=if i ∈ l then l else l++[i]
def mkV (n:Nat) (l:List Nat):List Value:=(List.range n).map fun i=>Value.bool (decide (i ∈ l))
theorem mkV_length (n:Nat) (l:List Nat):(mkV n l).length=n:=by simp [mkV]
theorem mkV_get {n i:Nat} (l:List Nat) (hi:i < n):(mkV n l)[i]?=some (.bool (decide (i ∈ l))):=by simp [mkV,hi]
theorem mkV_add {n i:Nat} {l:List Nat} (hi:i < n) (h:i ∉ l):mkV n (addL l i)=(mkV n l).set i (.bool true):=by
  apply List.ext_getElem?
  intro j
  by_cases hj:j < n
  · rw [mkV_get _ hj,List.getElem?_set]
    unfold addL
    rw [if_neg h]
    by_cases e:i=j
    · subst e; rw [if_pos rfl,if_pos (by rw [mkV_length]; exact hi)]; simp
    · rw [if_neg e,mkV_get _ hj]; simp [Ne.symm e]
  · rw [List.getElem?_eq_none (by rw [mkV_length]; omega),List.getElem?_eq_none (by rw [List.length_set,mkV_length]; omega)]
theorem over_same {C:Array Value} {o:Nat} {v:Value} (h:C[o]?=some v):over C o [v]=C:=by
  simp only [over]
  apply Array.ext
  · simp
  · intro j h1 h2
    rw [Array.getElem_setIfInBounds]
    split
    · rename_i e; subst e; rw [Array.getElem?_eq_getElem h2] at h; exact (Option.some.inj h).symm
    · rfl
theorem sadd_c {H:Heap} {Q:QT} {E:ET} {a o n i b c:Nat} {C:Array Value} {t:TypeId} {p:OA} {l:List Nat} (hC:H a=some (.cells C t (0,0))) (ho:o+1 < C.size)
    (h1:C[o]?=some (.slice p l.length c)) (h2:C[o+1]?=some (.slice (some ⟨b,0,none⟩) n n)) (hv:Vec H 1 p l.length c (l.map natV)) (hm:Vec H 1 (some ⟨b,0,none⟩) n n (mkV n l))
    (hpa:¬ blk p a) (hpb:¬ blk p b) (hab:b ≠ a) (hi:i < n) (hlen:l.length < 1048576)
    (hk:∀ H' p' c',H' a=some (.cells (over C o [.slice p' (addL l i).length c']) t (0,0))→Vec H' 1 p' (addL l i).length c' ((addL l i).map natV)→Vec H' 1 (some ⟨b,0,none⟩) n n (mkV n (addL l i)) →
      (∀ j,j ≠ a→j ≠ b→¬ blk p j→H j ≠ none→H' j=H j)→(∀ j,blk p' j→blk p j∨H j=none)→Q (.tuple #[]) H') :
    Does Pr 80 #[.pointer (some ⟨a,o,none⟩),.int .i64 (i:Nat)] H Q E:=by
  refine zqh1_fn _ _ Q E H ?_
  unfold zqh1
  obtain ⟨m1,m2,b',mc,mt,hbe,hb,hms,hmg⟩:=id hm
  cases hbe
  simp only [ptr_some,add_at,Int.toNat_natCast,Nat.mul_one]
  refine ldSl_at (p:=some ⟨b,0,none⟩) (l:=n) (m:=n) hC h2 ⟨⟨by omega,by omega⟩,?_⟩
  simp only [ptr_some,add_at,Nat.zero_add]
  refine ldB_at (n:=decide (i ∈ l)) hb (by rw [hmg i (by omega),mkV_get l hi]) ?_
  refine sel_not (fun hn=>?_) (fun hy=>?_)
  · have hn:i ∉ l:=of_decide_eq_false hn
    have hadd:addL l i=l++[i]:=if_neg hn
    refine ldSl_at (p:=some ⟨b,0,none⟩) (l:=n) (m:=n) hC h2 ⟨⟨by omega,by omega⟩,?_⟩
    simp only [ptr_some,add_at,Nat.zero_add]
    refine wr_new hb (by simp; omega) rfl (c':=mc.setIfInBounds i (.bool true)) rfl fun H2 hc2 hb2=>?_
    have hC2:H2 a=some (.cells C t (0,0)):=by rw [hb2 a (Ne.symm hab)]; exact hC
    have hv2:Vec H2 1 p l.length c (l.map natV):=hv.keep fun j hj _=>hb2 j (fun e=>hpb (e ▸ hj))
    refine ldSl_at (p:=p) (l:=l.length) (m:=c) hC2 h1 ?_
    refine nw_ext fun k H3 hk3 he3 hc3=>?_
    refine app_one (sz:=1) (ws:=[natV i]) sl22 (hv2.ext he3) hc3 rfl rfl hlen (by omega) fun p' c' H4 hv4 hs4 hb4=>?_
    have hC4:H4 a=some (.cells C t (0,0)):=by rw [hs4 a hpa (by rw [he3 _ _ hC2]; simp)]; exact he3 _ _ hC2
    have hH2:∀ j,H2 j=none→H j=none:=fun j hj=>by
      by_cases e:j=b
      · subst e; rw [hc2] at hj; cases hj
      · rw [hb2 j e] at hj; exact hj
    have hnp:∀ j,blk p' j→blk p j∨H j=none:=fun j hj=>by
      rcases hb4 j hj with h | h
      · exact .inl h
      · exact .inr (hH2 j (he3.free h))
    have hpa':∀ j,blk p' j→j ≠ a:=fun j hj e=>by
      rcases hnp j hj with h | h
      · exact hpa (e ▸ h)
      · rw [e,hC] at h; cases h
    have hpb':∀ j,blk p' j→j ≠ b:=fun j hj e=>by
      rcases hnp j hj with h | h
      · exact hpb (e ▸ h)
      · rw [e,hb] at h; cases h
    refine wr_new hC4 (by simp; omega) rfl (c':=over C o [.slice p' (l.length+1) c']) rfl fun H5 hc5 hb5=>?_
    have hl:(addL l i).length=l.length+1:=by rw [hadd]; simp
    refine hk H5 p' c' (by rw [hl]; exact hc5) ?_ ?_ (fun j hja hjb hjp hj=>?_) hnp
    · rw [hl,hadd]
      have:Vec H5 1 p' (l.length+1) c' (l.map natV++[natV i]):=hv4.keep fun j hj _=>hb5 j (hpa' j hj)
      simpa using this
    · have hH5b:H5 b=some (.cells (mc.setIfInBounds i (.bool true)) mt (0,0)):=by
        rw [hb5 b hab,hs4 b hpb (by rw [he3 _ _ hc2]; simp)]; exact he3 _ _ hc2
      refine ⟨by rw [mkV_length]; omega,Nat.le_refl _,b,_,mt,rfl,hH5b,by simpa using hms,fun j hj=>?_⟩
      rw [mkV_add hi hn,Array.getElem?_setIfInBounds,List.getElem?_set,mkV_length]
      by_cases e:i=j
      · rw [if_pos e,if_pos e,if_pos (by omega),if_pos (by omega)]
      · rw [if_neg e,if_neg e]; exact hmg j hj
    · rw [hb5 j hja]
      have h2:H2 j=H j:=hb2 j hjb
      cases hh:H j with
      | none=>exact absurd hh hj
      | some x =>
        have h3:=he3 j x (by rw [h2]; exact hh)
        rw [hs4 j hjp (by rw [h3]; simp),h3]
  · have hy:i ∈ l:=of_decide_eq_true hy
    have hadd:addL l i=l:=if_pos hy
    rw [hadd] at hk
    exact hk H p c (by rw [over_same h1]; exact hC) hv hm (fun j _ _ _ _=>rfl) (fun j hj=>.inl hj)
/-! ### The machine -/
structure Ma where
  now:List Nat
  bol:Bool
  at_:Nat
  found:Int
def MC (ps:OA) (n cs:Nat) (p1:OA) (l1 c1 b1:Nat) (p3:OA) (l3 c3 b3:Nat) (anch bol:Bool) (at_ found:Int):Array Value :=
  #[.slice ps n cs, .slice p1 l1 c1, .slice (some ⟨b1, 0, none⟩) n n, .slice p3 l3 c3, .slice (some ⟨b3, 0, none⟩) n n, .bool anch, .bool bol, .int .i64 at_, .int .i64 found]
def OkL (n:Nat) (l:List Nat):Prop:=l.Nodup∧∀ i ∈ l,i < n
theorem OkL.add {n i:Nat} {l:List Nat} (h:OkL n l) (hi:i < n):OkL n (addL l i):=by
  unfold addL
  split
  · exact h
  · rename_i hn
    refine ⟨List.nodup_append.2 ⟨h.1,by simp,fun x hx y hy e=>?_⟩,fun j hj=>?_⟩
    · simp at hy; subst hy; exact hn (e ▸ hx)
    · rcases List.mem_append.1 hj with h' | h'
      · exact h.2 j h'
      · simp at h'; omega
theorem nodup_len:∀ (n:Nat) (l:List Nat),l.Nodup→(∀ i ∈ l,i < n)→l.length≤n
  | 0,l,h,hb=>by
    cases l with
    | nil=>simp
    | cons x l=>exact absurd (hb x (by simp)) (by omega)
  | n+1,l,h,hb=>by
    have ih:=nodup_len n (l.erase n) (h.erase n) fun i hi=>by
      have h1:=(List.Nodup.mem_erase_iff h).1 hi
      have:=hb i h1.2
      have:=h1.1
      omega
    have:=List.length_erase (a:=n) (l:=l)
    split at this <;> omega
theorem OkL.len {n:Nat} {l:List Nat} (h:OkL n l):l.length≤n:=nodup_len n l h.1 h.2
theorem OkL.nil (n:Nat):OkL n []:=⟨by simp,by simp⟩
def MSt (H0 H:Heap) (a:Nat) (ps:OA) (cs:Nat) (st:List Nd) (anch:Bool) (M:Ma):Prop :=
  Ext H0 H∧H0 a=none∧Vec H0 7 ps st.length cs (flat st)∧OkL st.length M.now ∧
  ∃ (p1 p3:OA) (c1 b1 l3 c3 b3:Nat) (t:TypeId) (xs ys:List Value),H a=some (.cells (MC ps st.length cs p1 M.now.length c1 b1 p3 l3 c3 b3 anch M.bol M.at_ M.found) t (0,0)) ∧
    Vec H 1 p1 M.now.length c1 (M.now.map natV)∧Vec H 1 (some ⟨b1,0,none⟩) st.length st.length (mkV st.length M.now) ∧
    Vec H 1 p3 l3 c3 xs∧Vec H 1 (some ⟨b3,0,none⟩) st.length st.length ys ∧
    b1 ≠ a∧b3 ≠ a∧b1 ≠ b3∧H0 b1=none∧H0 b3=none ∧
    (∀ j,blk p1 j→j ≠ a∧j ≠ b1∧j ≠ b3∧¬ blk p3 j∧H0 j=none)∧(∀ j,blk p3 j→j ≠ a∧j ≠ b1∧j ≠ b3∧H0 j=none)
section
variable {H0 H:Heap} {a cs:Nat} {ps:OA} {st:List Nd} {anch:Bool} {M:Ma} {Q:QT} {E:ET}
theorem MSt.ext {H':Heap} (h:MSt H0 H a ps cs st anch M) (he:Ext H H'):MSt H0 H' a ps cs st anch M:=by
  obtain ⟨h1,h2,h3,h4,p1,p3,c1,b1,l3,c3,b3,t,xs,ys,k1,k2,k3,k4,k5,kk⟩:=h
  exact ⟨h1.trans he,h2,h3,h4,p1,p3,c1,b1,l3,c3,b3,t,xs,ys,he _ _ k1,k2.ext he,k3.ext he,k4.ext he,k5.ext he,kk⟩
theorem blk1 {b:Nat}:blk (some ⟨b,0,none⟩) b:=⟨_,rfl,rfl⟩
theorem MSt.new {i:Nat} (h:MSt H0 H a ps cs st anch M) (hi:H i=none) (o:Obj):MSt (H0.set i o) (H.set i o) a ps cs st anch M:=by
  obtain ⟨h1,h2,h3,h4,p1,p3,c1,b1,l3,c3,b3,t,xs,ys,k1,k2,k3,k4,k5,d1,d2,d3,d4,d5,d6,d7⟩:=h
  have ha:a ≠ i:=ne_of k1 hi
  have he:Ext H (H.set i o):=Ext.new hi o
  have nn:∀ {j},j ≠ i→H0 j=none→(H0.set i o) j=none:=fun hj h=>by rw [Heap.set_ne _ _ hj]; exact h
  have n1:b1 ≠ i:=fun e=>(k3.known blk1) (e ▸ hi)
  have n3:b3 ≠ i:=fun e=>(k5.known blk1) (e ▸ hi)
  have np1:∀ j,blk p1 j→j ≠ i:=fun j hj e=>(k2.known hj) (e ▸ hi)
  have np3:∀ j,blk p3 j→j ≠ i:=fun j hj e=>(k4.known hj) (e ▸ hi)
  refine ⟨fun j x hj=>?_,nn ha h2,h3.ext (Ext.new (h1.free hi) o),h4,p1,p3,c1,b1,l3,c3,b3,t,xs,ys,he _ _ k1,k2.ext he,k3.ext he,k4.ext he,k5.ext he,d1,d2,d3,nn n1 d4,nn n3 d5,fun j hj=>?_,fun j hj=>?_⟩
  · by_cases e:j=i
    · subst e; rw [Heap.set_self] at hj ⊢; exact hj
    · rw [Heap.set_ne _ _ e] at hj ⊢; exact h1 j x hj
  · obtain ⟨e1,e2,e3,e4,e5⟩:=d6 j hj
    exact ⟨e1,e2,e3,e4,nn (np1 j hj) e5⟩
  · obtain ⟨e1,e2,e3,e4⟩:=d7 j hj
    exact ⟨e1,e2,e3,nn (np3 j hj) e4⟩
theorem MSt.old {i:Nat} {o:Obj} (hv:Vec H0 7 ps st.length cs (flat st)) (hi:H0 i=none) (h:MSt (H0.set i o) H a ps cs st anch M):MSt H0 H a ps cs st anch M:=by
  obtain ⟨h1,h2,h3,h4,p1,p3,c1,b1,l3,c3,b3,t,xs,ys,k1,k2,k3,k4,k5,d1,d2,d3,d4,d5,d6,d7⟩:=h
  have hl:∀ j,(H0.set i o) j=none→H0 j=none:=fun j hj=>by
    by_cases e:j=i
    · subst e; exact hi
    · rwa [Heap.set_ne _ _ e] at hj
  exact ⟨h1.of_set hi,hl _ h2,hv,h4,p1,p3,c1,b1,l3,c3,b3,t,xs,ys,k1,k2,k3,k4,k5,d1,d2,d3,hl _ d4,hl _ d5,fun j hj=>⟨(d6 j hj).1,(d6 j hj).2.1,(d6 j hj).2.2.1,(d6 j hj).2.2.2.1,hl _ (d6 j hj).2.2.2.2⟩,
    fun j hj=>⟨(d7 j hj).1,(d7 j hj).2.1,(d7 j hj).2.2.1,hl _ (d7 j hj).2.2.2⟩⟩
theorem nadd_c {i:Nat} (h:MSt H0 H a ps cs st anch M) (hi:i < st.length) (hn:st.length≤100000)
    (hk:∀ H',MSt H0 H' a ps cs st anch { M with now:=addL M.now i }→Q (.tuple #[]) H'):Does Pr 80 #[.pointer (some ⟨a,1,none⟩),.int .i64 (i:Nat)] H Q E:=by
  obtain ⟨h1,h2,h3,h4,p1,p3,c1,b1,l3,c3,b3,t,xs,ys,k1,k2,k3,k4,k5,d1,d2,d3,d4,d5,d6,d7⟩:=h
  have hlen:=h4.len
  refine sadd_c (o:=1) k1 (show 1+1 < 9 by decide) rfl rfl k2 k3 (fun hb=>(d6 a hb).1 rfl) (fun hb=>(d6 b1 hb).2.1 rfl) d1 hi (by omega) fun H' p' c' q1 q2 q3 q4 q5=>?_
  have fr:∀ j,blk p' j→j ≠ a∧j ≠ b1∧j ≠ b3∧¬ blk p3 j∧H0 j=none:=fun j hj=>by
    rcases q5 j hj with h | h
    · exact d6 j h
    · refine ⟨fun e=>(by rw [e,k1] at h; cases h),fun e=>(k3.known blk1) (e ▸ h),fun e=>(k5.known blk1) (e ▸ h),fun hb=>(k4.known hb) h,h1.free h⟩
  refine hk H' ⟨fun j o hj=>?_,h2,h3,h4.add hi,p',p3,c',b1,l3,c3,b3,t,xs,ys,q1,q2,q3,k4.keep fun j hj hn=>?_,k5.keep fun j hj hn=>?_,d1,d2,d3,d4,d5,fr,d7⟩
  · rw [q4 j (fun e=>by rw [e,h2] at hj; cases hj) (fun e=>by rw [e,d4] at hj; cases hj) (fun hb=>by rw [(d6 j hb).2.2.2.2] at hj; cases hj) (by rw [h1 j o hj]; simp)]; exact h1 j o hj
  · obtain ⟨e1,e2,e3,e4⟩:=d7 j hj
    exact q4 j e1 e2 (fun hb=>(d6 j hb).2.2.2.1 hj) hn
  · obtain ⟨x,hx,rfl⟩:=hj
    cases hx
    exact q4 b3 d2 (Ne.symm d3) (fun hb=>(d6 b3 hb).2.2.1 rfl) hn
end
end Go.Proofs.Ytaffcoiomggpfaa
/- Contracts of package auto (4): spread,Here. -/
namespace Go.Proofs.Ytaffcoiomggpfaa
open Go.V
attribute [local irreducible] app
set_option linter.constructorNameAsVariable false
set_option linter.unusedVariables false
def spreadL (st:List Nd) (bol eol:Bool):Nat→Nat→Bool→List Nat→List Nat × Bool
  | 0,_,m,l=>(l,m)
  | f+1,i,m,l =>
    if i < l.length then
      let x:=st.getD (l.getD i 0) default
      if x.k=2 then spreadL st bol eol f (i+1) m (addL (addL l x.r.toNat) x.l.toNat)
      else if (x.k=3∧bol=true)∨(x.k=4∧eol=true) then spreadL st bol eol f (i+1) m (addL l x.l.toNat)
      else if x.k=5 then spreadL st bol eol f (i+1) true l
      else spreadL st bol eol f (i+1) m l
    else (l,m)
def spread (st:List Nd) (bol eol:Bool) (l:List Nat):List Nat × Bool:=spreadL st bol eol (st.length+1) 0 false l
theorem addL_len (l:List Nat) (i:Nat):l.length≤(addL l i).length:=by unfold addL; split <;> simp
theorem InR.at {st:List Nd} (hr:InR st) {n:Nat} {x:Nd} (hx:st[n]?=some x):0≤x.l∧x.l < st.length∧0≤x.r∧x.r < st.length:=hr x (List.mem_iff_getElem?.2 ⟨n,hx⟩)
theorem getD_some {st:List Nd} {j:Nat} (h:j < st.length):st[j]?=some (st.getD j default):=by rw [List.getD_eq_getElem?_getD,List.getElem?_eq_getElem h]; rfl
theorem spreadL_ok {st:List Nd} (hr:InR st) (bol eol:Bool):∀ (f i:Nat) (m:Bool) (l:List Nat),OkL st.length l→OkL st.length (spreadL st bol eol f i m l).1
  | 0,i,m,l,h=>h
  | f+1,i,m,l,h=>by
    unfold spreadL
    split
    · rename_i hi
      have hlt:l.getD i 0 < st.length:=h.2 _ (by rw [List.getD_eq_getElem?_getD,List.getElem?_eq_getElem hi]; exact List.getElem_mem hi)
      have hb:=hr.at (getD_some hlt)
      dsimp only
      generalize st.getD (l.getD i 0) default=x at hb
      split
      · exact spreadL_ok hr bol eol f _ m _ ((h.add (by omega)).add (by omega))
      split
      · exact spreadL_ok hr bol eol f _ m _ (h.add (by omega))
      split
      · exact spreadL_ok hr bol eol f _ true _ h
      · exact spreadL_ok hr bol eol f _ m _ h
    · exact h
section
variable {H0 H:Heap} {a cs:Nat} {ps:OA} {st:List Nd} {anch:Bool} {M:Ma} {Q:QT} {E:ET}
theorem MSt.ldSt {K:OA→Nat→Nat→Prop} (h:MSt H0 H a ps cs st anch M) (hk:K ps st.length cs):ldSl ⟨a,0,none⟩ H K:=by
  obtain ⟨h1,h2,h3,h4,p1,p3,c1,b1,l3,c3,b3,t,xs,ys,k1,kk⟩:=h
  exact ldSl_at (p:=ps) (l:=st.length) (m:=cs) k1 rfl hk
theorem MSt.ldNow {K:OA→Nat→Nat→Prop} (h:MSt H0 H a ps cs st anch M) (hk:∀ p c,Vec H 1 p M.now.length c (M.now.map natV)→K p M.now.length c):ldSl ⟨a,1,none⟩ H K:=by
  obtain ⟨h1,h2,h3,h4,p1,p3,c1,b1,l3,c3,b3,t,xs,ys,k1,k2,kk⟩:=h
  exact ldSl_at (p:=p1) (l:=M.now.length) (m:=c1) k1 rfl (hk p1 c1 k2)
theorem MSt.ldAnch {K:Bool→Prop} (h:MSt H0 H a ps cs st anch M) (hk:K anch):ldB ⟨a,5,none⟩ H K:=by
  obtain ⟨h1,h2,h3,h4,p1,p3,c1,b1,l3,c3,b3,t,xs,ys,k1,kk⟩:=h
  exact ldB_at (n:=anch) k1 rfl hk
theorem MSt.ldBol {K:Bool→Prop} (h:MSt H0 H a ps cs st anch M) (hk:K M.bol):ldB ⟨a,6,none⟩ H K:=by
  obtain ⟨h1,h2,h3,h4,p1,p3,c1,b1,l3,c3,b3,t,xs,ys,k1,kk⟩:=h
  exact ldB_at (n:=M.bol) k1 rfl hk
theorem MSt.ldAtM {K:Int→Prop} (h:MSt H0 H a ps cs st anch M) (hk:K (M.at_:Nat)):ldI .i64 ⟨a,7,none⟩ H K:=by
  obtain ⟨h1,h2,h3,h4,p1,p3,c1,b1,l3,c3,b3,t,xs,ys,k1,kk⟩:=h
  exact ldI_at (n:=(M.at_:Nat)) k1 rfl hk
theorem MSt.ldFound {K:Int→Prop} (h:MSt H0 H a ps cs st anch M) (hk:K M.found):ldI .i64 ⟨a,8,none⟩ H K:=by
  obtain ⟨h1,h2,h3,h4,p1,p3,c1,b1,l3,c3,b3,t,xs,ys,k1,kk⟩:=h
  exact ldI_at (n:=M.found) k1 rfl hk
theorem vec_at1 {p:OA} {l c:Nat} {vs:List Value} {v:Value} (h:Vec H 1 p l c vs) {n:Nat} (hx:vs[n]?=some v):∃ b t cs,p=some ⟨b,0,none⟩∧H b=some (.cells cs t (0,0))∧cs[n]?=some v:=by
  obtain ⟨v1,v2,v3⟩:=h
  have hn:=(List.getElem?_eq_some_iff.1 hx).1
  cases p with
  | none=>simp only [] at v3; omega
  | some a =>
    obtain ⟨b,cs,t,rfl,hb,hcs,hget⟩:=v3
    exact ⟨b,t,cs,rfl,hb,by rw [hget n (by omega)]; exact hx⟩
set_option maxHeartbeats 1000000 in
theorem spread_c {eol:Bool} (h:MSt H0 H a ps cs st anch M) (hr:InR st) (hn:st.length≤100000)
    (hk:∀ H',MSt H0 H' a ps cs st anch { M with now:=(spread st M.bol eol M.now).1 }→Q (.bool (spread st M.bol eol M.now).2) H'):Does Pr 81 #[.pointer (some ⟨a,0,none⟩),.bool eol] H Q E:=by
  refine zqi1_fn _ _ Q E H ?_
  have hvs:=h.2.2.1
  unfold zqi1 zqi1_48 zqi1_44 zqi1_41
  generalize hR:spread st M.bol eol M.now=R at hk
  have hR:spreadL st M.bol eol (st.length+1) 0 false M.now=R:=hR
  refine ⟨fun m x H'=>∃ (f i:Nat) (l:List Nat),x=(i:Nat)∧i≤l.length∧st.length < f+i∧spreadL st M.bol eol f i m l=R∧MSt H0 H' a ps cs st anch { M with now:=l },
    fun _ x _=>(st.length+1 - x).toNat,⟨st.length+1,0,M.now,rfl,by omega,by omega,hR,h⟩,?_⟩
  rintro m x H1 ⟨f,i,l,rfl,hi,hf,hr',h1⟩
  have hll:=h1.2.2.2.1.len
  dsimp only at hll
  unfold zqi1_38
  simp only [ptr_some,add_at,Nat.zero_add]
  refine h1.ldNow fun p c hv=>?_
  dsimp only at hv ⊢
  cases f with
  | zero=>omega
  | succ f =>
    simp only [spreadL] at hr'
    refine sel_dec (fun hlt=>?_) (fun hge=>?_)
    · have hlt:i < l.length:=by omega
      rw [if_pos hlt] at hr'
      have hmem:l[i]?=some (l.getD i 0):=by rw [List.getD_eq_getElem?_getD,List.getElem?_eq_getElem hlt]; rfl
      have hsl:l.getD i 0 < st.length:=h1.2.2.2.1.2 _ (List.mem_iff_getElem?.2 ⟨i,hmem⟩)
      generalize hj:l.getD i 0=j at hmem hsl hr'
      have hx:st[j]?=some (st.getD j default):=by rw [List.getD_eq_getElem?_getD,List.getElem?_eq_getElem hsl]; rfl
      have hb:=hr.at hx
      generalize st.getD j default=x at hx hb hr'
      unfold zqi1_33
      simp only [ptr_some,add_at,Nat.zero_add]
      refine h1.ldSt (h1.ldNow fun p c hv=>⟨⟨by omega,by dsimp only; omega⟩,?_⟩)
      dsimp only at hv ⊢
      obtain ⟨bb,tt,cc,rfl,hbb,hcc⟩:=vec_at1 hv (n:=i) (v:=natV j) (by simp [hmem])
      simp only [ptr_some,add_at,Int.toNat_natCast,Nat.mul_one,Nat.zero_add]
      refine ldI_at (n:=(j:Nat)) hbb hcc ⟨⟨by omega,by omega⟩,?_⟩
      obtain ⟨sa,rfl,hrd⟩:=vec_at7 (h1.2.2.1.ext h1.1) hx
      simp only [ptr_some,Int.toNat_natCast]
      refine ⟨x.k,x.l,x.r,x.a,x.b,x.c,x.d,hrd,?_⟩
      refine nw_ext fun q H2 hq2 he2 hc2=>?_
      refine wr_new hc2 (by simp) rfl (c':=x.cells.toArray) rfl fun H3 hc3 hb3=>?_
      have hq0:H0 q=none:=h1.1.free hq2
      have h3:MSt (H0.set q (.cells x.cells.toArray 91 (0,0))) H3 a (some sa) cs st anch { M with now:=l }:=by
        refine (h1.new hq2 (.cells x.cells.toArray 91 (0,0))).ext fun y o hy=>?_
        by_cases e:y=q
        · subst e; rw [Heap.set_self] at hy; rw [hc3]; exact hy
        · rw [Heap.set_ne _ _ e] at hy; rw [hb3 y e]; exact he2 y o hy
      have nx:∀ (m':Bool) (l':List Nat) (H':Heap),spreadL st M.bol eol f (i+1) m' l'=R→MSt (H0.set q (.cells x.cells.toArray 91 (0,0))) H' a (some sa) cs st anch { M with now:=l' }→l.length≤l'.length →
          zqi1_3 (fun m x H1=>(∃ (f i:Nat) (l:List Nat),x=(i:Nat)∧i≤l.length∧st.length < f+i∧spreadL st M.bol eol f i m l=R∧MSt H0 H1 a (some sa) cs st anch { M with now:=l })∧(st.length+1 - x).toNat < (st.length+1 - (i:Nat):Int).toNat) Q E (some ⟨a,0,none⟩) eol m' (i:Nat) H':=by
        intro m' l' H' hs h' hl'
        unfold zqi1_3
        have hw:IntKind.wrap .i64 ((i:Int)+1)=((i+1:Nat):Int):=by rw [IntWalk.i64_in _ (by omega)]; omega
        rw [hw]
        exact ⟨⟨f,i+1,l',rfl,by omega,by omega,hs,h'.old hvs hq0⟩,by omega⟩
      have hcx:∀ (H':Heap),Ext (H0.set q (.cells x.cells.toArray 91 (0,0))) H'→H' q=some (.cells x.cells.toArray 91 (0,0)):=fun H' he=>he.get
      generalize H0.set q (.cells x.cells.toArray 91 (0,0))=HB at h3 nx hcx
      have hc3':=hcx H3 h3.1
      have el:x.l=((x.l.toNat:Nat):Int):=by omega
      have er:x.r=((x.r.toNat:Nat):Int):=by omega
      -- goes on at Out
      have out:∀ (l':List Nat) (H':Heap),spreadL st M.bol eol f (i+1) m (addL l' x.l.toNat)=R→MSt HB H' a (some sa) cs st anch { M with now:=l' }→l.length≤l'.length →
          zqi1_7 (fun m x H1=>(∃ (f i:Nat) (l:List Nat),x=(i:Nat)∧i≤l.length∧st.length < f+i∧spreadL st M.bol eol f i m l=R∧MSt H0 H1 a (some sa) cs st anch { M with now:=l })∧(st.length+1 - x).toNat < (st.length+1 - (i:Nat):Int).toNat) Q E (some ⟨a,0,none⟩) eol m (i:Nat) (some ⟨q,0,none⟩) H':=by
        intro l' H' hs h' hl'
        unfold zqi1_7
        simp only [ptr_some,add_at,Nat.zero_add]
        refine ldI_at (n:=x.l) (hcx _ h'.1) rfl ?_
        rw [el]
        refine nadd_c h' (by omega) hn fun H4 h4=>?_
        exact nx m _ H4 hs h4 (Nat.le_trans hl' (addL_len _ _))
      unfold zqi1_22
      simp only [ptr_some]
      refine ldI_at (n:=x.k) hc3' rfl (sel_beq (fun c2=>?_) (fun c2=>?_))
      · rw [if_pos c2] at hr'
        unfold zqi1_9
        simp only [ptr_some,add_at,Nat.zero_add]
        refine ldI_at (n:=x.r) hc3' rfl ?_
        rw [er]
        refine nadd_c h3 (by omega) hn fun H4 h4=>?_
        exact out _ H4 hr' h4 (addL_len _ _)
      rw [if_neg c2] at hr'
      have stop:¬ ((x.k=3∧M.bol=true)∨(x.k=4∧eol=true)) →
          zqi1_13 (fun m x H1=>(∃ (f i:Nat) (l:List Nat),x=(i:Nat)∧i≤l.length∧st.length < f+i∧spreadL st M.bol eol f i m l=R∧MSt H0 H1 a (some sa) cs st anch { M with now:=l })∧(st.length+1 - x).toNat < (st.length+1 - (i:Nat):Int).toNat) Q E (some ⟨a,0,none⟩) eol m (i:Nat) (some ⟨q,0,none⟩) false H3:=by
        intro hno
        rw [if_neg hno] at hr'
        unfold zqi1_13
        refine sel_ff ?_
        unfold zqi1_11
        simp only [ptr_some]
        refine ldI_at (n:=x.k) hc3' rfl (sel_beq (fun c5=>?_) (fun c5=>?_))
        · rw [if_pos c5] at hr'
          unfold zqi1_5
          exact nx true l H3 hr' h3 (Nat.le_refl _)
        · rw [if_neg c5] at hr'
          exact nx m l H3 hr' h3 (Nat.le_refl _)
      have go:((x.k=3∧M.bol=true)∨(x.k=4∧eol=true)) →
          zqi1_13 (fun m x H1=>(∃ (f i:Nat) (l:List Nat),x=(i:Nat)∧i≤l.length∧st.length < f+i∧spreadL st M.bol eol f i m l=R∧MSt H0 H1 a (some sa) cs st anch { M with now:=l })∧(st.length+1 - x).toNat < (st.length+1 - (i:Nat):Int).toNat) Q E (some ⟨a,0,none⟩) eol m (i:Nat) (some ⟨q,0,none⟩) true H3:=by
        intro hyes
        rw [if_pos hyes] at hr'
        unfold zqi1_13
        exact sel_tt (out l H3 hr' h3 (Nat.le_refl _))
      have off:(x.k=3→M.bol=false) →
          zqi1_15 (fun m x H1=>(∃ (f i:Nat) (l:List Nat),x=(i:Nat)∧i≤l.length∧st.length < f+i∧spreadL st M.bol eol f i m l=R∧MSt H0 H1 a (some sa) cs st anch { M with now:=l })∧(st.length+1 - x).toNat < (st.length+1 - (i:Nat):Int).toNat) Q E (some ⟨a,0,none⟩) eol m (i:Nat) (some ⟨q,0,none⟩) false H3:=by
        intro h3b
        unfold zqi1_15
        refine sel_ff ?_
        simp only [ptr_some]
        refine ldI_at (n:=x.k) hc3' rfl (sel_beq (fun c4=>?_) (fun c4=>?_))
        · cases eol with
          | true=>exact go (.inr ⟨c4,rfl⟩)
          | false=>exact stop (by simp; intro h; omega)
        · exact stop (by
            rintro (⟨h,hb⟩ | ⟨h,_⟩)
            · rw [h3b h] at hb; cases hb
            · exact c4 h)
      unfold zqi1_17
      simp only [ptr_some,add_at,Nat.zero_add]
      refine ldI_at (n:=x.k) hc3' rfl (sel_beq (fun c3=>?_) (fun c3=>off (fun h=>absurd h c3)))
      refine h3.ldBol ?_
      dsimp only
      cases hbol:M.bol with
      | true =>
        unfold zqi1_15
        rw [hbol] at go
        exact sel_tt (go (.inl ⟨c3,rfl⟩))
      | false=>rw [hbol] at off; exact off (fun _=>rfl)
    · rw [if_neg (by omega)] at hr'
      unfold zqi1_1
      rw [← hr'] at hk
      exact hk H1 h1
end
end Go.Proofs.Ytaffcoiomggpfaa
/- Contracts of package auto (5): clear,Read,Matched,Feed,Found,Start. -/
namespace Go.Proofs.Ytaffcoiomggpfaa
open Go.V
attribute [local irreducible] app
set_option linter.constructorNameAsVariable false
set_option linter.unusedVariables false
def MSn (H0 H:Heap) (a:Nat) (ps:OA) (cs:Nat) (st:List Nd) (anch:Bool) (M:Ma) (p1:OA) (nx:List Nat):Prop :=
  Ext H0 H∧H0 a=none∧Vec H0 7 ps st.length cs (flat st)∧OkL st.length M.now∧OkL st.length nx ∧
  ∃ (p3:OA) (c1 b1 c3 b3:Nat) (t:TypeId),H a=some (.cells (MC ps st.length cs p1 M.now.length c1 b1 p3 nx.length c3 b3 anch M.bol M.at_ M.found) t (0,0)) ∧
    Vec H 1 p1 M.now.length c1 (M.now.map natV)∧Vec H 1 (some ⟨b1,0,none⟩) st.length st.length (mkV st.length M.now) ∧
    Vec H 1 p3 nx.length c3 (nx.map natV)∧Vec H 1 (some ⟨b3,0,none⟩) st.length st.length (mkV st.length nx) ∧
    b1 ≠ a∧b3 ≠ a∧b1 ≠ b3∧H0 b1=none∧H0 b3=none ∧
    (∀ j,blk p1 j→j ≠ a∧j ≠ b1∧j ≠ b3∧¬ blk p3 j∧H0 j=none)∧(∀ j,blk p3 j→j ≠ a∧j ≠ b1∧j ≠ b3∧H0 j=none)
theorem rep_one (n:Nat) (v:Value):rep n [v]=List.replicate n v:=by
  induction n with
  | zero=>rfl
  | succ n ih=>simp [rep,ih,List.replicate_succ]
theorem mkV_nil (n:Nat):mkV n []=List.replicate n (.bool false):=by
  apply List.ext_getElem?
  intro j
  by_cases hj:j < n
  · rw [mkV_get _ hj,List.getElem?_replicate,if_pos hj]; simp
  · rw [List.getElem?_eq_none (by rw [mkV_length]; omega),List.getElem?_eq_none (by simp; omega)]
theorem wrS_at {H:Heap} {b o:Nat} {c:Array Value} {t:TypeId} {vs:List Value} {K:Heap→Prop} (h:H b=some (.cells c t (0,0))) (hs:o+vs.length≤c.size) (ho:vs.all oneC=true)
    (hk:∀ H',H' b=some (.cells (over c o vs) t (0,0))→(∀ j,j ≠ b→H' j=H j)→K H'):wrS (some ⟨b,0,none⟩) o vs H K:=by
  cases vs with
  | nil=>exact hk H h (fun _ _=>rfl)
  | cons v vs =>
    simp only [wrS,ptr_some,add_at,Nat.zero_add]
    exact wr_new h hs ho rfl hk
theorem vec_zero {H:Heap} {sz:Nat} {p:OA} {l c:Nat} {vs:List Value} (h:Vec H sz p l c vs):Vec H sz p 0 c []:=by
  obtain ⟨v1,v2,v3⟩:=h
  refine ⟨by simp,by omega,?_⟩
  cases p with
  | none=>exact v3
  | some a =>
    obtain ⟨b,cs,t,rfl,hb,hcs,hget⟩:=v3
    exact ⟨b,cs,t,rfl,hb,hcs,fun j hj=>by omega⟩
section
variable {H0 H:Heap} {a cs:Nat} {ps:OA} {st:List Nd} {anch:Bool} {M:Ma} {Q:QT} {E:ET}
theorem clear_c (h:MSt H0 H a ps cs st anch M) (hk:∀ H' p1,MSn H0 H' a ps cs st anch M p1 []→Q (.tuple #[]) H'):Does Pr 92 #[.pointer (some ⟨a,3,none⟩)] H Q E:=by
  refine zql1_fn _ Q E H ?_
  obtain ⟨h1,h2,h3,h4,p1,p3,c1,b1,l3,c3,b3,t,xs,ys,k1,k2,k3,k4,k5,d1,d2,d3,d4,d5,d6,d7⟩:=h
  unfold zql1
  simp only [ptr_some,add_at]
  refine ldSl_at (p:=some ⟨b3,0,none⟩) (l:=st.length) (m:=st.length) k1 rfl ?_
  obtain ⟨m1,m2,b',mc,mt,hbe,hb,hms,hmg⟩:=id k5
  cases hbe
  rw [rep_one]
  refine wrS_at hb (by simp; omega) (by simp [oneC]) fun H2 hc2 hb2=>?_
  have hC2:H2 a=some (.cells (MC ps st.length cs p1 M.now.length c1 b1 p3 l3 c3 b3 anch M.bol M.at_ M.found) t (0,0)):=by rw [hb2 a (Ne.symm d2)]; exact k1
  have hk4:Vec H2 1 p3 l3 c3 xs:=k4.keep fun j hj _=>hb2 j (d7 j hj).2.2.1
  refine ldSl_at (p:=p3) (l:=l3) (m:=c3) hC2 rfl ⟨⟨by omega,by omega⟩,?_⟩
  have hp:(if c3=0 then p3 else Option.map (fun a=>Addr.add a (0 * 1)) p3)=p3:=by
    split
    · rfl
    · cases p3 with
      | none=>rfl
      | some x =>
        obtain ⟨_,_,bb,_,_,rfl,_⟩:=k4
        simp [add_at]
  rw [hp]
  refine wr_new hC2 (show 3+1≤9 by decide) rfl (c':=MC ps st.length cs p1 M.now.length c1 b1 p3 0 c3 b3 anch M.bol M.at_ M.found) rfl fun H3 hc3 hb3=>?_
  have e3:∀ j,j ≠ a→j ≠ b3→H3 j=H j:=fun j hja hjb=>by rw [hb3 j hja,hb2 j hjb]
  refine hk H3 p1 ⟨fun j o hj=>?_,h2,h3,h4,OkL.nil _,p3,c1,b1,c3,b3,t,hc3,k2.keep fun j hj _=>e3 j (d6 j hj).1 (d6 j hj).2.2.1,k3.keep fun j hj _=>?_,?_,?_,d1,d2,d3,d4,d5,d6,d7⟩
  · rw [e3 j (fun e=>by rw [e,h2] at hj; cases hj) (fun e=>by rw [e,d5] at hj; cases hj)]; exact h1 j o hj
  · obtain ⟨x,hx,rfl⟩:=hj; cases hx
    exact e3 b1 d1 d3
  · exact (vec_zero hk4).keep fun j hj _=>hb3 j (d7 j hj).1
  · rw [mkV_nil]
    refine ⟨by simp,Nat.le_refl _,b3,_,mt,rfl,by rw [hb3 b3 d2]; exact hc2,by rw [over_size]; exact hms,fun j hj=>?_⟩
    rw [over_get _ _ _ _ (by simp; omega),if_pos (by simp; omega)]; simp
theorem xadd_c {i:Nat} {p1:OA} {nx:List Nat} (h:MSn H0 H a ps cs st anch M p1 nx) (hi:i < st.length) (hn:st.length≤100000)
    (hk:∀ H',MSn H0 H' a ps cs st anch M p1 (addL nx i)→Q (.tuple #[]) H'):Does Pr 80 #[.pointer (some ⟨a,3,none⟩),.int .i64 (i:Nat)] H Q E:=by
  obtain ⟨h1,h2,h3,h4,h5,p3,c1,b1,c3,b3,t,k1,k2,k3,k4,k5,d1,d2,d3,d4,d5,d6,d7⟩:=h
  have hlen:=h5.len
  refine sadd_c (o:=3) k1 (show 3+1 < 9 by decide) rfl rfl k4 k5 (fun hb=>(d7 a hb).1 rfl) (fun hb=>(d7 b3 hb).2.2.1 rfl) d2 hi (by omega) fun H' p' c' q1 q2 q3 q4 q5=>?_
  have fr:∀ j,blk p' j→j ≠ a∧j ≠ b1∧j ≠ b3∧H0 j=none:=fun j hj=>by
    rcases q5 j hj with h | h
    · exact d7 j h
    · exact ⟨fun e=>(by rw [e,k1] at h; cases h),fun e=>(k3.known blk1) (e ▸ h),fun e=>(k5.known blk1) (e ▸ h),h1.free h⟩
  refine hk H' ⟨fun j o hj=>?_,h2,h3,h4,h5.add hi,p',c1,b1,c',b3,t,q1,k2.keep fun j hj hn=>?_,k3.keep fun j hj hn=>?_,q2,q3,d1,d2,d3,d4,d5,fun j hj=>?_,fr⟩
  · rw [q4 j (fun e=>by rw [e,h2] at hj; cases hj) (fun e=>by rw [e,d5] at hj; cases hj) (fun hb=>by rw [(d7 j hb).2.2.2] at hj; cases hj) (by rw [h1 j o hj]; simp)]; exact h1 j o hj
  · obtain ⟨e1,e2,e3,e4,e5⟩:=d6 j hj
    exact q4 j e1 e3 e4 hn
  · obtain ⟨x,hx,rfl⟩:=hj; cases hx
    exact q4 b1 d1 d3 (fun hb=>(d7 b1 hb).2.1 rfl) hn
  · obtain ⟨e1,e2,e3,e4,e5⟩:=d6 j hj
    refine ⟨e1,e2,e3,fun hb=>?_,e5⟩
    rcases q5 j hb with h | h
    · exact e4 h
    · exact (k2.known hj) h
theorem MSn.new {i:Nat} {p1:OA} {nx:List Nat} (h:MSn H0 H a ps cs st anch M p1 nx) (hi:H i=none) (o:Obj):MSn (H0.set i o) (H.set i o) a ps cs st anch M p1 nx:=by
  obtain ⟨h1,h2,h3,h4,h5,p3,c1,b1,c3,b3,t,k1,k2,k3,k4,k5,d1,d2,d3,d4,d5,d6,d7⟩:=h
  have ha:a ≠ i:=ne_of k1 hi
  have he:Ext H (H.set i o):=Ext.new hi o
  have nn:∀ {j},j ≠ i→H0 j=none→(H0.set i o) j=none:=fun hj h=>by rw [Heap.set_ne _ _ hj]; exact h
  have n1:b1 ≠ i:=fun e=>(k3.known blk1) (e ▸ hi)
  have n3:b3 ≠ i:=fun e=>(k5.known blk1) (e ▸ hi)
  have np1:∀ j,blk p1 j→j ≠ i:=fun j hj e=>(k2.known hj) (e ▸ hi)
  have np3:∀ j,blk p3 j→j ≠ i:=fun j hj e=>(k4.known hj) (e ▸ hi)
  refine ⟨fun j x hj=>?_,nn ha h2,h3.ext (Ext.new (h1.free hi) o),h4,h5,p3,c1,b1,c3,b3,t,he _ _ k1,k2.ext he,k3.ext he,k4.ext he,k5.ext he,d1,d2,d3,nn n1 d4,nn n3 d5,fun j hj=>?_,fun j hj=>?_⟩
  · by_cases e:j=i
    · subst e; rw [Heap.set_self] at hj ⊢; exact hj
    · rw [Heap.set_ne _ _ e] at hj ⊢; exact h1 j x hj
  · obtain ⟨e1,e2,e3,e4,e5⟩:=d6 j hj
    exact ⟨e1,e2,e3,e4,nn (np1 j hj) e5⟩
  · obtain ⟨e1,e2,e3,e4⟩:=d7 j hj
    exact ⟨e1,e2,e3,nn (np3 j hj) e4⟩
theorem MSn.ext {H':Heap} {p1:OA} {nx:List Nat} (h:MSn H0 H a ps cs st anch M p1 nx) (he:Ext H H'):MSn H0 H' a ps cs st anch M p1 nx:=by
  obtain ⟨h1,h2,h3,h4,h5,p3,c1,b1,c3,b3,t,k1,k2,k3,k4,k5,kk⟩:=h
  exact ⟨h1.trans he,h2,h3,h4,h5,p3,c1,b1,c3,b3,t,he _ _ k1,k2.ext he,k3.ext he,k4.ext he,k5.ext he,kk⟩
theorem MSn.old {i:Nat} {o:Obj} {p1:OA} {nx:List Nat} (hv:Vec H0 7 ps st.length cs (flat st)) (hi:H0 i=none) (h:MSn (H0.set i o) H a ps cs st anch M p1 nx):MSn H0 H a ps cs st anch M p1 nx:=by
  obtain ⟨h1,h2,h3,h4,h5,p3,c1,b1,c3,b3,t,k1,k2,k3,k4,k5,d1,d2,d3,d4,d5,d6,d7⟩:=h
  have hl:∀ j,(H0.set i o) j=none→H0 j=none:=fun j hj=>by
    by_cases e:j=i
    · subst e; exact hi
    · rwa [Heap.set_ne _ _ e] at hj
  exact ⟨h1.of_set hi,hl _ h2,hv,h4,h5,p3,c1,b1,c3,b3,t,k1,k2,k3,k4,k5,d1,d2,d3,hl _ d4,hl _ d5,fun j hj=>⟨(d6 j hj).1,(d6 j hj).2.1,(d6 j hj).2.2.1,(d6 j hj).2.2.2.1,hl _ (d6 j hj).2.2.2.2⟩,
    fun j hj=>⟨(d7 j hj).1,(d7 j hj).2.1,(d7 j hj).2.2.1,hl _ (d7 j hj).2.2.2⟩⟩
theorem MSt.wrS {o:Nat} {v:Value} {M':Ma} {K:Heap→Prop} (h:MSt H0 H a ps cs st anch M) (ho:o < 9) (hv:oneC v=true) (hnow:M'.now=M.now)
    (hm:∀ p1 l1 c1 b1 p3 l3 c3 b3,over (MC ps st.length cs p1 l1 c1 b1 p3 l3 c3 b3 anch M.bol M.at_ M.found) o [v]=MC ps st.length cs p1 l1 c1 b1 p3 l3 c3 b3 anch M'.bol M'.at_ M'.found)
    (hk:∀ H',MSt H0 H' a ps cs st anch M'→K H'):wr ⟨a,o,none⟩ [v] H K:=by
  obtain ⟨h1,h2,h3,h4,p1,p3,c1,b1,l3,c3,b3,t,xs,ys,k1,k2,k3,k4,k5,d1,d2,d3,d4,d5,d6,d7⟩:=h
  refine wr_new k1 (show o+1≤9 by omega) (by simp [hv]) (hm _ _ _ _ _ _ _ _) fun H2 hc2 hb2=>?_
  have q2:Vec H2 1 p1 M.now.length c1 (M.now.map natV):=k2.keep fun j hj _=>hb2 j (d6 j hj).1
  have q3:Vec H2 1 (some ⟨b1,0,none⟩) st.length st.length (mkV st.length M.now):=k3.keep fun j hj _=>by obtain ⟨x,hx,rfl⟩:=hj; cases hx; exact hb2 b1 d1
  have q4:Vec H2 1 p3 l3 c3 xs:=k4.keep fun j hj _=>hb2 j (d7 j hj).1
  have q5:Vec H2 1 (some ⟨b3,0,none⟩) st.length st.length ys:=k5.keep fun j hj _=>by obtain ⟨x,hx,rfl⟩:=hj; cases hx; exact hb2 b3 d2
  rw [← hnow] at q2 q3 h4 hc2
  refine hk H2 ⟨fun j o hj=>?_,h2,h3,h4,p1,p3,c1,b1,l3,c3,b3,t,xs,ys,hc2,q2,q3,q4,q5,d1,d2,d3,d4,d5,d6,d7⟩
  rw [hb2 j (fun e=>by rw [e,h2] at hj; cases hj)]; exact h1 j o hj
end
end Go.Proofs.Ytaffcoiomggpfaa
/- Contracts of package auto (6): Read,Matched,Feed,Found,Start. -/
namespace Go.Proofs.Ytaffcoiomggpfaa
open Go.V
attribute [local irreducible] app
set_option linter.constructorNameAsVariable false
set_option linter.unusedVariables false
def Nd.set (x:Nd):S4:=⟨x.a,x.b,x.c,x.d⟩
def readL (st:List Nd) (b:Nat) (l:List Nat):List Nat :=
  l.foldl (fun acc i=>if (st.getD i default).k=1∧(st.getD i default).set.has b=true then addL acc (st.getD i default).l.toNat else acc) []
def Ma.read (st:List Nd) (anch:Bool) (M:Ma) (b:Nat):Ma :=
  { M with now:=(spread st (decide (b=10)) false (if anch=true then readL st b M.now else addL (readL st b M.now) 0)).1,bol:=decide (b=10),at_:=M.at_+1 }
def Ma.matched (st:List Nd) (M:Ma):Ma :=
  if M.found < 0 then { M with now:=(spread st M.bol false M.now).1,found:=if (spread st M.bol false M.now).2=true then M.at_ else M.found } else M
def feedL (st:List Nd) (anch:Bool):List Nat→Ma→Ma
  | [],M=>M
  | c :: l,M =>
    if 0≤(M.matched st).found then M.matched st
    else if c=10 then
      let s:=spread st (M.matched st).bol true (M.matched st).now
      if s.2=true then { M.matched st with now:=s.1,found:=(M.matched st).at_+1 }
      else feedL st anch l (Ma.read st anch { M.matched st with now:=s.1 } c)
    else feedL st anch l (Ma.read st anch (M.matched st) c)
def feed (st:List Nd) (anch:Bool) (l:List Nat) (M:Ma):Ma:=(feedL st anch l M).matched st
def startM (st:List Nd) (bol:Bool):Ma:={ now:=(spread st bol false [0]).1,bol:=bol,at_:=0,found:=-1 }
theorem readL_ok {st:List Nd} (hr:InR st) (b:Nat) (l:List Nat) (hl:∀ i ∈ l,i < st.length):∀ acc,OkL st.length acc →
    OkL st.length (l.foldl (fun acc i=>if (st.getD i default).k=1∧(st.getD i default).set.has b=true then addL acc (st.getD i default).l.toNat else acc) acc):=by
  induction l with
  | nil=>intro acc h; exact h
  | cons i l ih =>
    intro acc h
    rw [List.foldl_cons]
    refine ih (fun j hj=>hl j (by simp [hj])) _ ?_
    have:=hr.at (getD_some (hl i (by simp)))
    split
    · exact h.add (by omega)
    · exact h
theorem byte_is (b:Nat):((b:Int) == 10)=decide (b=10):=by
  by_cases h:b=10
  · subst h; rfl
  · rw [decide_eq_false h]
    have:¬ ((b:Int)=10):=by omega
    simpa using this
section
variable {H0 H:Heap} {a cs:Nat} {ps:OA} {st:List Nd} {anch:Bool} {M:Ma} {Q:QT} {E:ET}
set_option maxHeartbeats 1000000 in
theorem read_c {b:Nat} (h:MSt H0 H a ps cs st anch M) (hr:InR st) (hpos:0 < st.length) (hn:st.length≤100000) (hb:b≤255) (hat:M.at_≤1099511627776)
    (hk:∀ H',MSt H0 H' a ps cs st anch (M.read st anch b)→Q (.tuple #[]) H'):Does Pr 59 #[.pointer (some ⟨a,0,none⟩),.int .u8 (b:Nat)] H Q E:=by
  refine zqf1_fn _ _ Q E H ?_
  have hvs:=h.2.2.1
  unfold zqf1
  simp only [ptr_some,add_at,Nat.zero_add]
  refine clear_c h fun H1 p1 h1=>?_
  unfold zqf1_39
  simp only [ptr_some,add_at,Nat.zero_add]
  obtain ⟨_,_,_,hok,_,p3,c1,b1,c3,b3,t,k1,k2,_⟩:=id h1
  refine ldSl_at (p:=p1) (l:=M.now.length) (m:=c1) k1 rfl ?_
  unfold zqf1_36
  refine ⟨fun x H'=>∃ k:Nat,x=(k:Nat)∧k≤M.now.length∧MSn H0 H' a ps cs st anch M p1 (readL st b (M.now.take k)),fun x _=>(M.now.length - x).toNat,⟨0,rfl,by omega,by simpa [readL] using h1⟩,?_⟩
  rintro x H2 ⟨k,rfl,hkl,h2⟩
  unfold zqf1_33 zqf1_30
  refine sel_dec (fun hlt=>?_) (fun hge=>?_)
  · have hlt:k < M.now.length:=by omega
    obtain ⟨_,_,_,_,_,p3',c1',b1',c3',b3',t',k1',k2',_⟩:=id h2
    have hmem:M.now[k]?=some (M.now.getD k 0):=by rw [List.getD_eq_getElem?_getD,List.getElem?_eq_getElem hlt]; rfl
    have hsl:M.now.getD k 0 < st.length:=hok.2 _ (List.mem_iff_getElem?.2 ⟨k,hmem⟩)
    have hstep:readL st b (M.now.take (k+1))=if (st.getD (M.now.getD k 0) default).k=1∧(st.getD (M.now.getD k 0) default).set.has b=true then addL (readL st b (M.now.take k)) (st.getD (M.now.getD k 0) default).l.toNat else readL st b (M.now.take k):=by
      unfold readL
      rw [List.take_add_one,hmem]
      simp only [Option.toList_some,List.foldl_append,List.foldl_cons,List.foldl_nil]
    generalize hj:M.now.getD k 0=j at hmem hsl hstep
    have hx:=getD_some hsl
    have hbd:=hr.at hx
    generalize st.getD j default=x at hx hbd hstep
    unfold zqf1_25
    obtain ⟨bb,tt,cc,rfl,hbb,hcc⟩:=vec_at1 k2' (n:=k) (v:=natV j) (by simp [hmem])
    simp only [ptr_some,add_at,Int.toNat_natCast,Nat.mul_one,Nat.zero_add]
    refine ⟨⟨by omega,by omega⟩,ldI_at (n:=(j:Nat)) hbb hcc ?_⟩
    unfold zqf1_22
    simp only [ptr_some]
    refine ldSl_at (p:=ps) (l:=st.length) (m:=cs) k1' rfl ⟨⟨by omega,by omega⟩,?_⟩
    obtain ⟨sa,rfl,hrd⟩:=vec_at7 (hvs.ext h2.1) hx
    simp only [ptr_some,Int.toNat_natCast]
    refine ⟨x.k,x.l,x.r,x.a,x.b,x.c,x.d,hrd,?_⟩
    refine nw_ext fun q H3 hq3 he3 hc3=>?_
    refine wr_new hc3 (by simp) rfl (c':=x.cells.toArray) rfl fun H4 hc4 hb4=>?_
    have hq0:H0 q=none:=h2.1.free hq3
    have h4:MSn (H0.set q (.cells x.cells.toArray 91 (0,0))) H4 a (some sa) cs st anch M (some ⟨bb,0,none⟩) (readL st b (M.now.take k)):=by
      refine (h2.new hq3 (.cells x.cells.toArray 91 (0,0))).ext fun y o hy=>?_
      by_cases e:y=q
      · subst e; rw [Heap.set_self] at hy; rw [hc4]; exact hy
      · rw [Heap.set_ne _ _ e] at hy; rw [hb4 y e]; exact he3 y o hy
    have hw:IntKind.wrap .i64 ((k:Int)+1)=((k+1:Nat):Int):=by have:=hok.len; rw [IntWalk.i64_in _ (by omega)]; omega
    have nx:∀ (H':Heap),MSn (H0.set q (.cells x.cells.toArray 91 (0,0))) H' a (some sa) cs st anch M (some ⟨bb,0,none⟩) (readL st b (M.now.take (k+1))) →
        (∃ k':Nat,IntKind.wrap .i64 ((k:Int)+1)=(k':Nat)∧k'≤M.now.length∧MSn H0 H' a (some sa) cs st anch M (some ⟨bb,0,none⟩) (readL st b (M.now.take k')))∧(M.now.length - IntKind.wrap .i64 ((k:Int)+1)).toNat < (M.now.length - (k:Nat):Int).toNat:=by
      intro H' h'
      rw [hw]
      exact ⟨⟨k+1,rfl,by omega,h'.old hvs hq0⟩,by omega⟩
    unfold zqf1_19
    simp only [ptr_some]
    refine ldI_at (n:=x.k) hc4 rfl (sel_beq (fun ck=>?_) (fun ck=>?_))
    · have hx8:IntKind.wrap .u8 (Int.tdiv (b:Int) 64)=((b / 64:Nat):Int):=u8_nat (b / 64) (by omega)
      have hm:Int.tmod (b:Int) 64=((b % 64:Nat):Int):=rfl
      have h4':b / 64 < 4:=by omega
      rw [hx8,hm]
      simp only [add_at,Int.toNat_natCast,Nat.mul_one,Nat.zero_add]
      have hcell:x.cells.toArray[3+b / 64]?=some (.int .u64 (x.set.get (b / 64))):=by
        match b / 64,h4' with
        | 0,_=>rfl
        | 1,_=>rfl
        | 2,_=>rfl
        | 3,_=>rfl
      refine ⟨by decide,⟨by omega,by omega⟩,ldI_at hc4 hcell ⟨by decide,by omega,?_⟩⟩
      have hhas:((IntKind.wrap .u64 (BitVec.ofInt (IntKind.bits .u64) (Int.fdiv (x.set.get (b / 64)) (2 ^ min (b % 64) (IntKind.bits .u64))) &&& BitVec.ofInt (IntKind.bits .u64) 1).toNat:Int) == 1)=x.set.has b:=rfl
      rw [hhas]
      unfold zqf1_17
      refine sel_mk (fun hh=>?_) (fun hh=>?_)
      · rw [if_pos ⟨ck,hh⟩] at hstep
        simp only [ptr_some,add_at,Nat.zero_add]
        refine ldI_at (n:=x.l) hc4 rfl ?_
        have el:x.l=((x.l.toNat:Nat):Int):=by omega
        rw [el]
        refine xadd_c h4 (by omega) hn fun H5 h5=>?_
        unfold zqf1_15
        rw [← hstep] at h5
        exact nx H5 h5
      · rw [if_neg (fun h=>by rw [hh] at h; cases h.2)] at hstep
        unfold zqf1_15
        rw [← hstep] at h4
        exact nx H4 h4
    · rw [if_neg (fun h=>ck h.1)] at hstep
      unfold zqf1_17
      refine sel_ff ?_
      unfold zqf1_15
      rw [← hstep] at h4
      exact nx H4 h4
  · obtain rfl:k=M.now.length:=by omega
    rw [List.take_length] at h2
    clear h h1 k1 k2
    obtain ⟨h1,h2,h3,h4,h5,p3,c1,b1,c3,b3,t,k1,k2,k3,k4,k5,d1,d2,d3,d4,d5,d6,d7⟩:=h2
    unfold zqf1_12
    simp only [ptr_some,add_at,Nat.zero_add]
    refine ⟨p3,(readL st b M.now).length,c3,some ⟨b3,0,none⟩,st.length,st.length,rd_at k1 _ 3 0 (fun j hj=>by
      match j,hj with
      | 0,_=>rfl
      | 1,_=>rfl),p1,M.now.length,c1,some ⟨b1,0,none⟩,st.length,st.length,rd_at k1 _ 1 0 (fun j hj=>by
      match j,hj with
      | 0,_=>rfl
      | 1,_=>rfl),?_⟩
    refine wr_new k1 (show 1+2≤9 by decide) rfl (c':=#[.slice ps st.length cs,.slice p3 (readL st b M.now).length c3,.slice (some ⟨b3,0,none⟩) st.length st.length,.slice p3 (readL st b M.now).length c3,.slice (some ⟨b3,0,none⟩) st.length st.length,.bool anch,.bool M.bol,.int .i64 M.at_,.int .i64 M.found]) rfl fun H3 hc3 hb3=>?_
    refine wr_new hc3 (show 3+2≤9 by decide) rfl (c':=MC ps st.length cs p3 (readL st b M.now).length c3 b3 p1 M.now.length c1 b1 anch M.bol M.at_ M.found) rfl fun H4 hc4 hb4=>?_
    have e4:∀ j,j ≠ a→H4 j=H2 j:=fun j hj=>by rw [hb4 j hj,hb3 j hj]
    have m4:MSt H0 H4 a ps cs st anch { M with now:=readL st b M.now }:=by
      refine ⟨fun j o hj=>?_,h2,h3,h5,p3,p1,c3,b3,M.now.length,c1,b1,t,M.now.map natV,mkV st.length M.now,hc4,k4.keep fun j hj _=>e4 j (d7 j hj).1,k5.keep fun j hj _=>?_,k2.keep fun j hj _=>e4 j (d6 j hj).1,k3.keep fun j hj _=>?_,d2,d1,Ne.symm d3,d5,d4,fun j hj=>?_,fun j hj=>?_⟩
      · rw [e4 j (fun e=>by rw [e,h2] at hj; cases hj)]; exact h1 j o hj
      · obtain ⟨x,hx,rfl⟩:=hj; cases hx; exact e4 b3 d2
      · obtain ⟨x,hx,rfl⟩:=hj; cases hx; exact e4 b1 d1
      · obtain ⟨x1,x2,x3,x4⟩:=d7 j hj
        exact ⟨x1,x3,x2,fun hb=>(d6 j hb).2.2.2.1 hj,x4⟩
      · obtain ⟨x1,x2,x3,x4,x5⟩:=d6 j hj
        exact ⟨x1,x3,x2,x5⟩
    unfold zqf1_9
    simp only [ptr_some,add_at,Nat.zero_add]
    refine m4.ldAtM ?_
    have hw:IntKind.wrap .i64 (((M.at_:Nat):Int)+1)=((M.at_+1:Nat):Int):=by rw [IntWalk.i64_in _ (by omega)]; omega
    dsimp only
    rw [hw]
    refine m4.wrS (M':={ M with now:=readL st b M.now,at_:=M.at_+1 }) (by decide) rfl rfl (fun _ _ _ _ _ _ _ _=>rfl) fun H5 m5=>?_
    unfold zqf1_6
    simp only [ptr_some,add_at,Nat.zero_add]
    rw [byte_is]
    refine m5.wrS (M':={ M with now:=readL st b M.now,at_:=M.at_+1,bol:=decide (b=10) }) (by decide) rfl rfl (fun _ _ _ _ _ _ _ _=>rfl) fun H6 m6=>?_
    unfold zqf1_3
    simp only [ptr_some,add_at,Nat.zero_add]
    refine m6.ldAnch ?_
    cases anch with
    | true =>
      refine sel_ff ?_
      unfold zqf1_1
      exact spread_c m6 hr hn fun H7 m7=>⟨_,rfl,hk H7 m7⟩
    | false =>
      refine sel_tt ?_
      refine nadd_c m6 hpos hn fun H7 m7=>?_
      unfold zqf1_1
      exact spread_c m7 hr hn fun H8 m8=>⟨_,rfl,hk H8 m8⟩
theorem matched_c (h:MSt H0 H a ps cs st anch M) (hr:InR st) (hn:st.length≤100000)
    (hk:∀ H',MSt H0 H' a ps cs st anch (M.matched st)→Q (.bool (decide (0≤(M.matched st).found))) H'):Does Pr 79 #[.pointer (some ⟨a,0,none⟩)] H Q E:=by
  refine zqg1_fn _ Q E H ?_
  unfold zqg1 zqg1_5
  simp only [ptr_some,add_at,Nat.zero_add]
  have fin:∀ (H':Heap),MSt H0 H' a ps cs st anch (M.matched st)→zqg1_1 Q E (some ⟨a,0,none⟩) H':=fun H' h'=>by
    unfold zqg1_1
    simp only [ptr_some,add_at,Nat.zero_add]
    exact h'.ldFound (hk H' h')
  refine h.ldFound (sel_dec (fun hf=>?_) (fun hf=>?_))
  · have hm:M.matched st={ M with now:=(spread st M.bol false M.now).1,found:=if (spread st M.bol false M.now).2=true then M.at_ else M.found }:=if_pos hf
    refine spread_c h hr hn fun H1 h1=>⟨_,rfl,?_⟩
    unfold zqg1_3
    refine sel_mk (fun hs=>?_) (fun hs=>?_)
    · simp only [ptr_some,add_at,Nat.zero_add]
      refine h1.ldAtM ?_
      refine h1.wrS (M':=M.matched st) (by decide) rfl (by rw [hm]) (fun _ _ _ _ _ _ _ _=>by rw [hm,if_pos hs]; rfl) fun H2 h2=>fin H2 h2
    · refine fin H1 ?_
      rw [hm,if_neg (by simp [hs])]; exact h1
  · have hm:M.matched st=M:=if_neg hf
    unfold zqg1_3
    refine sel_ff (fin H (by rw [hm]; exact h))
theorem found_c (h:MSt H0 H a ps cs st anch M) (hr:InR st) (hn:st.length≤100000)
    (hk:∀ H',MSt H0 H' a ps cs st anch (M.matched st)→Q (.int .i64 (M.matched st).found) H'):Does Pr 53 #[.pointer (some ⟨a,0,none⟩)] H Q E:=by
  refine zqe1_fn _ Q E H ?_
  unfold zqe1
  refine matched_c h hr hn fun H1 h1=>⟨_,rfl,?_⟩
  simp only [ptr_some,add_at,Nat.zero_add]
  exact h1.ldFound (hk H1 h1)
theorem Ma.matched_at (st:List Nd) (M:Ma):(M.matched st).at_=M.at_∧(M.matched st).bol=M.bol:=by unfold Ma.matched; split <;> exact ⟨rfl,rfl⟩
theorem feed_c {p:OA} {n c:Nat} {bs:List UInt8} (h:MSt H0 H a ps cs st anch M) (hr:InR st) (hpos:0 < st.length) (hn:st.length≤100000) (hb:bs.length=n) (hrd:H0.rdS p (bs.map byteV))
    (hsz:M.at_+bs.length≤1099511627776) (hk:∀ H',MSt H0 H' a ps cs st anch (feed st anch (bs.map UInt8.toNat) M)→Q (.bool (decide (0≤(feed st anch (bs.map UInt8.toNat) M).found))) H') :
    Does Pr 52 #[.pointer (some ⟨a,0,none⟩),.slice p n c] H Q E:=by
  refine zqd1_fn _ _ _ _ Q E H ?_
  subst hb
  have fin:∀ (M':Ma) (H':Heap),feed st anch (bs.map UInt8.toNat) M=M'.matched st→MSt H0 H' a ps cs st anch M'→zqd1_1 Q E (some ⟨a,0,none⟩) H':=fun M' H' hm h'=>by
    unfold zqd1_1
    rw [hm] at hk
    exact matched_c h' hr hn fun H2 h2=>⟨_,rfl,hk H2 h2⟩
  unfold zqd1 zqd1_30 zqd1_27
  refine ⟨fun x H'=>∃ (k:Nat) (M':Ma),x=(k:Nat)∧k≤bs.length∧feedL st anch ((bs.drop k).map UInt8.toNat) M'=feedL st anch (bs.map UInt8.toNat) M∧M'.at_=M.at_+k∧MSt H0 H' a ps cs st anch M',
    fun x _=>(bs.length - x).toNat,⟨0,M,rfl,by omega,by simp,by omega,h⟩,?_⟩
  rintro x H1 ⟨k,M',rfl,hkl,hs,hat,h1⟩
  unfold zqd1_24 zqd1_21
  refine sel_dec (fun hlt=>?_) (fun hge=>?_)
  · have hlt:k < bs.length:=by omega
    have hbk:bs[k]?=some (bs[k]):=List.getElem?_eq_getElem hlt
    rw [List.drop_eq_getElem_cons hlt] at hs
    generalize bs[k]=w at hbk hs
    simp only [List.map_cons,feedL] at hs
    unfold zqd1_16
    cases p with
    | none =>
      have:bs.map byteV=[]:=hrd
      simp at this; subst this; simp at hlt
    | some ad =>
      have hc:H1.cell? (ad.add (0+k))=some (byteV w):=rd_get (rd_ext h1.1 hrd) (by simp [hbk])
      rw [Nat.zero_add] at hc
      simp only [ptr_some,Int.toNat_natCast,Nat.mul_one]
      refine ⟨⟨by omega,by omega⟩,(w.toNat:Nat),hc,?_⟩
      have hw255:w.toNat≤255:=by have:=w.toNat_lt; omega
      unfold zqd1_13
      refine matched_c h1 hr hn fun H2 h2=>⟨_,rfl,?_⟩
      have hma:=(M'.matched_at st).1
      refine sel_dec (fun hf=>?_) (fun hf=>?_)
      · rw [if_pos hf] at hs
        refine fin _ H2 ?_ h2
        unfold feed; rw [← hs]
      · rw [if_neg hf] at hs
        have rd:∀ (M2:Ma) (H3:Heap),feedL st anch ((bs.drop (k+1)).map UInt8.toNat) (Ma.read st anch M2 w.toNat)=feedL st anch (bs.map UInt8.toNat) M→M2.at_=M.at_+k→MSt H0 H3 a ps cs st anch M2 →
            zqd1_5 (fun x H'=>(∃ (k:Nat) (M':Ma),x=(k:Nat)∧k≤bs.length∧feedL st anch ((bs.drop k).map UInt8.toNat) M'=feedL st anch (bs.map UInt8.toNat) M∧M'.at_=M.at_+k∧MSt H0 H' a ps cs st anch M')∧(bs.length - x).toNat < (bs.length - (k:Nat):Int).toNat)
              Q E (some ⟨a,0,none⟩) (w.toNat:Nat) (some ad) bs.length c ((bs.length:Nat):Int) (k:Nat) H3:=by
          intro M2 H3 hs2 hat2 h3
          unfold zqd1_5
          refine read_c h3 hr hpos hn hw255 (by omega) fun H4 h4=>?_
          unfold zqd1_3
          have hw:IntKind.wrap .i64 ((k:Int)+1)=((k+1:Nat):Int):=by rw [IntWalk.i64_in _ (by omega)]; omega
          rw [hw]
          exact ⟨⟨k+1,_,rfl,by omega,hs2,by show M2.at_+1=_; omega,h4⟩,by omega⟩
        unfold zqd1_9
        rw [byte_is]
        refine sel_dec (fun h10=>?_) (fun h10=>?_)
        · rw [if_pos h10] at hs
          refine spread_c h2 hr hn fun H3 h3=>⟨_,rfl,?_⟩
          unfold zqd1_7
          refine sel_mk (fun hsp=>?_) (fun hsp=>?_)
          · rw [if_pos hsp] at hs
            simp only [ptr_some,add_at,Nat.zero_add]
            refine h3.ldAtM ?_
            have hw:IntKind.wrap .i64 ((((M'.matched st).at_:Nat):Int)+1)=(((M'.matched st).at_:Nat):Int)+1:=by rw [IntWalk.i64_in _ (by omega)]
            dsimp only
            rw [hw]
            refine h3.wrS (M':={ M'.matched st with now:=(spread st (M'.matched st).bol true (M'.matched st).now).1,found:=(((M'.matched st).at_:Nat):Int)+1 }) (by decide) rfl rfl (fun _ _ _ _ _ _ _ _=>rfl) fun H4 h4=>?_
            refine fin _ H4 ?_ h4
            unfold feed; rw [← hs]
          · rw [if_neg (by simp [hsp])] at hs
            exact rd _ H3 hs (by rw [← hat]; exact hma) h3
        · rw [if_neg h10] at hs
          unfold zqd1_7
          exact sel_ff (rd _ H2 hs (by rw [← hat]; exact hma) h2)
  · obtain rfl:k=bs.length:=by omega
    rw [List.drop_length] at hs
    refine fin M' H1 ?_ h1
    unfold feed; rw [← hs]; rfl
end
section
variable {H:Heap} {cs:Nat} {ps:OA} {st:List Nd} {anch bol:Bool} {Q:QT} {E:ET}
theorem start_c (hv:Vec H 7 ps st.length cs (flat st)) (hr:InR st) (hpos:0 < st.length) (hn:st.length≤100000)
    (hk:∀ a H',MSt H H' a ps cs st anch (startM st bol)→Q (.pointer (some ⟨a,0,none⟩)) H'):Does Pr 50 #[.slice ps st.length cs,.bool anch,.bool bol] H Q E:=by
  refine zqb1_fn _ _ _ _ _ Q E H ?_
  unfold zqb1
  simp only [Int.toNat_natCast]
  refine ⟨⟨by omega,by omega,by omega,by omega⟩,?_⟩
  refine nw_ext fun b1 H1 hb1 he1 hc1=>⟨⟨by omega,by omega,by omega,by omega⟩,?_⟩
  refine nw_ext fun b3 H2 hb3 he2 hc2=>?_
  refine nw_ext fun a H3 ha he3 hc3=>?_
  rw [rep_one,← mkV_nil] at hc1 hc2
  have n13:b1 ≠ b3:=ne_of hc1 hb3
  have n1a:b1 ≠ a:=ne_of (he2 _ _ hc1) ha
  have n3a:b3 ≠ a:=ne_of hc2 ha
  have mk:∀ (b:Nat),H3 b=some (.cells (mkV st.length []).toArray 4 (0,0))→Vec H3 1 (some ⟨b,0,none⟩) st.length st.length (mkV st.length []):=fun b hb =>
    ⟨by rw [mkV_length]; omega,Nat.le_refl _,b,_,4,rfl,hb,by simp [mkV_length],fun j hj=>by simp⟩
  have m3:MSt H H3 a ps cs st anch ⟨[],bol,0,-1⟩:=by
    refine ⟨(he1.trans he2).trans he3,(he1.trans he2).free ha,hv,OkL.nil _,none,none,0,b1,0,0,b3,127,[],mkV st.length [],hc3,Vec.nil _ 1,mk b1 (he3 _ _ (he2 _ _ hc1)),Vec.nil _ 1,mk b3 (he3 _ _ hc2),n1a,n3a,n13,hb1,he1.free hb3,fun j hj=>?_,fun j hj=>?_⟩
    · obtain ⟨x,hx,_⟩:=hj; cases hx
    · obtain ⟨x,hx,_⟩:=hj; cases hx
  refine nadd_c (i:=0) m3 hpos hn fun H4 m4=>?_
  refine spread_c m4 hr hn fun H5 m5=>⟨_,rfl,?_⟩
  exact hk a H5 m5
end
end Go.Proofs.Ytaffcoiomggpfaa
