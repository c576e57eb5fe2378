import Derived.Test.YtaffcoiomggpfaaVAuto6
import Derived.Test.YtaffcoiomggpfaaVNode
import Derived.Test.YtaffcoiomggpfaaFregex
/- Plain laws of the machine: spread is a closure; what was found stays found. -/
namespace Go.Proofs.Ytaffcoiomggpfaa
open Go.V
set_option linter.constructorNameAsVariable false
set_option linter.unusedVariables false
def goes (st:List Nd) (bol eol:Bool) (j:Nat):List Nat :=
  if (st.getD j default).k=2 then [(st.getD j default).r.toNat,(st.getD j default).l.toNat]
  else if ((st.getD j default).k=3∧bol=true)∨((st.getD j default).k=4∧eol=true) then [(st.getD j default).l.toNat]
  else []
def isM (st:List Nd) (j:Nat):Bool:=decide ((st.getD j default).k=5)
theorem spreadL_step (st:List Nd) (bol eol:Bool) (f i:Nat) (m:Bool) (l:List Nat) :
    spreadL st bol eol (f+1) i m l=if i < l.length then spreadL st bol eol f (i+1) (m || isM st (l.getD i 0)) ((goes st bol eol (l.getD i 0)).foldl addL l) else (l,m):=by
  conv=>lhs; unfold spreadL
  split
  · dsimp only
    unfold goes isM
    generalize st.getD (l.getD i 0) default=x
    by_cases h2:x.k=2
    · rw [if_pos h2,if_pos h2]
      have:decide (x.k=5)=false:=decide_eq_false (by omega)
      rw [this]; simp
    · rw [if_neg h2,if_neg h2]
      by_cases h3:(x.k=3∧bol=true)∨(x.k=4∧eol=true)
      · rw [if_pos h3,if_pos h3]
        have:decide (x.k=5)=false:=decide_eq_false (by omega)
        rw [this]; simp
      · rw [if_neg h3,if_neg h3]
        by_cases h5:x.k=5
        · rw [if_pos h5,decide_eq_true h5]; simp
        · rw [if_neg h5,decide_eq_false h5]; simp
  · rfl
theorem mem_addL {l:List Nat} {i j:Nat}:j ∈ addL l i↔j ∈ l∨j=i:=by
  unfold addL
  split
  · rename_i h
    exact ⟨.inl,fun h'=>h'.elim id (fun e=>e ▸ h)⟩
  · simp
theorem addL_pre (l:List Nat) (i:Nat):∃ r,addL l i=l++r:=by
  unfold addL
  split
  · exact ⟨[],by simp⟩
  · exact ⟨[i],rfl⟩
theorem foldl_addL:∀ (s l:List Nat),(∃ r,s.foldl addL l=l++r)∧∀ j,j ∈ s.foldl addL l↔j ∈ l∨j ∈ s
  | [],l=>⟨⟨[],by simp⟩,by simp⟩
  | x :: s,l=>by
    obtain ⟨⟨r,h1⟩,h2⟩:=foldl_addL s (addL l x)
    obtain ⟨r0,h0⟩:=addL_pre l x
    refine ⟨⟨r0++r,by rw [List.foldl_cons,h1,h0,List.append_assoc]⟩,fun j=>?_⟩
    rw [List.foldl_cons,h2 j,mem_addL,List.mem_cons]
    exact or_assoc
theorem goes_lt {st:List Nd} (hr:InR st) {bol eol:Bool} {j s:Nat} (hj:j < st.length) (hs:s ∈ goes st bol eol j):s < st.length:=by
  have:=hr.at (getD_some hj)
  unfold goes at hs
  generalize st.getD j default=x at this hs
  split at hs
  · simp at hs; omega
  · split at hs
    · simp at hs; omega
    · simp at hs
theorem OkL.fold {st:List Nd}:∀ (s l:List Nat),OkL st.length l→(∀ j ∈ s,j < st.length)→OkL st.length (s.foldl addL l)
  | [],l,h,_=>h
  | x :: s,l,h,hs=>OkL.fold s (addL l x) (h.add (hs x (by simp))) fun j hj=>hs j (by simp [hj])
theorem spreadL_spec {st:List Nd} (hr:InR st) (bol eol:Bool):∀ (f i:Nat) (m:Bool) (l:List Nat),OkL st.length l→i≤l.length→st.length < f+i →
    (∀ j ∈ l.take i,∀ s ∈ goes st bol eol j,s ∈ l)→m=(l.take i).any (isM st) →
    (∃ r,(spreadL st bol eol f i m l).1=l++r)∧(∀ j ∈ (spreadL st bol eol f i m l).1,∀ s ∈ goes st bol eol j,s ∈ (spreadL st bol eol f i m l).1) ∧
    (spreadL st bol eol f i m l).2=(spreadL st bol eol f i m l).1.any (isM st)
  | 0,i,m,l,ho,hi,hf,_,_=>by have:=ho.len; omega
  | f+1,i,m,l,ho,hi,hf,hc,hm=>by
    rw [spreadL_step]
    split
    · rename_i hlt
      have hget:l[i]?=some (l.getD i 0):=by rw [List.getD_eq_getElem?_getD,List.getElem?_eq_getElem hlt]; rfl
      have htk:l.take (i+1)=l.take i++[l.getD i 0]:=by rw [List.take_add_one,hget]; rfl
      have hjm:l.getD i 0 ∈ l:=List.mem_iff_getElem?.2 ⟨i,hget⟩
      have hjlt:=ho.2 _ hjm
      generalize l.getD i 0=j at hget htk hjm hjlt
      obtain ⟨⟨r,h1⟩,h2⟩:=foldl_addL (goes st bol eol j) l
      have htk2:((goes st bol eol j).foldl addL l).take (i+1)=l.take (i+1):=by rw [h1,List.take_append_of_le_length (by omega)]
      obtain ⟨⟨r2,e1⟩,e2,e3⟩:=spreadL_spec hr bol eol f (i+1) (m || isM st j) ((goes st bol eol j).foldl addL l) (ho.fold _ _ fun s hs=>goes_lt hr hjlt hs) (by rw [h1]; simp; omega) (by omega)
        (fun k hk s hs=>by
          rw [htk2,htk] at hk
          rcases List.mem_append.1 hk with hk | hk
          · exact (h2 s).2 (.inl (hc k hk s hs))
          · simp at hk; subst hk; exact (h2 s).2 (.inr hs))
        (by rw [htk2,htk,List.any_append,← hm]; simp)
      exact ⟨⟨r++r2,by rw [e1,h1,List.append_assoc]⟩,e2,e3⟩
    · have:l.take i=l:=List.take_of_length_le (by omega)
      rw [this] at hc hm
      exact ⟨⟨[],by simp⟩,hc,hm⟩
theorem spreadL_closed {st:List Nd} (bol eol:Bool):∀ (f i:Nat) (m:Bool) (l:List Nat),l.length≤st.length→i≤l.length→st.length < f+i→(∀ j ∈ l,∀ s ∈ goes st bol eol j,s ∈ l) →
    spreadL st bol eol f i m l=(l,m || (l.drop i).any (isM st))
  | 0,i,m,l,hl,hi,hf,_=>by omega
  | f+1,i,m,l,hl,hi,hf,hc=>by
    rw [spreadL_step]
    split
    · rename_i hlt
      have hget:l[i]?=some (l.getD i 0):=by rw [List.getD_eq_getElem?_getD,List.getElem?_eq_getElem hlt]; rfl
      have hjm:l.getD i 0 ∈ l:=List.mem_iff_getElem?.2 ⟨i,hget⟩
      have hdr:l.drop i=l.getD i 0 :: l.drop (i+1):=by
        rw [List.drop_eq_getElem_cons hlt]
        congr 1
        rw [List.getElem?_eq_getElem hlt] at hget
        exact Option.some.inj hget
      generalize l.getD i 0=j at hget hjm hdr
      have hfold:(goes st bol eol j).foldl addL l=l:=by
        have:∀ s:List Nat,(∀ k ∈ s,k ∈ l)→s.foldl addL l=l:=fun s=>by
          induction s with
          | nil=>intro _; rfl
          | cons x s ih =>
            intro hs
            have hx:addL l x=l:=if_pos (hs x (by simp))
            rw [List.foldl_cons,hx]
            exact ih fun k hk=>hs k (by simp [hk])
        exact this _ (hc j hjm)
      rw [hfold,spreadL_closed bol eol f (i+1) _ l hl (by omega) (by omega) hc,hdr]
      simp [Bool.or_assoc]
    · have:l.drop i=[]:=List.drop_eq_nil_of_le (by omega)
      rw [this]; simp
theorem spread_again {st:List Nd} (hr:InR st) (bol eol:Bool) {l:List Nat} (ho:OkL st.length l):spread st bol eol (spread st bol eol l).1=spread st bol eol l:=by
  have h1:=spreadL_spec hr bol eol (st.length+1) 0 false l ho (by omega) (by omega) (by simp) (by simp)
  have h2:=spreadL_ok hr bol eol (st.length+1) 0 false l ho
  change (∃ r,(spread st bol eol l).1=l++r)∧(∀ j ∈ (spread st bol eol l).1,∀ s ∈ goes st bol eol j,s ∈ (spread st bol eol l).1)∧(spread st bol eol l).2=(spread st bol eol l).1.any (isM st) at h1
  change OkL st.length (spread st bol eol l).1 at h2
  have h3:=spreadL_closed bol eol (st.length+1) 0 false (spread st bol eol l).1 h2.len (by omega) (by omega) h1.2.1
  change spread st bol eol (spread st bol eol l).1=_ at h3
  rw [h3,List.drop_zero,Bool.false_or,← h1.2.2]
theorem matched_ok {st:List Nd} (hr:InR st) {M:Ma} (ho:OkL st.length M.now):OkL st.length (M.matched st).now:=by
  unfold Ma.matched
  split
  · exact spreadL_ok hr _ _ _ _ _ _ ho
  · exact ho
theorem matched_again {st:List Nd} (hr:InR st) {M:Ma} (ho:OkL st.length M.now):(M.matched st).matched st=M.matched st:=by
  by_cases hf:M.found < 0
  · have h1:M.matched st={ M with now:=(spread st M.bol false M.now).1,found:=if (spread st M.bol false M.now).2=true then M.at_ else M.found }:=if_pos hf
    rw [h1]
    unfold Ma.matched
    dsimp only
    rw [spread_again hr _ _ ho]
    by_cases hs:(spread st M.bol false M.now).2=true
    · rw [if_pos hs]
      rw [if_neg (by omega)]
    · have hs:(spread st M.bol false M.now).2=false:=by simpa using hs
      simp only [hs,Bool.false_eq_true,if_false]
      rw [if_pos hf]
  · have h1:M.matched st=M:=if_neg hf
    rw [h1,h1]
theorem matched_stop {st:List Nd} {M:Ma} (h:0≤M.found):M.matched st=M:=if_neg (by omega)
theorem read_ok {st:List Nd} (hr:InR st) (hpos:0 < st.length) (anch:Bool) {M:Ma} (b:Nat) (ho:OkL st.length M.now):OkL st.length (Ma.read st anch M b).now:=by
  have h:=readL_ok hr b M.now ho.2 [] (OkL.nil _)
  change OkL st.length (readL st b M.now) at h
  unfold Ma.read
  dsimp only
  refine spreadL_ok hr _ _ _ _ _ _ ?_
  split
  · exact h
  · exact h.add hpos
theorem spread_ok {st:List Nd} (hr:InR st) (bol eol:Bool) {l:List Nat} (ho:OkL st.length l):OkL st.length (spread st bol eol l).1:=spreadL_ok hr _ _ _ _ _ _ ho
theorem feedL_cons (st:List Nd) (anch:Bool) (c:Nat) (l:List Nat) (M:Ma):feedL st anch (c :: l) M =
    if 0≤(M.matched st).found then M.matched st
    else if c=10∧(spread st (M.matched st).bol true (M.matched st).now).2=true then { M.matched st with now:=(spread st (M.matched st).bol true (M.matched st).now).1,found:=(M.matched st).at_+1 }
    else feedL st anch l (Ma.read st anch (if c=10 then { M.matched st with now:=(spread st (M.matched st).bol true (M.matched st).now).1 } else M.matched st) c):=by
  conv=>lhs; unfold feedL
  split
  · rfl
  · by_cases hc:c=10
    · rw [if_pos hc,if_pos hc]
      dsimp only
      by_cases hs:(spread st (M.matched st).bol true (M.matched st).now).2=true
      · rw [if_pos hs,if_pos ⟨hc,hs⟩]
      · rw [if_neg hs,if_neg (fun h=>hs h.2)]
    · rw [if_neg hc,if_neg hc,if_neg (fun h=>hc h.1)]
def stepM (st:List Nd) (anch:Bool) (M:Ma) (c:Nat):Ma:=Ma.read st anch (if c=10 then { M.matched st with now:=(spread st (M.matched st).bol true (M.matched st).now).1 } else M.matched st) c
theorem stepM_facts {st:List Nd} (hr:InR st) (hpos:0 < st.length) (anch:Bool) {M:Ma} (c:Nat) (ho:OkL st.length M.now) :
    OkL st.length (stepM st anch M c).now∧(stepM st anch M c).at_=M.at_+1∧(stepM st anch M c).found=(M.matched st).found:=by
  have hm:=matched_ok hr ho
  have ha:=(M.matched_at st).1
  unfold stepM
  split
  · exact ⟨read_ok hr hpos anch c (spread_ok hr _ _ hm),by show (M.matched st).at_+1=_; rw [ha],rfl⟩
  · exact ⟨read_ok hr hpos anch c hm,by show (M.matched st).at_+1=_; rw [ha],rfl⟩
theorem feedL_ok {st:List Nd} (hr:InR st) (hpos:0 < st.length) (anch:Bool):∀ (t:List Nat) (M:Ma),OkL st.length M.now→OkL st.length (feedL st anch t M).now
  | [],M,h=>h
  | c :: t,M,h=>by
    rw [feedL_cons]
    split
    · exact matched_ok hr h
    · split
      · exact spread_ok hr _ _ (matched_ok hr h)
      · exact feedL_ok hr hpos anch t _ (stepM_facts hr hpos anch c h).1
theorem feedL_append (st:List Nd) (anch:Bool) (u:List Nat):∀ (t:List Nat) (M:Ma),(0≤(feedL st anch t M).found∧feedL st anch (t++u) M=feedL st anch t M)∨feedL st anch (t++u) M=feedL st anch u (feedL st anch t M)
  | [],M=>.inr rfl
  | c :: t,M=>by
    rw [List.cons_append,feedL_cons,feedL_cons]
    split
    · exact .inl ⟨‹_›,rfl⟩
    · split
      · exact .inl ⟨by dsimp only; omega,rfl⟩
      · exact feedL_append st anch u t _
theorem feed_stays {st:List Nd} (hr:InR st) (hpos:0 < st.length) (anch:Bool) {t:List Nat} (u:List Nat) {M:Ma} (ho:OkL st.length M.now) (hf:0≤(feed st anch t M).found) :
    (feed st anch (t++u) M).found=(feed st anch t M).found:=by
  have hok:=feedL_ok hr hpos anch t M ho
  unfold feed at hf ⊢
  rcases feedL_append st anch u t M with ⟨h1,h2⟩ | h
  · rw [h2]
  · rw [h]
    cases u with
    | nil=>rfl
    | cons c u =>
      rw [feedL_cons,if_pos hf,matched_again hr hok]
theorem start_ok {st:List Nd} (hr:InR st) (hpos:0 < st.length) (bol:Bool):OkL st.length (startM st bol).now :=
  spread_ok hr _ _ ⟨by simp,fun i hi=>by simp at hi; omega⟩
end Go.Proofs.Ytaffcoiomggpfaa
/- Plain laws of a matcher that is fed in pieces. -/
namespace Go.Proofs.Ytaffcoiomggpfaa
open Go.V
set_option linter.constructorNameAsVariable false
set_option linter.unusedVariables false
def playL (st:List Nd):List (List UInt8)→Nat→Ma→Int × Int × Int
  | [],i,M=>(i,-1,0)
  | b :: r,i,M=>if 0≤(feed st false (b.map UInt8.toNat) M).found then (i,((feed st false (b.map UInt8.toNat) M).matched st).found,0) else playL st r (i+1) (feed st false (b.map UInt8.toNat) M)
def playSt (st:List Nd) (L:List (List UInt8)):Int × Int × Int :=
  if 0≤((startM st true).matched st).found then (-1,0,0) else playL st L 0 ((startM st true).matched st)
theorem feedL_at (st:List Nd) (anch:Bool):∀ (t:List Nat) (M:Ma),(feedL st anch t M).at_≤M.at_+t.length
  | [],M=>Nat.le_refl _
  | c :: t,M=>by
    rw [feedL_cons]
    have ha:=(M.matched_at st).1
    split
    · rw [ha]; simp
    · split
      · show (M.matched st).at_≤_; rw [ha]; simp
      · have h:=feedL_at st anch t (stepM st anch M c)
        have e:(stepM st anch M c).at_=M.at_+1:=by
          unfold stepM
          split
          · show (M.matched st).at_+1=_; rw [ha]
          · show (M.matched st).at_+1=_; rw [ha]
        rw [e] at h
        simp only [List.length_cons]
        exact Nat.le_trans h (by omega)
theorem feed_at (st:List Nd) (anch:Bool) (t:List Nat) (M:Ma):(feed st anch t M).at_≤M.at_+t.length:=by
  unfold feed
  rw [(Ma.matched_at st _).1]
  exact feedL_at st anch t M
theorem feedL_matched {st:List Nd} (hr:InR st) (anch:Bool) {t:List Nat} {M:Ma} (ho:OkL st.length M.now):feed st anch t (M.matched st)=feed st anch t M:=by
  cases t with
  | nil=>exact matched_again hr ho
  | cons c t =>
    unfold feed
    rw [feedL_cons,feedL_cons,matched_again hr ho]
section
variable {st:List Nd} (hr:InR st) (hpos:0 < st.length)
include hr hpos
theorem feed_ok (anch:Bool) {t:List Nat} {M:Ma} (ho:OkL st.length M.now):OkL st.length (feed st anch t M).now:=matched_ok hr (feedL_ok hr hpos anch t M ho)
theorem feed_append (anch:Bool) {t u:List Nat} {M:Ma} (ho:OkL st.length M.now) (hf:(feed st anch t M).found < 0):feed st anch (t++u) M=feed st anch u (feed st anch t M):=by
  have hok:=feedL_ok hr hpos anch t M ho
  have h1:feed st anch u (feed st anch t M)=feed st anch u (feedL st anch t M):=feedL_matched hr anch hok
  rw [h1]
  rcases feedL_append st anch u t M with ⟨h,_⟩ | h
  · exfalso
    have:feed st anch t M=feedL st anch t M:=matched_stop h
    rw [this] at hf; omega
  · unfold feed; rw [h]
theorem playL_law:∀ (L:List (List UInt8)) (i:Nat) (M:Ma),OkL st.length M.now→M.matched st=M→M.found < 0 →
    ((feed st false (L.flatten.map UInt8.toNat) M).found < 0→playL st L i M=(((i+L.length:Nat):Int),-1,0)) ∧
    (0≤(feed st false (L.flatten.map UInt8.toNat) M).found→∃ j:Nat,j < L.length∧playL st L i M=(((i+j:Nat):Int),(feed st false (L.flatten.map UInt8.toNat) M).found,0) ∧
      (feed st false ((L.take j).flatten.map UInt8.toNat) M).found < 0∧0≤(feed st false ((L.take (j+1)).flatten.map UInt8.toNat) M).found)
  | [],i,M,ho,hm,hn=>by
    refine ⟨fun _=>rfl,fun h=>?_⟩
    have:feed st false (([]:List (List UInt8)).flatten.map UInt8.toNat) M=M:=hm
    rw [this] at h; omega
  | b :: L,i,M,ho,hm,hn=>by
    have hfl:((b :: L).flatten).map UInt8.toNat=b.map UInt8.toNat++L.flatten.map UInt8.toNat:=by simp
    by_cases hf:0≤(feed st false (b.map UInt8.toNat) M).found
    · have hs:=feed_stays hr hpos false (L.flatten.map UInt8.toNat) ho hf
      rw [hfl,hs]
      refine ⟨fun h=>by omega,fun _=>⟨0,by simp,?_,?_,?_⟩⟩
      · unfold playL
        rw [if_pos hf,matched_stop hf]; rfl
      · have:feed st false (((b :: L).take 0).flatten.map UInt8.toNat) M=M:=hm
        rw [this]; exact hn
      · simpa using hf
    · have ha:=feed_append hr hpos false (t:=b.map UInt8.toNat) (u:=L.flatten.map UInt8.toNat) ho (by omega)
      have ho':=feed_ok hr hpos false (t:=b.map UInt8.toNat) ho
      have hm':(feed st false (b.map UInt8.toNat) M).matched st=feed st false (b.map UInt8.toNat) M:=matched_again hr (feedL_ok hr hpos false _ _ ho)
      obtain ⟨ih1,ih2⟩:=playL_law L (i+1) (feed st false (b.map UInt8.toNat) M) ho' hm' (by omega)
      have hp:playL st (b :: L) i M=playL st L (i+1) (feed st false (b.map UInt8.toNat) M):=by
        conv=>lhs; unfold playL
        rw [if_neg hf]
      rw [hfl,ha,hp]
      refine ⟨fun h=>by rw [ih1 h,List.length_cons,show i+1+L.length=i+(L.length+1) by omega],fun h=>?_⟩
      obtain ⟨j,j1,j2,j3,j4⟩:=ih2 h
      refine ⟨j+1,by simp; exact j1,by rw [j2,show i+1+j=i+(j+1) by omega],?_,?_⟩
      · rw [List.take_succ_cons,show ((b :: L.take j).flatten).map UInt8.toNat=b.map UInt8.toNat++(L.take j).flatten.map UInt8.toNat by simp,feed_append hr hpos false ho (by omega)]
        exact j3
      · rw [List.take_succ_cons,show ((b :: L.take (j+1)).flatten).map UInt8.toNat=b.map UInt8.toNat++(L.take (j+1)).flatten.map UInt8.toNat by simp,feed_append hr hpos false ho (by omega)]
        exact j4
end
end Go.Proofs.Ytaffcoiomggpfaa
/- Contracts of package regex (1): the small functions. -/
namespace Go.Proofs.Ytaffcoiomggpfaa
open Go.V
attribute [local irreducible] app
set_option linter.constructorNameAsVariable false
set_option linter.unusedVariables false
structure RP where
  s:ByteArray
  at_:Nat
  op:Nat
  nds:List Nd
  e:Int
def RP.cells (r:RP) (p:OA) (c:Nat):Array Value:=#[.string r.s,.int .i64 r.at_,.int .i64 r.op,.slice p r.nds.length c,.int .i64 r.e]
def RPs (H0 H:Heap) (b:Nat) (r:RP):Prop :=
  Ext H0 H∧H0 b=none∧r.at_≤r.s.size∧r.s.size≤4096 ∧
  ∃ p c t,H b=some (.cells (r.cells p c) t (0,0))∧Vec H 7 p r.nds.length c (flat r.nds)∧∀ i,blk p i→H0 i=none∧i ≠ b
theorem RPs.ext {H0 H H':Heap} {b:Nat} {r:RP} (h:RPs H0 H b r) (he:Ext H H'):RPs H0 H' b r:=by
  obtain ⟨h1,h2,h3,h4,p,c,t,h5,h6,h7⟩:=h
  exact ⟨h1.trans he,h2,h3,h4,p,c,t,he _ _ h5,h6.ext he,h7⟩
theorem RPs.base {H0 H:Heap} {b:Nat} {r:RP} {i:Nat} {o:Obj} (h:RPs H0 H b r) (hi:H i=some o) (hn:i ≠ b) (hp:∀ p c t,H b=some (.cells (r.cells p c) t (0,0))→¬ blk p i):RPs (H0.set i o) H b r:=by
  obtain ⟨h1,h2,h3,h4,p,c,t,h5,h6,h7⟩:=h
  refine ⟨h1.base hi,by rw [Heap.set_ne _ _ (Ne.symm hn)]; exact h2,h3,h4,p,c,t,h5,h6,fun j hj=>⟨?_,(h7 j hj).2⟩⟩
  rw [Heap.set_ne _ _ (fun e=>hp p c t h5 (by rw [← e]; exact hj))]; exact (h7 j hj).1
theorem RPs.new {H0 H:Heap} {b:Nat} {r:RP} {i:Nat} (h:RPs H0 H b r) (hi:H i=none) (o:Obj):RPs (H0.set i o) (H.set i o) b r:=by
  have hb:b ≠ i:=by obtain ⟨_,_,_,_,p,c,t,h5,_⟩:=h; exact ne_of h5 hi
  refine (h.ext (Ext.new hi o)).base (Heap.set_self _ _ _) (Ne.symm hb) fun p c t hc hp=>?_
  obtain ⟨_,_,_,_,p',c',t',h5,h6,_⟩:=h
  rw [Heap.set_ne _ _ hb,h5] at hc
  have:p'=p:=by
    simp only [Option.some.injEq,Obj.cells.injEq,RP.cells] at hc
    have:=congrArg (fun a=>a[3]?) hc.1
    simp at this; exact this.1
  subst this
  exact h6.known hp hi
theorem RPs.old {H0 H:Heap} {b:Nat} {r:RP} {i:Nat} {o:Obj} (hi:H0 i=none) (h:RPs (H0.set i o) H b r):RPs H0 H b r:=by
  obtain ⟨h1,h2,h3,h4,p,c,t,h5,h6,h7⟩:=h
  have hl:∀ j,(H0.set i o) j=none→H0 j=none:=fun j hj=>by
    by_cases e:j=i
    · subst e; exact hi
    · rwa [Heap.set_ne _ _ e] at hj
  exact ⟨h1.of_set hi,hl _ h2,h3,h4,p,c,t,h5,h6,fun j hj=>⟨hl _ (h7 j hj).1,(h7 j hj).2⟩⟩
def RP.fail (r:RP) (e:Int):RP:=if r.e=0 then { r with e:=e } else r
def RP.next (r:RP):Nat × Bool:=if r.e ≠ 0∨r.s.size≤r.at_ then (0,false) else (byteAt r.s r.at_,true)
def RP.put (r:RP) (x:Nd):RP:={ r with nds:=r.nds++[x] }
theorem fail_c {H0 H:Heap} {b:Nat} {r:RP} {e:Int} {Q:QT} {E:ET} (h:RPs H0 H b r)
    (hk:∀ H',RPs H0 H' b (r.fail e)→Q (.int .i64 (r.fail e).e) H'):Does Pr 103 #[.pointer (some ⟨b,0,none⟩),.int .i64 e] H Q E:=by
  refine zqc2_fn _ _ Q E H ?_
  obtain ⟨h1,h2,h3,h4,p,c,t,h5,h6,h7⟩:=id h
  unfold zqc2 zqc2_3
  refine ldI_at (n:=r.e) h5 rfl ?_
  rw [sel_iff]
  constructor
  · intro he
    have he:r.e=0:=by simpa using he
    refine wr_at h5 (by simp [RP.cells]) rfl ?_
    unfold zqc2_1
    have hr:r.fail e={ r with e:=e }:=if_pos he
    rw [hr] at hk
    refine ldI_at (n:=e) (Heap.set_self _ _ _) rfl ?_
    refine hk _ ⟨h1.set h2 _,h2,h3,h4,p,c,t,Heap.set_self _ _ _,h6.keep fun i hi _=>Heap.set_ne _ _ (h7 i hi).2,h7⟩
  · intro he
    have he:r.e ≠ 0:=by simpa using he
    have hr:r.fail e=r:=if_neg he
    rw [hr] at hk
    unfold zqc2_1
    exact ldI_at (n:=r.e) h5 rfl (hk _ h)
theorem next_c {H0 H:Heap} {b:Nat} {r:RP} {Q:QT} {E:ET} (h:RPs H0 H b r)
    (hk:Q (.tuple #[.int .u8 (r.next.1:Nat),.bool r.next.2]) H):Does Pr 94 #[.pointer (some ⟨b,0,none⟩)] H Q E:=by
  refine zqa2_fn _ Q E H ?_
  obtain ⟨h1,h2,h3,h4,p,c,t,h5,h6,h7⟩:=id h
  unfold zqa2 zqa2_5
  refine ldI_at (n:=r.e) h5 rfl ?_
  rw [sel_iff]
  unfold zqa2_3
  refine ⟨fun he=>?_,fun he=>?_⟩
  · have hn:r.next=(0,false):=if_pos (.inl (by simpa using he))
    rw [hn] at hk; exact hk
  · have he:r.e=0:=by simpa using he
    refine ldI_at (n:=(r.at_:Int)) h5 rfl ?_
    refine ldS_at (n:=r.s) h5 rfl ?_
    rw [sel_iff]
    refine ⟨fun hd=>?_,fun hd=>?_⟩
    · have hn:r.next=(0,false):=if_pos (.inr (by have:=of_decide_eq_true hd; omega))
      rw [hn] at hk; exact hk
    · have hlt:r.at_ < r.s.size:=by have:=of_decide_eq_false hd; omega
      have hn:r.next=(byteAt r.s r.at_,true):=if_neg (by omega)
      rw [hn] at hk
      unfold zqa2_1
      refine ldS_at (n:=r.s) h5 rfl ?_
      refine ldI_at (n:=(r.at_:Int)) h5 rfl ?_
      exact ⟨by omega,hk⟩
theorem put_c {H0 H:Heap} {b:Nat} {r:RP} {x:Nd} {Q:QT} {E:ET} (h:RPs H0 H b r) (hl:r.nds.length < 1048576)
    (hk:∀ H',RPs H0 H' b (r.put x)→Q (.int .i64 (r.nds.length:Nat)) H') :
    Does Pr 95 #[.pointer (some ⟨b,0,none⟩),.agg #[.int .i64 x.k,.int .i64 x.l,.int .i64 x.r,.int .u64 x.a,.int .u64 x.b,.int .u64 x.c,.int .u64 x.d]] H Q E:=by
  refine zqb2_fn _ _ _ _ _ _ _ _ Q E H ?_
  unfold zqb2
  intro i hi
  have h:=h.ext (Ext.new hi (.cells #[.int .i64 x.k,.int .i64 x.l,.int .i64 x.r,.int .u64 x.a,.int .u64 x.b,.int .u64 x.c,.int .u64 x.d] 48 (0,0)))
  have hi1:=Heap.set_self H i (.cells #[.int .i64 x.k,.int .i64 x.l,.int .i64 x.r,.int .u64 x.a,.int .u64 x.b,.int .u64 x.c,.int .u64 x.d] 48 (0,0))
  revert h hi1
  generalize H.set i _=H
  intro h hi1
  obtain ⟨_,_,_,_,p,c,t,h5,_⟩:=id h
  refine ldSl_at (p:=p) (l:=r.nds.length) (m:=c) h5 rfl ?_
  refine ⟨x.k,x.l,x.r,x.a,x.b,x.c,x.d,rd_at hi1 _ 0 0 (fun j hj=>by simp),?_⟩
  intro i2 hi2
  have h:=h.ext (Ext.new hi2 (.cells #[.int .i64 x.k,.int .i64 x.l,.int .i64 x.r,.int .u64 x.a,.int .u64 x.b,.int .u64 x.c,.int .u64 x.d] 48 (0,0)))
  have hi3:=Heap.set_self H i2 (.cells #[.int .i64 x.k,.int .i64 x.l,.int .i64 x.r,.int .u64 x.a,.int .u64 x.b,.int .u64 x.c,.int .u64 x.d] 48 (0,0))
  have h5:=Ext.new hi2 (.cells #[.int .i64 x.k,.int .i64 x.l,.int .i64 x.r,.int .u64 x.a,.int .u64 x.b,.int .u64 x.c,.int .u64 x.d] 48 (0,0)) _ _ h5
  revert h hi3 h5
  generalize H.set i2 _=H
  intro h hi3 h5
  obtain ⟨h1,h2,h3,h4,p',c',t',h5',h6,h7⟩:=id h
  have heq:=h5.symm.trans h5'
  simp only [Option.some.injEq,Obj.cells.injEq,RP.cells,Array.mk.injEq,List.cons.injEq,Value.slice.injEq,true_and,and_true] at heq
  obtain ⟨⟨rfl,rfl⟩,rfl⟩:=heq
  have hws:(x.cells).length=7:=rfl
  have hoo:x.cells.all oneC=true:=rfl
  refine app_one (sz:=7) (ws:=x.cells) sl23 h6 hi3 hws hoo hl (Nat.zero_lt_succ 6) fun p' c' H' hv hs hb'=>?_
  have hbb:¬ blk p b:=fun hb=>(h7 b hb).2 rfl
  have h5':H' b=some (.cells (r.cells p c) t (0,0)):=by rw [hs b hbb (by simp [h5])]; exact h5
  simp only [ptr_some,add_at]
  refine wr_at h5' (by simp [RP.cells]) rfl ?_
  refine ldSl_at (p:=p') (l:=r.nds.length+1) (m:=c') (Heap.set_self _ _ _) rfl ?_
  have hw:IntKind.wrap .i64 (((r.nds.length+1:Nat):Int) - 1)=(r.nds.length:Nat):=by rw [IntWalk.i64_in _ (by omega)]; omega
  rw [hw]
  have hnb:∀ i,blk p' i→H0 i=none∧i ≠ b:=fun i hi=>by
    rcases hb' i hi with h | h
    · exact h7 i h
    · exact ⟨h1.free h,fun e=>by rw [e,h5] at h; cases h⟩
  refine hk _ ⟨Ext.set (fun j o hj=>?_) h2 _,h2,h3,h4,p',c',t,?_,?_,hnb⟩
  · have hj':=h1 j o hj
    rw [hs j (fun hb=>by rw [(h7 j hb).1] at hj; cases hj) (by simp [hj'])]; exact hj'
  · rw [Heap.set_self]; simp [RP.cells,RP.put,over]
  · have:Vec H' 7 p' (r.put x).nds.length c' (flat (r.put x).nds):=by simpa [RP.put,flat] using hv
    exact this.keep fun i hi _=>Heap.set_ne _ _ (hnb i hi).2
/-! ### Sets -/
theorem with_c {H:Heap} {s:S4} {a b:Nat} {Q:QT} {E:ET} (ha:a≤255) (hb:b≤255)
    (hk:∀ H',Ext H H'→Q (.agg (s.with_ a b).cells) H'):Does Pr 115 #[.agg s.cells,.int .u8 a,.int .u8 b] H Q E:=by
  refine zqw_fn _ _ _ _ _ _ Q E H ?_
  unfold zqw
  refine nw_ext fun i H1 hi he1 hc1=>?_
  refine nw_ext fun j H2 hj he2 hc2=>?_
  have hij:i ≠ j:=ne_of hc1 hj
  unfold zqw_11 zqw_8
  have wa:IntKind.wrap .i64 (a:Int)=(a:Nat):=wrap_nat a (by omega)
  have wb:IntKind.wrap .i64 (b:Int)=(b:Nat):=wrap_nat b (by omega)
  rw [wa]
  refine ⟨fun x Hc=>∃ n:Nat,x=((a+n:Nat):Int)∧n≤b+1 - a∧Ext H Hc∧Hc i=some (.cells (s.withN a n).cells 46 (0,0))∧Hc j=some (.cells S4.zero.cells 46 (0,0)),
    fun x _=>(b+1 - x).toNat,⟨0,by simp,by omega,he1.trans he2,he2 _ _ hc1,hc2⟩,?_⟩
  rintro x Hc ⟨n,rfl,hn,he,hci,hcj⟩
  unfold zqw_5
  refine sel_mk (fun hd=>?_) (fun hd=>?_)
  · have hd:=of_decide_eq_true hd
    rw [wb] at hd
    unfold zqw_3
    have hx:IntKind.wrap .i64 (Int.tdiv ((a+n:Nat):Int) 64)=(((a+n) / 64:Nat):Int):=wrap_nat ((a+n) / 64) (Nat.le_trans (Nat.div_le_self _ _) (by omega))
    have hm:Int.tmod ((a+n:Nat):Int) 64=(((a+n) % 64:Nat):Int):=rfl
    have h4:(a+n) / 64 < 4:=by omega
    rw [hx,hm]
    simp only [ptr_some,add_at,Int.toNat_natCast,Nat.mul_one,Nat.zero_add]
    refine ⟨by decide,⟨by omega,by omega⟩,ldI_at hci (S4.cells_get _ h4) ⟨by decide,by omega,⟨by omega,by omega⟩,?_⟩⟩
    refine wr_at hci (by simp [S4.cells]; omega) rfl ?_
    rw [S4.cells_put _ h4]
    have hw:IntKind.wrap .i64 (((a+n:Nat):Int)+1)=((a+(n+1):Nat):Int):=by rw [IntWalk.i64_in _ (by omega)]; omega
    rw [hw]
    refine ⟨⟨n+1,rfl,by omega,he.set ?_ _,Heap.set_self _ _ _,by rw [Heap.set_ne _ _ (Ne.symm hij)]; exact hcj⟩,by omega⟩
    exact hi
  · have hd:=of_decide_eq_false hd
    rw [wb] at hd
    have hn':n=b+1 - a:=by omega
    subst hn'
    unfold zqw_1
    refine ⟨_,_,_,_,S4.rd hci,?_⟩
    simp only [ptr_some]
    refine wr_at hcj (by simp [S4.cells,S4.zero]) rfl ?_
    refine ⟨(s.with_ a b).a,(s.with_ a b).b,(s.with_ a b).c,(s.with_ a b).d,S4.rd (s:=s.with_ a b) (Heap.set_self _ _ _),?_⟩
    exact hk _ (he.set (he1.free hj) _)
theorem not_c {H:Heap} {s:S4} {Q:QT} {E:ET}
    (hk:∀ H',Ext H H'→Q (.agg s.not.cells) H'):Does Pr 111 #[.agg s.cells] H Q E:=by
  refine zqf2_fn _ _ _ _ Q E H ?_
  unfold zqf2
  refine nw_ext fun i H1 hi he1 hc1=>?_
  refine nw_ext fun j H2 hj he2 hc2=>?_
  have hij:i ≠ j:=ne_of hc1 hj
  unfold zqf2_14 zqf2_11
  refine ⟨fun x Hc=>∃ n:Nat,x=(n:Nat)∧n≤4∧Ext H Hc∧Hc i=some (.cells (s.notN n).cells 46 (0,0))∧Hc j=some (.cells S4.zero.cells 46 (0,0)),
    fun x _=>(4 - x).toNat,⟨0,by simp,by omega,he1.trans he2,he2 _ _ hc1,hc2⟩,?_⟩
  rintro x Hc ⟨n,rfl,hn,he,hci,hcj⟩
  unfold zqf2_8 zqf2_5
  refine sel_mk (fun hd=>?_) (fun hd=>?_)
  · have hd:=of_decide_eq_true hd
    unfold zqf2_3
    have h4:n < 4:=by omega
    simp only [ptr_some,add_at,Int.toNat_natCast,Nat.mul_one,Nat.zero_add]
    refine ⟨⟨by omega,by omega⟩,ldI_at hci (S4.cells_get _ h4) ⟨⟨by omega,by omega⟩,?_⟩⟩
    refine wr_at hci (by simp [S4.cells]; omega) rfl ?_
    rw [S4.cells_put _ h4]
    have hw:IntKind.wrap .i64 ((n:Int)+1)=((n+1:Nat):Int):=by rw [IntWalk.i64_in _ (by omega)]; omega
    rw [hw]
    exact ⟨⟨n+1,rfl,by omega,he.set hi _,Heap.set_self _ _ _,by rw [Heap.set_ne _ _ (Ne.symm hij)]; exact hcj⟩,by omega⟩
  · have hd:=of_decide_eq_false hd
    obtain rfl:n=4:=by omega
    unfold zqf2_1
    refine ⟨_,_,_,_,S4.rd hci,?_⟩
    simp only [ptr_some]
    refine S4.wr (s.notN 4) hcj ?_
    exact ⟨_,_,_,_,S4.rd (s:=s.not) (Heap.set_self _ _ _),hk _ (he.set (he1.free hj) _)⟩
theorem bytesOf_c {H:Heap} {s:ByteArray} {Q:QT} {E:ET} (hs:s.size≤65536)
    (hk:∀ H',Ext H H'→Q (.agg (S4.bytesN s s.size).cells) H'):Does Pr 112 #[.string s] H Q E:=by
  refine zqg2_fn _ Q E H ?_
  unfold zqg2
  refine nw_ext fun i H1 hi he1 hc1=>?_
  unfold zqg2_18
  refine nw_ext fun j H2 hj he2 hc2=>?_
  have hij:i ≠ j:=ne_of hc1 hj
  unfold zqg2_14 zqg2_11
  refine ⟨fun x Hc=>∃ n:Nat,x=(n:Nat)∧n≤s.size∧Ext H Hc∧Hc j=some (.cells (S4.bytesN s n).cells 46 (0,0))∧Hc i=some (.cells S4.zero.cells 46 (0,0)),
    fun x _=>(s.size - x).toNat,⟨0,by simp,by omega,he1.trans he2,hc2,he2 _ _ hc1⟩,?_⟩
  rintro x Hc ⟨n,rfl,hn,he,hcj,hci⟩
  unfold zqg2_8 zqg2_5
  refine sel_mk (fun hd=>?_) (fun hd=>?_)
  · have hd:=of_decide_eq_true hd
    unfold zqg2_3
    simp only [ptr_some]
    refine ⟨_,_,_,_,S4.rd hcj,⟨by omega,by omega⟩,⟨by omega,by omega⟩,?_⟩
    rw [sAt_nat]
    refine with_c (s:=S4.bytesN s n) (byteAt_le _ _) (byteAt_le _ _) fun H' he'=>?_
    refine ⟨_,_,_,_,rfl,?_⟩
    refine S4.wr (S4.bytesN s (n+1)) (he' _ _ hcj) ?_
    have hw:IntKind.wrap .i64 ((n:Int)+1)=((n+1:Nat):Int):=by rw [IntWalk.i64_in _ (by omega)]; omega
    rw [hw]
    exact ⟨⟨n+1,rfl,by omega,(he.trans he').set (he1.free hj) _,Heap.set_self _ _ _,by rw [Heap.set_ne _ _ hij]; exact he' _ _ hci⟩,by omega⟩
  · have hd:=of_decide_eq_false hd
    obtain rfl:n=s.size:=by omega
    unfold zqg2_1
    refine ⟨_,_,_,_,S4.rd hcj,?_⟩
    simp only [ptr_some]
    refine S4.wr (S4.bytesN s s.size) hci ?_
    exact ⟨_,_,_,_,S4.rd (s:=S4.bytesN s s.size) (Heap.set_self _ _ _),hk _ (he.set hi _)⟩
def single (b:Nat):Nat × Bool :=
  if b=110 then (10,true) else if b=116 then (9,true) else if b=114 then (13,true)
  else if 33≤b∧b≤47∨58≤b∧b≤64∨91≤b∧b≤96∨123≤b∧b≤126 then (b,true) else (0,false)
theorem single_c {H:Heap} {b:Nat} {Q:QT} {E:ET}
    (hk:∀ n k,single b=(n,k)→Q (.tuple #[.int .u8 (n:Nat),.bool k]) H):Does Pr 121 #[.int .u8 b] H Q E:=by
  refine zqz_fn _ Q E H ?_
  unfold zqz zqz_43 zqz_41
  (first | refine sel_tt ?_ | refine sel_ff ?_ | refine sel_beq (fun _=>?_) (fun _=>?_) | refine sel_bne (fun _=>?_) (fun _=>?_) | refine sel_dec (fun _=>?_) (fun _=>?_) | refine sel_not (fun _=>?_) (fun _=>?_) | refine sel_mk (fun _=>?_) (fun _=>?_))
  · exact hk 10 true (by unfold single; rw [if_pos (by omega)])
  unfold zqz_38 zqz_36
  (first | refine sel_tt ?_ | refine sel_ff ?_ | refine sel_beq (fun _=>?_) (fun _=>?_) | refine sel_bne (fun _=>?_) (fun _=>?_) | refine sel_dec (fun _=>?_) (fun _=>?_) | refine sel_not (fun _=>?_) (fun _=>?_) | refine sel_mk (fun _=>?_) (fun _=>?_))
  · exact hk 9 true (by unfold single; rw [if_neg (by omega),if_pos (by omega)])
  unfold zqz_33 zqz_31
  (first | refine sel_tt ?_ | refine sel_ff ?_ | refine sel_beq (fun _=>?_) (fun _=>?_) | refine sel_bne (fun _=>?_) (fun _=>?_) | refine sel_dec (fun _=>?_) (fun _=>?_) | refine sel_not (fun _=>?_) (fun _=>?_) | refine sel_mk (fun _=>?_) (fun _=>?_))
  · exact hk 13 true (by unfold single; rw [if_neg (by omega),if_neg (by omega),if_pos (by omega)])
  have yes:(33≤b∧b≤47∨58≤b∧b≤64∨91≤b∧b≤96∨123≤b∧b≤126)→Q (.tuple #[.int .u8 (b:Nat),.bool true]) H:=fun h =>
    hk b true (by unfold single; rw [if_neg (by omega),if_neg (by omega),if_neg (by omega),if_pos h])
  have no:¬ (33≤b∧b≤47∨58≤b∧b≤64∨91≤b∧b≤96∨123≤b∧b≤126)→Q (.tuple #[.int .u8 (0:Nat),.bool false]) H:=fun h =>
    hk 0 false (by unfold single; rw [if_neg (by omega),if_neg (by omega),if_neg (by omega),if_neg h])
  unfold zqz_27 zqz_25 zqz_22 zqz_20 zqz_17 zqz_15 zqz_13 zqz_11 zqz_9
  repeat' (first | refine sel_tt ?_ | refine sel_ff ?_ | refine sel_beq (fun _=>?_) (fun _=>?_) | refine sel_bne (fun _=>?_) (fun _=>?_) | refine sel_dec (fun _=>?_) (fun _=>?_) | refine sel_not (fun _=>?_) (fun _=>?_) | refine sel_mk (fun _=>?_) (fun _=>?_))
  all_goals first | exact yes (by omega) | exact no (by omega)
def digits:S4:=S4.zero.with_ 48 57
def blanks:ByteArray:=⟨[32,9,13,10].toArray⟩
def named (c:Nat):S4 × Bool :=
  if c=100 then (digits,true) else if c=119 then (((digits.with_ 97 122).with_ 65 90).with_ 95 95,true)
  else if c=115 then (S4.bytesN blanks 4,true) else (S4.zero,false)
theorem named_c {H:Heap} {b:Nat} {Q:QT} {E:ET}
    (hk:∀ H',Ext H H'→Q (.tuple #[.agg (named b).1.cells,.bool (named b).2]) H'):Does Pr 120 #[.int .u8 b] H Q E:=by
  refine zqy_fn _ Q E H ?_
  unfold zqy
  refine nw_ext fun i H1 hi he1 hc1=>?_
  have hc1:H1 i=some (.cells S4.zero.cells 46 (0,0)):=hc1
  unfold zqy_6
  refine with_c (s:=S4.zero) (a:=48) (b:=57) (by omega) (by omega) fun H2 he2=>?_
  refine ⟨_,_,_,_,rfl,?_⟩
  refine nw_ext fun j H3 hj he3 hc3=>?_
  have hc3:H3 j=some (.cells S4.zero.cells 46 (0,0)):=hc3
  have hij:i ≠ j:=ne_of (he2 _ _ hc1) hj
  refine S4.wr digits hc3 ?_
  have hc4:(H3.set j (.cells digits.cells 46 (0,0))) j=some (.cells digits.cells 46 (0,0)):=Heap.set_self _ _ _
  have hi4:(H3.set j (.cells digits.cells 46 (0,0))) i=some (.cells S4.zero.cells 46 (0,0)):=by rw [Heap.set_ne _ _ hij]; exact he3 _ _ (he2 _ _ hc1)
  have he4:Ext H (H3.set j (.cells digits.cells 46 (0,0))):=(((he1.trans he2).trans he3)).set ((he1.trans he2).free hj) _
  revert hc4 hi4 he4
  generalize H3.set j (.cells digits.cells 46 (0,0))=H4
  intro hc4 hi4 he4
  have fin:∀ (s:S4) (k:Bool) (H5:Heap),named b=(s,k)→Ext H4 H5→wr ⟨i,0,none⟩ [.int .u64 s.a,.int .u64 s.b,.int .u64 s.c,.int .u64 s.d] H5 fun H6 =>
      ∃ n1 n2 n3 n4:Int,H6.rd ⟨i,0,none⟩ 0 [(.int .u64 n1),(.int .u64 n2),(.int .u64 n3),(.int .u64 n4)]∧Q (.tuple #[.agg #[(.int .u64 n1),(.int .u64 n2),(.int .u64 n3),(.int .u64 n4)],.bool k]) H6:=by
    intro s k H5 hs he5
    rw [hs] at hk
    exact S4.wr s (he5 _ _ hi4) ⟨_,_,_,_,S4.rd (s:=s) (Heap.set_self _ _ _),hk _ ((he4.trans he5).set hi _)⟩
  unfold zqy_3
  (first | refine sel_tt ?_ | refine sel_ff ?_ | refine sel_beq (fun _=>?_) (fun _=>?_) | refine sel_bne (fun _=>?_) (fun _=>?_) | refine sel_dec (fun _=>?_) (fun _=>?_) | refine sel_not (fun _=>?_) (fun _=>?_) | refine sel_mk (fun _=>?_) (fun _=>?_))
  · simp only [ptr_some]
    exact ⟨_,_,_,_,S4.rd hc4,fin digits true H4 (by unfold named; rw [if_pos (by omega)]) (Ext.refl _)⟩
  (first | refine sel_tt ?_ | refine sel_ff ?_ | refine sel_beq (fun _=>?_) (fun _=>?_) | refine sel_bne (fun _=>?_) (fun _=>?_) | refine sel_dec (fun _=>?_) (fun _=>?_) | refine sel_not (fun _=>?_) (fun _=>?_) | refine sel_mk (fun _=>?_) (fun _=>?_))
  · simp only [ptr_some]
    refine ⟨_,_,_,_,S4.rd hc4,?_⟩
    refine with_c (s:=digits) (a:=97) (b:=122) (by omega) (by omega) fun H5 he5=>?_
    refine ⟨_,_,_,_,rfl,?_⟩
    refine with_c (s:=digits.with_ 97 122) (a:=65) (b:=90) (by omega) (by omega) fun H6 he6=>?_
    refine ⟨_,_,_,_,rfl,?_⟩
    refine with_c (s:=(digits.with_ 97 122).with_ 65 90) (a:=95) (b:=95) (by omega) (by omega) fun H7 he7=>?_
    exact ⟨_,_,_,_,rfl,fin (((digits.with_ 97 122).with_ 65 90).with_ 95 95) true H7 (by unfold named; rw [if_neg (by omega),if_pos (by omega)]) ((he5.trans he6).trans he7)⟩
  (first | refine sel_tt ?_ | refine sel_ff ?_ | refine sel_beq (fun _=>?_) (fun _=>?_) | refine sel_bne (fun _=>?_) (fun _=>?_) | refine sel_dec (fun _=>?_) (fun _=>?_) | refine sel_not (fun _=>?_) (fun _=>?_) | refine sel_mk (fun _=>?_) (fun _=>?_))
  · refine bytesOf_c (s:=blanks) (by decide) fun H5 he5=>?_
    simp only [ptr_some]
    exact ⟨_,_,_,_,rfl,fin (S4.bytesN blanks 4) true H5 (by unfold named; rw [if_neg (by omega),if_neg (by omega),if_pos (by omega)]) he5⟩
  · unfold zqy_1
    simp only [ptr_some]
    exact fin S4.zero false H4 (by unfold named; rw [if_neg (by omega),if_neg (by omega),if_neg (by omega)]) (Ext.refl _)
/-! ### The parser's fields -/
theorem RPs.ld1 {H0 H:Heap} {b:Nat} {r:RP} {K:Int→Prop} (h:RPs H0 H b r) (hk:K (r.at_:Nat)):ldI .i64 (Addr.add ⟨b,0,none⟩ 1) H K:=by
  obtain ⟨_,_,_,_,p,c,t,h5,_⟩:=h; exact ldI_at h5 rfl hk
theorem RPs.ld2 {H0 H:Heap} {b:Nat} {r:RP} {K:Int→Prop} (h:RPs H0 H b r) (hk:K (r.op:Nat)):ldI .i64 (Addr.add ⟨b,0,none⟩ 2) H K:=by
  obtain ⟨_,_,_,_,p,c,t,h5,_⟩:=h; exact ldI_at h5 rfl hk
theorem RPs.ld4 {H0 H:Heap} {b:Nat} {r:RP} {K:Int→Prop} (h:RPs H0 H b r) (hk:K r.e):ldI .i64 (Addr.add ⟨b,0,none⟩ 4) H K:=by
  obtain ⟨_,_,_,_,p,c,t,h5,_⟩:=h; exact ldI_at h5 rfl hk
theorem RPs.st1 {H0 H:Heap} {b a:Nat} {r:RP} {v:Int} {K:Heap→Prop} (h:RPs H0 H b r) (hv:v=(a:Nat)) (ha:a≤r.s.size) (hk:∀ H',RPs H0 H' b { r with at_:=a }→K H') :
    wr (Addr.add ⟨b,0,none⟩ 1) [.int .i64 v] H K:=by
  subst hv
  obtain ⟨h1,h2,h3,h4,p,c,t,h5,h6,h7⟩:=h
  rw [add_at]
  refine wr_at h5 (by simp [RP.cells]) rfl ?_
  exact hk _ ⟨h1.set h2 _,h2,ha,h4,p,c,t,Heap.set_self _ _ _,h6.keep fun i hi _=>Heap.set_ne _ _ (h7 i hi).2,h7⟩
theorem RPs.st2 {H0 H:Heap} {b a:Nat} {r:RP} {v:Int} {K:Heap→Prop} (h:RPs H0 H b r) (hv:v=(a:Nat)) (hk:∀ H',RPs H0 H' b { r with op:=a }→K H') :
    wr (Addr.add ⟨b,0,none⟩ 2) [.int .i64 v] H K:=by
  subst hv
  obtain ⟨h1,h2,h3,h4,p,c,t,h5,h6,h7⟩:=h
  rw [add_at]
  refine wr_at h5 (by simp [RP.cells]) rfl ?_
  exact hk _ ⟨h1.set h2 _,h2,h3,h4,p,c,t,Heap.set_self _ _ _,h6.keep fun i hi _=>Heap.set_ne _ _ (h7 i hi).2,h7⟩
theorem RPs.upd {H0 H:Heap} {b i:Nat} {r:RP} {o:Obj} (h:RPs (H0.set i o) H b r) (o':Obj):RPs (H0.set i o') (H.set i o') b r:=by
  obtain ⟨h1,h2,h3,h4,p,c,t,h5,h6,h7⟩:=h
  have hne:∀ {j},(H0.set i o) j=none→j ≠ i∧H0 j=none:=fun {j} hj=>by
    by_cases e:j=i
    · subst e; rw [Heap.set_self] at hj; cases hj
    · rw [Heap.set_ne _ _ e] at hj; exact ⟨e,hj⟩
  have hset:∀ {j},(H0.set i o) j=none→(H0.set i o') j=none:=fun {j} hj=>by rw [Heap.set_ne _ _ (hne hj).1]; exact (hne hj).2
  refine ⟨fun j x hj=>?_,hset h2,h3,h4,p,c,t,by rw [Heap.set_ne _ _ (hne h2).1]; exact h5,h6.keep fun j hj _=>Heap.set_ne _ _ (hne (h7 j hj).1).1,fun j hj=>⟨hset (h7 j hj).1,(h7 j hj).2⟩⟩
  by_cases e:j=i
  · subst e; rw [Heap.set_self] at hj ⊢; exact hj
  · rw [Heap.set_ne _ _ e] at hj ⊢; exact h1 j x (by rw [Heap.set_ne _ _ e]; exact hj)
theorem RPs.bound {H0 H:Heap} {b:Nat} {r:RP} (h:RPs H0 H b r):r.at_≤r.s.size∧r.s.size≤4096:=⟨h.2.2.1,h.2.2.2.1⟩
def RP.inc (r:RP):RP:={ r with at_:=r.at_+1 }
theorem RP.next_some {r:RP} {c:Nat} (h:r.next=(c,true)):r.e=0∧r.at_ < r.s.size∧c=byteAt r.s r.at_∧c≤255:=by
  unfold RP.next at h
  split at h
  · cases h
  · cases h; exact ⟨by omega,by omega,rfl,byteAt_le _ _⟩
theorem RP.next_none {r:RP} {c:Nat} (h:r.next=(c,false)):c=0∧(r.e ≠ 0∨r.s.size≤r.at_):=by
  unfold RP.next at h
  split at h
  · cases h; exact ⟨rfl,by assumption⟩
  · cases h
theorem single_le {b n:Nat} {k:Bool} (h:single b=(n,k)) (hb:b≤255):n≤255:=by
  unfold single at h
  repeat' split at h
  all_goals (cases h; omega)
/-! ### Escapes,members -/
def RP.escape (r:RP):(Nat × S4 × Bool) × RP :=
  match r.inc.next with
  | (c,false)=>((0,S4.zero,false),r.inc.fail 82)
  | (c,true)=>match named c with
    | (s,true)=>((0,s,true),r.inc.inc)
    | (_,false)=>match single c with
      | (n,k)=>((n,S4.zero.with_ n n,false),if k=true then r.inc.inc else r.inc.inc.fail 82)
theorem escape_c {H0 H:Heap} {b:Nat} {r:RP} {Q:QT} {E:ET} (h:RPs H0 H b r) (hlt:r.at_ < r.s.size)
    (hk:∀ n s k r' H',r.escape=((n,s,k),r')→RPs H0 H' b r'→Q (.tuple #[.int .u8 (n:Nat),.agg s.cells,.bool k]) H'):Does Pr 114 #[.pointer (some ⟨b,0,none⟩)] H Q E:=by
  refine zqv_fn _ Q E H ?_
  have hsz:=h.bound
  unfold zqv
  intro i hi
  have hi0:H0 i=none:=h.1.free hi
  have h:=h.new hi (.cells S4.zero.cells 46 (0,0))
  have fin:∀ (n:Nat) (s:S4) (k:Bool) (r':RP) (H5:Heap),r.escape=((n,s,k),r')→RPs (H0.set i (.cells S4.zero.cells 46 (0,0))) H5 b r'→wr ⟨i,0,none⟩ [.int .u64 s.a,.int .u64 s.b,.int .u64 s.c,.int .u64 s.d] H5 fun H6 =>
      ∃ n1 n2 n3 n4:Int,H6.rd ⟨i,0,none⟩ 0 [(.int .u64 n1),(.int .u64 n2),(.int .u64 n3),(.int .u64 n4)]∧Q (.tuple #[.int .u8 (n:Nat),.agg #[(.int .u64 n1),(.int .u64 n2),(.int .u64 n3),(.int .u64 n4)],.bool k]) H6:=by
    intro n s k r' H5 hs h5
    exact S4.wr s h5.1.get ⟨_,_,_,_,S4.rd (s:=s) (Heap.set_self _ _ _),hk _ s _ r' _ hs (RPs.old hi0 (h5.upd _))⟩
  unfold zqv_18
  simp only [ptr_some]
  refine h.ld1 (h.st1 (a:=r.at_+1) (by rw [IntWalk.i64_in _ (by omega)]; omega) (by omega) fun H1 h1=>?_)
  unfold zqv_15
  refine next_c h1 ?_
  refine ⟨_,_,rfl,?_⟩
  unfold zqv_12
  cases hn:({ r with at_:=r.at_+1 }:RP).next with
  | mk c ok =>
    have hn':r.inc.next=(c,ok):=hn
    cases ok with
    | false =>
      (first | refine sel_tt ?_ | refine sel_ff ?_ | refine sel_beq (fun _=>?_) (fun _=>?_) | refine sel_bne (fun _=>?_) (fun _=>?_) | refine sel_dec (fun _=>?_) (fun _=>?_) | refine sel_not (fun _=>?_) (fun _=>?_) | refine sel_mk (fun _=>?_) (fun _=>?_))
      · refine fail_c h1 fun H2 h2=>⟨_,rfl,?_⟩
        simp only [ptr_some]
        exact fin 0 S4.zero false _ H2 (by simp only [RP.escape,hn']; rfl) h2
    | true =>
      obtain ⟨g1,g2,g3,g4⟩:=RP.next_some hn
      (first | refine sel_tt ?_ | refine sel_ff ?_ | refine sel_beq (fun _=>?_) (fun _=>?_) | refine sel_bne (fun _=>?_) (fun _=>?_) | refine sel_dec (fun _=>?_) (fun _=>?_) | refine sel_not (fun _=>?_) (fun _=>?_) | refine sel_mk (fun _=>?_) (fun _=>?_))
      unfold zqv_9
      simp only [ptr_some]
      refine h1.ld1 (h1.st1 (a:=r.at_+1+1) (by simp only []; rw [IntWalk.i64_in _ (by omega)]; omega) g2 fun H2 h2=>?_)
      unfold zqv_6
      refine named_c fun H3 he3=>?_
      have h3:=h2.ext he3
      refine ⟨_,_,_,_,_,rfl,?_⟩
      simp only [ptr_some]
      cases hnm:named c with
      | mk s m =>
        refine S4.wr s h3.1.get ?_
        have h4:=h3.upd (.cells s.cells 46 (0,0))
        revert h4
        generalize H3.set i _=H4
        intro h4
        cases m with
        | true =>
          refine sel_tt ?_
          refine ⟨_,_,_,_,S4.rd h4.1.get,?_⟩
          refine S4.wr s h4.1.get ⟨_,_,_,_,S4.rd (s:=s) (Heap.set_self _ _ _),?_⟩
          exact hk 0 s true r.inc.inc _ (by simp only [RP.escape,hn',hnm]) (RPs.old hi0 (h4.upd _))
        | false =>
          refine sel_ff ?_
          unfold zqv_3
          refine single_c fun n k hs=>?_
          refine ⟨_,_,rfl,?_⟩
          have last:∀ (r':RP) (H5:Heap),(if k=true then r.inc.inc else r.inc.inc.fail 82)=r'→RPs (H0.set i (.cells s.cells 46 (0,0))) H5 b r'→zqv_1 Q E (n:Nat) (some ⟨i,0,none⟩) H5:=by
            intro r' H5 hr h5
            unfold zqv_1
            refine with_c (s:=S4.zero) (single_le hs g4) (single_le hs g4) fun H6 he6=>?_
            refine ⟨_,_,_,_,rfl,?_⟩
            simp only [ptr_some]
            have h6:=h5.ext he6
            refine S4.wr (S4.zero.with_ n n) h6.1.get ⟨_,_,_,_,S4.rd (s:=S4.zero.with_ n n) (Heap.set_self _ _ _),?_⟩
            exact hk n _ false r' _ (by simp only [RP.escape,hn',hnm,hs,hr]) (RPs.old hi0 (h6.upd _))
          cases k with
          | false =>
            refine sel_tt ?_
            exact fail_c h4 fun H5 h5=>⟨_,rfl,last _ H5 rfl h5⟩
          | true =>
            refine sel_ff ?_
            exact last _ H4 rfl h4
/-! ### Bases -/
theorem RPs.weaken {H0 Hb H:Heap} {b:Nat} {r:RP} (he:Ext H0 Hb) (h:RPs Hb H b r):RPs H0 H b r:=by
  obtain ⟨h1,h2,h3,h4,p,c,t,h5,h6,h7⟩:=h
  exact ⟨he.trans h1,he.free h2,h3,h4,p,c,t,h5,h6,fun j hj=>⟨he.free (h7 j hj).1,(h7 j hj).2⟩⟩
theorem RPs.upd' {Hb H:Heap} {b i:Nat} {r:RP} {o:Obj} (hi:Hb i=some o) (h:RPs Hb H b r) (o':Obj):RPs (Hb.set i o') (H.set i o') b r:=by
  refine RPs.upd (o:=o) ?_ o'
  have:Hb.set i o=Hb:=by
    funext j; by_cases e:j=i
    · subst e; rw [Heap.set_self]; exact hi.symm
    · rw [Heap.set_ne _ _ e]
  rw [this]; exact h
theorem RPs.atOf {H0 H:Heap} {b:Nat} {r:RP} (h:RPs H0 H b r):atOf b H=r.at_:=by
  obtain ⟨_,_,_,_,p,c,t,h5,_⟩:=h
  simp [Proofs.Ytaffcoiomggpfaa.atOf,h5,RP.cells]
def RP.member (r:RP):(Nat × S4 × Bool) × RP :=
  match r.next with
  | (_,false)=>((0,S4.zero,false),r.fail 80)
  | (c,true)=>if c=93∨c=94∨c=45 then ((0,S4.zero,false),r.fail 80) else if c=92 then r.escape else ((c,S4.zero.with_ c c,false),r.inc)
theorem member_c {H0 H:Heap} {b:Nat} {r:RP} {Q:QT} {E:ET} (h:RPs H0 H b r)
    (hk:∀ n s k r' H',r.member=((n,s,k),r')→RPs H0 H' b r'→Q (.tuple #[.int .u8 (n:Nat),.agg s.cells,.bool k]) H'):Does Pr 119 #[.pointer (some ⟨b,0,none⟩)] H Q E:=by
  refine zqx_fn _ Q E H ?_
  have hsz:=h.bound
  unfold zqx
  intro i hi
  have hi0:H0 i=none:=h.1.free hi
  have h:=h.new hi (.cells S4.zero.cells 46 (0,0))
  have fin:∀ (n:Nat) (s:S4) (k:Bool) (r':RP) (H5:Heap),r.member=((n,s,k),r')→RPs (H0.set i (.cells S4.zero.cells 46 (0,0))) H5 b r'→wr ⟨i,0,none⟩ [.int .u64 s.a,.int .u64 s.b,.int .u64 s.c,.int .u64 s.d] H5 fun H6 =>
      ∃ n1 n2 n3 n4:Int,H6.rd ⟨i,0,none⟩ 0 [(.int .u64 n1),(.int .u64 n2),(.int .u64 n3),(.int .u64 n4)]∧Q (.tuple #[.int .u8 (n:Nat),.agg #[(.int .u64 n1),(.int .u64 n2),(.int .u64 n3),(.int .u64 n4)],.bool k]) H6:=by
    intro n s k r' H5 hs h5
    exact S4.wr s h5.1.get ⟨_,_,_,_,S4.rd (s:=s) (Heap.set_self _ _ _),hk _ s _ r' _ hs (RPs.old hi0 (h5.upd _))⟩
  unfold zqx_10
  refine next_c h ?_
  refine ⟨_,_,rfl,?_⟩
  cases hn:r.next with
  | mk c ok =>
    have bad:r.member=((0,S4.zero,false),r.fail 80)→zqx_3 Q E (some ⟨b,0,none⟩) (some ⟨i,0,none⟩) (c:Nat) true (H.set i (.cells S4.zero.cells 46 (0,0))):=by
      intro hm
      unfold zqx_3
      refine sel_tt (fail_c h fun H2 h2=>⟨_,rfl,?_⟩)
      try simp only [ptr_some]
      exact fin 0 S4.zero false _ H2 hm h2
    unfold zqx_5
    cases ok with
    | false =>
      refine sel_tt (bad ?_)
      simp only [RP.member,hn]
    | true =>
      obtain ⟨g1,g2,g3,g4⟩:=RP.next_some hn
      refine sel_ff ?_
      (first | refine sel_tt ?_ | refine sel_ff ?_ | refine sel_beq (fun _=>?_) (fun _=>?_) | refine sel_bne (fun _=>?_) (fun _=>?_) | refine sel_dec (fun _=>?_) (fun _=>?_) | refine sel_not (fun _=>?_) (fun _=>?_) | refine sel_mk (fun _=>?_) (fun _=>?_))
      · exact bad (by simp only [RP.member,hn]; rw [if_pos (by omega)])
      (first | refine sel_tt ?_ | refine sel_ff ?_ | refine sel_beq (fun _=>?_) (fun _=>?_) | refine sel_bne (fun _=>?_) (fun _=>?_) | refine sel_dec (fun _=>?_) (fun _=>?_) | refine sel_not (fun _=>?_) (fun _=>?_) | refine sel_mk (fun _=>?_) (fun _=>?_))
      · exact bad (by simp only [RP.member,hn]; rw [if_pos (by omega)])
      unfold zqx_3
      (first | refine sel_tt ?_ | refine sel_ff ?_ | refine sel_beq (fun _=>?_) (fun _=>?_) | refine sel_bne (fun _=>?_) (fun _=>?_) | refine sel_dec (fun _=>?_) (fun _=>?_) | refine sel_not (fun _=>?_) (fun _=>?_) | refine sel_mk (fun _=>?_) (fun _=>?_))
      · refine (fail_c h fun H2 h2=>⟨_,rfl,?_⟩)
        try simp only [ptr_some]
        exact fin 0 S4.zero false _ H2 (by simp only [RP.member,hn]; rw [if_pos (by omega)]) h2
      (first | refine sel_tt ?_ | refine sel_ff ?_ | refine sel_beq (fun _=>?_) (fun _=>?_) | refine sel_bne (fun _=>?_) (fun _=>?_) | refine sel_dec (fun _=>?_) (fun _=>?_) | refine sel_not (fun _=>?_) (fun _=>?_) | refine sel_mk (fun _=>?_) (fun _=>?_))
      · refine escape_c h g2 fun n s k r' H2 hs h2=>?_
        refine ⟨_,_,_,_,_,_,rfl,?_⟩
        try simp only [ptr_some]
        exact fin n s k r' H2 (by simp only [RP.member,hn]; rw [if_neg (by omega),if_pos (by omega)]; exact hs) h2
      unfold zqx_1
      try simp only [ptr_some]
      refine h.ld1 (h.st1 (a:=r.at_+1) (by rw [IntWalk.i64_in _ (by omega)]; omega) (by omega) fun H1 h1=>?_)
      refine with_c (s:=S4.zero) g4 g4 fun H2 he2=>?_
      refine ⟨_,_,_,_,rfl,?_⟩
      try simp only [ptr_some]
      exact fin c (S4.zero.with_ c c) false r.inc H2 (by simp only [RP.member,hn]; rw [if_neg (by omega),if_neg (by omega)]) (h1.ext he2)
structure RP.Le (r r':RP):Prop where
  s:r'.s=r.s
  at_:r.at_≤r'.at_
  e:r.e ≠ 0→r'.e=r.e
  op:r'.op=r.op
  nds:r'.nds=r.nds
theorem RP.Le.refl (r:RP):RP.Le r r:=⟨rfl,Nat.le_refl _,fun _=>rfl,rfl,rfl⟩
theorem RP.Le.trans {a b c:RP} (h:a.Le b) (g:b.Le c):a.Le c:=⟨g.s.trans h.s,Nat.le_trans h.at_ g.at_,fun x=>(g.e (by rw [h.e x]; exact x)).trans (h.e x),g.op.trans h.op,g.nds.trans h.nds⟩
theorem RP.Le.fail (r:RP) (e:Int) (he:e ≠ 0):r.Le (r.fail e):=by
  unfold RP.fail; split
  · exact ⟨rfl,Nat.le_refl _,fun h=>absurd ‹r.e=0› h,rfl,rfl⟩
  · exact .refl _
theorem RP.Le.inc (r:RP):r.Le r.inc:=⟨rfl,Nat.le_succ _,fun _=>rfl,rfl,rfl⟩
theorem RP.fail_e (r:RP) {e:Int} (he:e ≠ 0):(r.fail e).e ≠ 0:=by
  unfold RP.fail; split
  · exact he
  · assumption
theorem escape_le {r r':RP} {x} (h:r.escape=(x,r')):r.inc.Le r':=by
  unfold RP.escape at h
  split at h
  · cases h; exact .fail _ _ (by decide)
  · split at h
    · cases h; exact .inc _
    · split at h
      cases h
      split
      · exact .inc _
      · exact (RP.Le.inc _).trans (.fail _ _ (by decide))
theorem member_le {r r':RP} {x} (h:r.member=(x,r')):r.Le r'∧(r'.e=0→r.at_ < r'.at_):=by
  unfold RP.member at h
  split at h
  · cases h; exact ⟨.fail _ _ (by decide),fun h=>absurd h (RP.fail_e _ (by decide))⟩
  · split at h
    · cases h; exact ⟨.fail _ _ (by decide),fun h=>absurd h (RP.fail_e _ (by decide))⟩
    · split at h
      · exact ⟨(RP.Le.inc _).trans (escape_le h),fun _=>(escape_le h).at_⟩
      · cases h; exact ⟨.inc _,fun _=>Nat.lt_succ_self _⟩
end Go.Proofs.Ytaffcoiomggpfaa
