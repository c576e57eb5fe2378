import Derived.Test.YtaffcoiomggpfaaVR10b
import Derived.Test.YtaffcoiomggpfaaVMean
import Derived.Test.YtaffcoiomggpfaaVR08b
import Derived.Test.YtaffcoiomggpfaaFr11
/- The reference's automaton: reach,accepted. -/
namespace Go.Proofs.Ytaffcoiomggpfaa
open Go.V
attribute [local irreducible] app
set_option linter.constructorNameAsVariable false
set_option linter.unusedVariables false
open Classical in
noncomputable def bv (n:Nat) (P:Nat→Prop):List Value:=(List.range n).map fun j=>Value.bool (decide (P j))
theorem bv_length (n:Nat) (P:Nat→Prop):(bv n P).length=n:=by simp [bv]
open Classical in
theorem bv_get {n i:Nat} {P:Nat→Prop} (h:i < n):(bv n P)[i]?=some (.bool (decide (P i))):=by simp [bv,h]
theorem bv_congr {n:Nat} {P P':Nat→Prop} (h:∀ j,j < n→(P j↔P' j)):bv n P=bv n P':=by
  unfold bv
  refine List.map_congr_left fun k hk=>?_
  rw [List.mem_range] at hk
  exact congrArg Value.bool (decide_eq_decide.2 (h k hk))
def BA (H0 H:Heap) (p:OA) (n c:Nat) (P:Nat→Prop):Prop:=Ext H0 H∧Vec H 1 p n c (bv n P)∧∀ j,blk p j→H0 j=none
theorem BA.congr {H0 H:Heap} {p:OA} {n c:Nat} {P P':Nat→Prop} (h:BA H0 H p n c P) (e:∀ j,j < n→(P j↔P' j)):BA H0 H p n c P':=⟨h.1,by rw [← bv_congr e]; exact h.2.1,h.2.2⟩
theorem BA.base {H0 H1 H:Heap} {p:OA} {n c:Nat} {P:Nat→Prop} (h:BA H1 H p n c P) (he:Ext H0 H1):BA H0 H p n c P:=⟨he.trans h.1,h.2.1,fun j hj=>he.free (h.2.2 j hj)⟩
open Classical in
theorem bs_get {H:Heap} {p:OA} {n c i:Nat} {P:Nat→Prop} {K:Bool→Prop} (h:Vec H 1 p n c (bv n P)) (hi:i < n) (hK:K (decide (P i))) :
    (0≤(i:Int)∧(i:Int) < ((n:Nat):Int))∧ptr p fun q=>ldB (Addr.add q ((i:Int).toNat * 1)) H K:=by
  refine ⟨⟨by omega,by omega⟩,?_⟩
  obtain ⟨b,t,cs,rfl,q,g⟩:=vec_at1 h (n:=i) (bv_get hi)
  simp only [ptr_some,add_at,Int.toNat_natCast,Nat.mul_one,Nat.zero_add]
  exact ldB_at q g hK
theorem BA.put {H0 H:Heap} {p:OA} {n c i:Nat} {P:Nat→Prop} {K:Heap→Prop} (h:BA H0 H p n c P) (hi:i < n) (hK:∀ H',BA H0 H' p n c (fun j=>P j∨j=i)→K H') :
    (0≤(i:Int)∧(i:Int) < ((n:Nat):Int))∧ptr p fun q=>wr (Addr.add q ((i:Int).toNat * 1)) [.bool true] H K:=by
  obtain ⟨h1,h2,h3⟩:=h
  refine ⟨⟨by omega,by omega⟩,?_⟩
  obtain ⟨v1,v2,v3⟩:=id h2
  cases p with
  | none=>simp only [] at v3; omega
  | some a =>
    obtain ⟨b,cs,t,rfl,hb,hcs,hget⟩:=v3
    simp only [ptr_some,add_at,Int.toNat_natCast,Nat.mul_one,Nat.zero_add]
    have hb0:=h3 b ⟨_,rfl,rfl⟩
    refine wr_at hb (by simp; omega) rfl (hK _ ⟨h1.set hb0 _,⟨by rw [bv_length]; omega,v2,b,_,t,rfl,Heap.set_self _ _ _,?_,fun j hj=>?_⟩,h3⟩)
    · rw [over_size]; exact hcs
    · rw [over_get _ _ _ _ (by simp; omega),bv_get (by omega)]
      by_cases e:j=i
      · subst e
        rw [if_pos (by simp),Nat.sub_self]
        simp
      · rw [if_neg (by simp; omega),hget j hj,bv_get (by omega)]
        congr 2
        exact decide_eq_decide.2 (by simp [e])
def isF:Option Value→Bool
  | some (.bool b)=>!b
  | _=>false
def offs (b n:Nat) (H:Heap):Nat:=match H b with
  | some (Obj.cells c _ _)=>((List.range n).filter fun j=>isF c[j]?).length
  | _=>0
open Classical in
noncomputable def offP (n:Nat) (P:Nat→Prop):Nat:=((List.range n).filter fun j=>!decide (P j)).length
theorem offs_eq {H:Heap} {b n c:Nat} {P:Nat→Prop} (h:Vec H 1 (some ⟨b,0,none⟩) n c (bv n P)):offs b n H=offP n P:=by
  obtain ⟨_,_,b',cs,t,e,hb,_,hget⟩:=h
  cases e
  unfold offs offP
  simp only [hb]
  congr 1
  refine List.filter_congr fun j hj=>?_
  rw [List.mem_range] at hj
  rw [hget j (by omega),bv_get hj]; rfl
theorem filter_lt {α:Type} {p q:α→Bool}:∀ (l:List α),(∀ a ∈ l,q a=true→p a=true)→(∃ a ∈ l,p a=true∧q a=false)→(l.filter q).length < (l.filter p).length
  | [],_,⟨a,ha,_⟩=>by cases ha
  | x :: l,h,⟨a,ha,h1,h2⟩=>by
    have hle:∀ l:List α,(∀ a ∈ l,q a=true→p a=true)→(l.filter q).length≤(l.filter p).length:=by
      intro l
      induction l with
      | nil=>intro _; simp
      | cons y l ih =>
        intro hh
        have:=ih fun a ha=>hh a (by simp [ha])
        by_cases hy:q y=true
        · rw [List.filter_cons_of_pos hy,List.filter_cons_of_pos (hh y (by simp) hy)]; simp; omega
        · rw [List.filter_cons_of_neg hy]
          by_cases hp:p y=true
          · rw [List.filter_cons_of_pos hp]; simp; omega
          · rw [List.filter_cons_of_neg hp]; exact this
    have hl:=hle l fun a ha=>h a (by simp [ha])
    rcases List.mem_cons.1 ha with rfl | ha
    · rw [List.filter_cons_of_pos h1,List.filter_cons_of_neg (by rw [h2]; simp)]; simp; omega
    · have:=filter_lt l (fun a ha=>h a (by simp [ha])) ⟨a,ha,h1,h2⟩
      by_cases hx:q x=true
      · rw [List.filter_cons_of_pos hx,List.filter_cons_of_pos (h x (by simp) hx)]; simp; omega
      · rw [List.filter_cons_of_neg hx]
        by_cases hp:p x=true
        · rw [List.filter_cons_of_pos hp]; simp; omega
        · rw [List.filter_cons_of_neg hp]; exact this
theorem offP_lt {n i:Nat} {P P':Nat→Prop} (hi:i < n) (h:∀ j,P j→P' j) (h1:¬ P i) (h2:P' i):offP n P' < offP n P:=by
  unfold offP
  refine filter_lt _ (fun a ha hq=>?_) ⟨i,List.mem_range.2 hi,by simp [h1],by simp [h2]⟩
  simp at hq ⊢
  exact fun hp=>hq (h a hp)
theorem offP_congr {n:Nat} {P P':Nat→Prop} (h:∀ j,P j↔P' j):offP n P=offP n P':=by
  rw [show P=P' from funext fun j=>propext (h j)]
theorem rch_closed {st:List Nd} {bol eol:Bool} {P:Nat→Prop} (h:∀ q,P q→∀ s ∈ goes st bol eol q,P s) {a b:Nat} (hr:Rch st bol eol a b):P a→P b:=by
  induction hr with
  | here j=>exact id
  | more h1 _ ih=>exact fun hp=>ih (h _ hp _ h1)
def rmu (bb n:Nat) (x:Bool) (H:Heap):Nat:=match x with
  | true=>1+offs bb n H
  | false=>0
theorem sl111:SlT Pr 111 1:=.of (by kernel_rfl)
theorem bool_one (n:Nat) (P:Nat→Prop):(bv n P).all oneC=true:=by
  rw [List.all_eq_true]
  intro v hv
  unfold bv at hv
  obtain ⟨j,_,rfl⟩:=List.mem_map.1 hv
  rfl
open Classical in
set_option maxHeartbeats 4000000 in
theorem rreach_c {H:Heap} {ps p1:OA} {cs c1:Nat} {st:List Nd} {S:Nat→Prop} {bol eol:Bool} {Q:QT} {E:ET} (hv:Nds H ps st) (hN:NV st) (hS:Vec H 1 p1 st.length c1 (bv st.length S)) (hSl:∀ q,S q→q < st.length)
    (hk:∀ H' p c,BA H H' p st.length c (Cl st bol eol S)→Q (.slice p st.length c) H'):Does Pr 72 #[.slice ps st.length cs,.slice p1 st.length c1,.bool bol,.bool eol] H Q E:=by
  obtain ⟨n1,n2,hr,hkind⟩:=hN
  refine zqs2_fn _ _ _ _ _ _ _ _ Q E H ?_
  unfold zqs2 zqs2_47
  refine nw_ext fun i H1 hi he1 hc1=>?_
  have v0:Vec H1 1 (some ⟨i,0,none⟩) 0 0 []:=⟨rfl,Nat.le_refl _,i,_,4,rfl,hc1,rfl,fun j hj=>by omega⟩
  have hS1:=hS.ext he1
  refine app_vec (sz:=1) (n:=st.length) (ws:=bv st.length S) sl111 v0 (fun K hK=>⟨bv st.length S,by rw [bv_length]; omega,hS1.rdS,hK⟩) (by rw [bv_length]; omega) (bool_one _ _) (by omega) (by omega) fun p c H2 hv2 hs2 hb2=>?_
  have he2:Ext H H2:=ext_app he1 (fresh_blk hi) hs2
  have hf2:=fresh_app he1 (fresh_blk hi) hb2
  rw [List.nil_append,Nat.zero_add] at hv2
  rw [Nat.zero_add]
  have hA2:BA H H2 p st.length c S:=⟨he2,hv2,hf2⟩
  have hpos:0 < st.length:=by omega
  obtain ⟨bb,hpb⟩:∃ bb,p=some ⟨bb,0,none⟩:=by
    obtain ⟨b,t,cc,e,_⟩:=vec_at1 hv2 (n:=0) (bv_get hpos)
    exact ⟨b,e⟩
  have hClt:∀ q,Cl st bol eol S q→q < st.length:=by
    rintro q ⟨j,hj,hrc⟩
    exact rch_closed (P:=fun q=>q < st.length) (fun q hq s hs=>goes_lt hr hq hs) hrc (hSl j hj)
  clear hv2 hs2 hb2 he2 hf2 v0 hc1 hS1
  unfold zqs2_43 zqs2_40
  refine ⟨fun x H'=>∃ P:Nat→Prop,BA H H' p st.length c P∧(∀ q,S q→P q)∧(∀ q,P q→Cl st bol eol S q)∧(x=false→∀ q,P q→∀ s ∈ goes st bol eol q,P s),fun x H'=>rmu bb st.length x H',
    ⟨S,hA2,fun q h=>h,fun q h=>⟨q,h,.here q⟩,fun h=>by cases h⟩,?_⟩
  rintro x H3 ⟨P,hA,hSP,hPC,hcl⟩
  unfold zqs2_37
  refine sel_mk (fun hx=>?_) (fun hx=>?_)
  · subst hx
    have hoff3:offs bb st.length H3=offP st.length P:=by subst hpb; exact offs_eq hA.2.1
    unfold zqs2_33 zqs2_30 zqs2_27
    refine ⟨fun a y H'=>∃ (j:Nat) (P':Nat→Prop),y=(j:Nat)∧j≤st.length∧BA H H' p st.length c P'∧(∀ q,P q→P' q)∧(∀ q,P' q→Cl st bol eol S q)∧(a=true→offP st.length P' < offP st.length P)∧(a=false→(∀ q,P' q→P q)∧∀ q,q < j→P q→∀ s ∈ goes st bol eol q,P s),
      fun _ y _=>((st.length:Int) - y).toNat,⟨0,P,rfl,by omega,hA,fun q h=>h,hPC,fun h=>(by cases h),fun _=>⟨fun q h=>h,fun q h=>by omega⟩⟩,?_⟩
    rintro ag y H4 ⟨j,P',rfl,hj,hA4,hPP,hPC',hag,hna⟩
    unfold zqs2_24
    refine sel_dec (fun hlt=>?_) (fun hge=>?_)
    · have hlt:j < st.length:=by omega
      have hnode:=getD_some hlt
      have hrx:=hr _ (List.mem_iff_getElem?.2 ⟨j,hnode⟩)
      have hgo:goes st bol eol j=goes st bol eol j:=rfl
      conv at hgo=>rhs; unfold goes
      have hkx:=hkind _ (List.mem_iff_getElem?.2 ⟨j,hnode⟩)
      generalize st.getD j default=X at hnode hrx hgo hkx
      obtain ⟨ol,eol'⟩:∃ n:Nat,X.l=(n:Nat):=⟨X.l.toNat,by omega⟩
      obtain ⟨orr,eor⟩:∃ n:Nat,X.r=(n:Nat):=⟨X.r.toNat,by omega⟩
      have hol:ol < st.length:=by omega
      have hor:orr < st.length:=by omega
      rw [eol',eor] at hgo
      simp only [Int.toNat_natCast] at hgo
      -- the next state
      have next:∀ (a:Bool) (P2:Nat→Prop) (H':Heap),BA H H' p st.length c P2→(∀ q,P q→P2 q)→(∀ q,P2 q→Cl st bol eol S q)→(a=true→offP st.length P2 < offP st.length P) →
          (a=false→(∀ q,P2 q→P q)∧∀ q,q < j+1→P q→∀ s ∈ goes st bol eol q,P s) →
          zqs2_3 (fun x10' H1=>(∃ P:Nat→Prop,BA H H1 p st.length c P∧(∀ q,S q→P q)∧(∀ q,P q→Cl st bol eol S q)∧(x10'=false→∀ q,P q→∀ s ∈ goes st bol eol q,P s))∧rmu bb st.length x10' H1 < rmu bb st.length true H3)
            (fun x10' x11' H1=>(∃ (j:Nat) (P':Nat→Prop),x11'=(j:Nat)∧j≤st.length∧BA H H1 p st.length c P'∧(∀ q,P q→P' q)∧(∀ q,P' q→Cl st bol eol S q)∧(x10'=true→offP st.length P' < offP st.length P)∧(x10'=false→(∀ q,P' q→P q)∧∀ q,q < j→P q→∀ s ∈ goes st bol eol q,P s))∧((st.length:Int) - x11').toNat < ((st.length:Int) - (j:Nat)).toNat)
            Q E ps st.length cs bol eol p st.length c a j H':=by
        intro a P2 H' g1 g2 g3 g4 g5
        unfold zqs2_3
        rw [wrap_succ (by omega)]
        exact ⟨⟨j+1,P2,rfl,by omega,g1,g2,g3,g4,g5⟩,by omega⟩
      unfold zqs2_19
      refine bs_get hA4.2.1 hlt (sel_not (fun hd=>?_) (fun hd=>?_))
      · have hnp:¬ P' j:=of_decide_eq_false hd
        exact next ag P' H4 hA4 hPP hPC' hag fun h=>⟨(hna h).1,fun q hq hPq=>by
          by_cases e:q=j
          · subst e; exact absurd (hPP _ hPq) hnp
          · exact (hna h).2 q (by omega) hPq⟩
      have hpj:P' j:=of_decide_eq_true hd
      have hCj:=hPC' j hpj
      -- behind both: the flag and the set
      have fin5:∀ (b a:Bool) (P2:Nat→Prop) (H':Heap),BA H H' p st.length c P2→(∀ q,P' q→P2 q)→(∀ q,P2 q→Cl st bol eol S q)→(a=true→offP st.length P2 < offP st.length P)→(a=false→(∀ q,P2 q→P' q)∧ag=false) →
          (b=true→orr ∈ goes st bol eol j∧¬ P2 orr)→(b=false→∀ s ∈ goes st bol eol j,P2 s) →
          zqs2_5 (fun x10' H1=>(∃ P:Nat→Prop,BA H H1 p st.length c P∧(∀ q,S q→P q)∧(∀ q,P q→Cl st bol eol S q)∧(x10'=false→∀ q,P q→∀ s ∈ goes st bol eol q,P s))∧rmu bb st.length x10' H1 < rmu bb st.length true H3)
            (fun x10' x11' H1=>(∃ (j:Nat) (P':Nat→Prop),x11'=(j:Nat)∧j≤st.length∧BA H H1 p st.length c P'∧(∀ q,P q→P' q)∧(∀ q,P' q→Cl st bol eol S q)∧(x10'=true→offP st.length P' < offP st.length P)∧(x10'=false→(∀ q,P' q→P q)∧∀ q,q < j→P q→∀ s ∈ goes st bol eol q,P s))∧((st.length:Int) - x11').toNat < ((st.length:Int) - (j:Nat)).toNat)
            Q E ps st.length cs bol eol p st.length c a j b H':=by
        intro b a P2 H' g1 g2 g3 g4 g5 g6 g7
        have hv':=hv.ext g1.1
        unfold zqs2_5
        refine sel_mk (fun hb=>?_) (fun hb=>?_)
        · obtain ⟨w1,w2⟩:=g6 hb
          refine nd_get (o:=2) hv' hnode (by omega) (n:=X.r) rfl ?_
          rw [eor]
          refine g1.put hor fun H6 h6=>?_
          refine next true _ H6 h6 (fun q hq=>.inl (g2 q (hPP q hq))) (fun q hq=>hq.elim (g3 q) (fun e=>by rw [e]; exact hCj.closed w1)) (fun _=>?_) (fun h=>by cases h)
          have hle:offP st.length (fun j=>P2 j∨j=orr) < offP st.length P2:=offP_lt hor (fun j h=>.inl h) w2 (.inr rfl)
          have hle2:offP st.length P2≤offP st.length P:=by
            cases ha:a
            · obtain ⟨u1,u2⟩:=g5 ha
              exact Nat.le_of_eq (offP_congr fun z=>⟨fun h=>(hna u2).1 z (u1 z h),fun h=>g2 z (hPP z h)⟩)
            · exact Nat.le_of_lt (g4 ha)
          omega
        · refine next a P2 H' g1 (fun q hq=>g2 q (hPP q hq)) g3 g4 fun ha=>?_
          obtain ⟨u1,u2⟩:=g5 ha
          refine ⟨fun q hq=>(hna u2).1 q (u1 q hq),fun q hq hPq=>?_⟩
          by_cases e:q=j
          · subst e; exact fun s hs=>(hna u2).1 s (u1 s (g7 hb s hs))
          · exact (hna u2).2 q (by omega) hPq
      have fin7:∀ (a:Bool) (P2:Nat→Prop) (H':Heap),BA H H' p st.length c P2→(∀ q,P' q→P2 q)→(∀ q,P2 q→Cl st bol eol S q)→(a=true→offP st.length P2 < offP st.length P)→(a=false→(∀ q,P2 q→P' q)∧ag=false) →
          (ol ∈ goes st bol eol j→P2 ol) →
          zqs2_7 (fun x10' H1=>(∃ P:Nat→Prop,BA H H1 p st.length c P∧(∀ q,S q→P q)∧(∀ q,P q→Cl st bol eol S q)∧(x10'=false→∀ q,P q→∀ s ∈ goes st bol eol q,P s))∧rmu bb st.length x10' H1 < rmu bb st.length true H3)
            (fun x10' x11' H1=>(∃ (j:Nat) (P':Nat→Prop),x11'=(j:Nat)∧j≤st.length∧BA H H1 p st.length c P'∧(∀ q,P q→P' q)∧(∀ q,P' q→Cl st bol eol S q)∧(x10'=true→offP st.length P' < offP st.length P)∧(x10'=false→(∀ q,P' q→P q)∧∀ q,q < j→P q→∀ s ∈ goes st bol eol q,P s))∧((st.length:Int) - x11').toNat < ((st.length:Int) - (j:Nat)).toNat)
            Q E ps st.length cs bol eol p st.length c a j X.k H':=by
        intro a P2 H' g1 g2 g3 g4 g5 g6
        have hv':=hv.ext g1.1
        unfold zqs2_7
        refine sel_beq (fun h2=>?_) (fun h2=>?_)
        · rw [if_pos h2] at hgo
          refine nd_get (o:=2) hv' hnode (by omega) (n:=X.r) rfl ?_
          rw [eor]
          refine bs_get g1.2.1 hor ?_
          refine fin5 _ a P2 H' g1 g2 g3 g4 g5 (fun hb=>⟨by rw [hgo]; simp,by simpa using hb⟩) (fun hb s hs=>?_)
          have hb:P2 orr:=by simpa using hb
          rw [hgo] at hs
          simp only [List.mem_cons,List.not_mem_nil,or_false] at hs
          rcases hs with rfl | rfl
          · exact hb
          · exact g6 (by rw [hgo]; simp)
        · refine fin5 false a P2 H' g1 g2 g3 g4 g5 (fun h=>by cases h) (fun _ s hs=>?_)
          have hs':=hs
          rw [hgo,if_neg h2] at hs'
          split at hs'
          · simp only [List.mem_cons,List.not_mem_nil,or_false] at hs'
            subst hs'; exact g6 hs
          · simp at hs'
      have hv4:=hv.ext hA4.1
      have fin10:∀ b:Bool,(b=true→ol ∈ goes st bol eol j∧¬ P' ol)→(b=false→ol ∈ goes st bol eol j→P' ol) →
          zqs2_10 (fun x10' H1=>(∃ P:Nat→Prop,BA H H1 p st.length c P∧(∀ q,S q→P q)∧(∀ q,P q→Cl st bol eol S q)∧(x10'=false→∀ q,P q→∀ s ∈ goes st bol eol q,P s))∧rmu bb st.length x10' H1 < rmu bb st.length true H3)
            (fun x10' x11' H1=>(∃ (j:Nat) (P':Nat→Prop),x11'=(j:Nat)∧j≤st.length∧BA H H1 p st.length c P'∧(∀ q,P q→P' q)∧(∀ q,P' q→Cl st bol eol S q)∧(x10'=true→offP st.length P' < offP st.length P)∧(x10'=false→(∀ q,P' q→P q)∧∀ q,q < j→P q→∀ s ∈ goes st bol eol q,P s))∧((st.length:Int) - x11').toNat < ((st.length:Int) - (j:Nat)).toNat)
            Q E ps st.length cs bol eol p st.length c ag j X.k b H4:=by
        intro b g6 g7
        unfold zqs2_10
        refine sel_mk (fun hb=>?_) (fun hb=>?_)
        · obtain ⟨w1,w2⟩:=g6 hb
          refine nd_get (o:=1) hv4 hnode (by omega) (n:=X.l) rfl ?_
          rw [eol']
          refine hA4.put hol fun H6 h6=>?_
          refine fin7 true _ H6 h6 (fun q hq=>.inl hq) (fun q hq=>hq.elim (hPC' q) (fun e=>by rw [e]; exact hCj.closed w1)) (fun _=>?_) (fun h=>by cases h) (fun _=>.inr rfl)
          have hle:offP st.length (fun j=>P' j∨j=ol) < offP st.length P':=offP_lt hol (fun j h=>.inl h) w2 (.inr rfl)
          have hle2:offP st.length P'≤offP st.length P:=by
            cases ha:ag
            · exact Nat.le_of_eq (offP_congr fun z=>⟨fun h=>(hna ha).1 z h,fun h=>hPP z h⟩)
            · exact Nat.le_of_lt (hag ha)
          omega
        · exact fin7 ag P' H4 hA4 (fun q h=>h) hPC' hag (fun h=>⟨fun q h=>h,h⟩) (g7 hb)
      -- the state's kind
      have look:ol ∈ goes st bol eol j→(0≤(j:Int)∧(j:Int) < ((st.length:Nat):Int))∧ptr ps fun q129 =>
          ldI .i64 (Addr.add (Addr.add q129 ((j:Int).toNat * 7)) 1) H4 fun n130 =>
          (0≤n130∧n130 < ((st.length:Nat):Int))∧ptr p fun q131 =>
          ldB (Addr.add q131 (n130.toNat * 1)) H4 fun b132 =>
          zqs2_10 (fun x10' H1=>(∃ P:Nat→Prop,BA H H1 p st.length c P∧(∀ q,S q→P q)∧(∀ q,P q→Cl st bol eol S q)∧(x10'=false→∀ q,P q→∀ s ∈ goes st bol eol q,P s))∧rmu bb st.length x10' H1 < rmu bb st.length true H3)
            (fun x10' x11' H1=>(∃ (j:Nat) (P':Nat→Prop),x11'=(j:Nat)∧j≤st.length∧BA H H1 p st.length c P'∧(∀ q,P q→P' q)∧(∀ q,P' q→Cl st bol eol S q)∧(x10'=true→offP st.length P' < offP st.length P)∧(x10'=false→(∀ q,P' q→P q)∧∀ q,q < j→P q→∀ s ∈ goes st bol eol q,P s))∧((st.length:Int) - x11').toNat < ((st.length:Int) - (j:Nat)).toNat)
            Q E ps st.length cs bol eol p st.length c ag j X.k (!b132) H4:=by
        intro hin
        refine nd_get (o:=1) hv4 hnode (by omega) (n:=X.l) rfl ?_
        rw [eol']
        refine bs_get hA4.2.1 hol ?_
        exact fin10 _ (fun hb=>⟨hin,by simpa using hb⟩) (fun hb _=>by simpa using hb)
      have none10 : ol ∉ goes st bol eol j → zqs2_10 (fun x10' H1 => (∃ P : Nat → Prop, BA H H1 p st.length c P ∧ (∀ q, S q → P q) ∧ (∀ q, P q → Cl st bol eol S q) ∧ (x10' = false → ∀ q, P q → ∀ s ∈ goes st bol eol q, P s)) ∧ rmu bb st.length x10' H1 < rmu bb st.length true H3)
            (fun x10' x11' H1=>(∃ (j:Nat) (P':Nat→Prop),x11'=(j:Nat)∧j≤st.length∧BA H H1 p st.length c P'∧(∀ q,P q→P' q)∧(∀ q,P' q→Cl st bol eol S q)∧(x10'=true→offP st.length P' < offP st.length P)∧(x10'=false→(∀ q,P' q→P q)∧∀ q,q < j→P q→∀ s ∈ goes st bol eol q,P s))∧((st.length:Int) - x11').toNat < ((st.length:Int) - (j:Nat)).toNat)
            Q E ps st.length cs bol eol p st.length c ag j X.k false H4:=fun hno=>fin10 false (fun h=>by cases h) (fun _ h=>absurd h hno)
      unfold zqs2_16
      refine nd_get0 hv4 hnode ?_
      unfold zqs2_12
      have e2:X.k=2→ol ∈ goes st bol eol j:=fun h=>by rw [hgo,if_pos h]; simp
      have e3:X.k=3→bol=true→ol ∈ goes st bol eol j:=fun h hb=>by rw [hgo,if_neg (by omega),if_pos (.inl ⟨h,hb⟩)]; simp
      have e4:X.k=4→eol=true→ol ∈ goes st bol eol j:=fun h hb=>by rw [hgo,if_neg (by omega),if_pos (.inr ⟨h,hb⟩)]; simp
      have e0:¬ X.k=2→¬ (X.k=3∧bol=true)→¬ (X.k=4∧eol=true)→ol ∉ goes st bol eol j:=fun h1 h2 h3=>by
        rw [hgo,if_neg h1,if_neg (fun h=>h.elim h2 h3)]; simp
      refine sel_beq (fun h2=>look (e2 h2)) (fun h2=>?_)
      refine sel_beq (fun h3=>?_) (fun h3=>?_)
      · refine sel_mk (fun hb=>look (e3 h3 hb)) (fun hb=>?_)
        refine sel_beq (fun h4=>by omega) (fun h4=>none10 (e0 h2 (fun h=>by rw [hb] at h; cases h.2) (fun h=>h4 h.1)))
      · refine sel_beq (fun h4=>?_) (fun h4=>none10 (e0 h2 (fun h=>h3 h.1) (fun h=>h4 h.1)))
        refine sel_mk (fun hb=>look (e4 h4 hb)) (fun hb=>none10 (e0 h2 (fun h=>h3 h.1) (fun h=>by rw [hb] at h; cases h.2)))
    · obtain rfl:j=st.length:=by omega
      refine ⟨⟨P',hA4,fun q h=>hPP q (hSP q h),hPC',fun ha q hq s hs=>?_⟩,?_⟩
      · obtain ⟨u1,u2⟩:=hna ha
        have hq':=u1 q hq
        exact hPP s (u2 q (hClt q (hPC q hq')) hq' s hs)
      · show rmu bb st.length ag H4 < rmu bb st.length true H3
        unfold rmu
        cases ha:ag
        · simp only []; omega
        · have h4:offs bb st.length H4=offP st.length P':=by subst hpb; exact offs_eq hA4.2.1
          have:=hag ha
          simp only [h4,hoff3]; omega
  · unfold zqs2_1
    refine hk H3 p c (hA.congr fun q _=>⟨hPC q,?_⟩)
    rintro ⟨a,ha,hrc⟩
    exact rch_closed (hcl hx) hrc (hSP a ha)
end Go.Proofs.Ytaffcoiomggpfaa
/- The reference's automaton: accepted,Run. -/
namespace Go.Proofs.Ytaffcoiomggpfaa
open Go.V
attribute [local irreducible] app
set_option linter.constructorNameAsVariable false
set_option linter.unusedVariables false
theorem raccepted_c {H:Heap} {ps p1:OA} {cs c1:Nat} {st:List Nd} {P:Nat→Prop} {Q:QT} {E:ET} (hv:Nds H ps st) (hn:st.length≤513) (hS:Vec H 1 p1 st.length c1 (bv st.length P))
    (hk:∀ b:Bool,(b=true↔∃ q,q < st.length∧P q∧(st.getD q default).k=5)→Q (.bool b) H):Does Pr 71 #[.slice ps st.length cs,.slice p1 st.length c1] H Q E:=by
  classical
  refine zqr2_fn _ _ _ _ _ _ Q E H ?_
  unfold zqr2 zqr2_18 zqr2_15
  refine ⟨fun x H'=>∃ j:Nat,x=(j:Nat)∧j≤st.length∧H'=H∧∀ q,q < j→¬ (P q∧(st.getD q default).k=5),fun x _=>((st.length:Int) - x).toNat,⟨0,rfl,by omega,rfl,fun q h=>by omega⟩,?_⟩
  rintro x H2 ⟨j,rfl,hj,rfl,hno⟩
  unfold zqr2_12
  refine sel_dec (fun hlt=>?_) (fun hge=>?_)
  · have hlt:j < st.length:=by omega
    have next:¬ (P j∧(st.getD j default).k=5)→zqr2_5 (fun x' H'=>(∃ j:Nat,x'=(j:Nat)∧j≤st.length∧H'=H2∧∀ q,q < j→¬ (P q∧(st.getD q default).k=5))∧((st.length:Int) - x').toNat < ((st.length:Int) - (j:Nat)).toNat) Q E ps st.length cs p1 st.length c1 j false H2:=by
      intro hn'
      unfold zqr2_5
      refine sel_ff ?_
      unfold zqr2_3
      rw [wrap_succ (by omega)]
      refine ⟨⟨j+1,rfl,by omega,rfl,fun q hq=>?_⟩,by omega⟩
      by_cases e:q=j
      · subst e; exact hn'
      · exact hno q (by omega)
    unfold zqr2_7
    refine bs_get hS hlt (sel_cl (fun hp=>?_) (fun hp=>next fun h=>hp h.1))
    refine nd_get0 hv (getD_some hlt) ?_
    by_cases h5:(st.getD j default).k=5
    · unfold zqr2_5
      rw [show ((st.getD j default).k == 5)=true by simpa using h5]
      exact sel_tt (hk true ⟨fun _=>⟨j,hlt,hp,h5⟩,fun _=>rfl⟩)
    · rw [show ((st.getD j default).k == 5)=false by simpa using h5]
      exact next fun h=>h5 h.2
  · unfold zqr2_1
    exact hk false ⟨fun h=>(by cases h),fun ⟨q,h1,h2⟩=>absurd h2 (hno q (by omega))⟩
theorem BA.put0 {H0 H:Heap} {p:OA} {n c:Nat} {P:Nat→Prop} {K:Heap→Prop} (h:BA H0 H p n c P) (hn:0 < n) (hK:∀ H',BA H0 H' p n c (fun j=>P j∨j=0)→K H') :
    (0≤(0:Int)∧(0:Int) < ((n:Nat):Int))∧ptr p fun q=>wr q [.bool true] H K:=by
  refine ⟨⟨by omega,by omega⟩,?_⟩
  obtain ⟨_,g⟩:=h.put (i:=0) hn hK
  obtain ⟨b,t,cs,rfl,_,_⟩:=vec_at1 h.2.1 (n:=0) (bv_get hn)
  simp only [ptr_some] at g ⊢
  have e:Addr.add ⟨b,0,none⟩ (((0:Nat):Int).toNat * 1)=⟨b,0,none⟩:=by rw [add_at]; rfl
  rw [e] at g
  exact g
theorem nds_set {H:Heap} {p:OA} {st:List Nd} {i:Nat} {x:Nd} {K:Addr→Prop} (hv:Nds H p st) (hx:st[i]?=some x) (hK:∀ q:Addr,Heap.rd H (Addr.add (Addr.add q ((i:Int).toNat * 7)) 3) 0 [.int .u64 x.a,.int .u64 x.b,.int .u64 x.c,.int .u64 x.d]→K q) :
    (0≤(i:Int)∧(i:Int) < ((st.length:Nat):Int))∧ptr p K:=by
  have hlt:=(List.getElem?_eq_some_iff.1 hx).1
  refine ⟨⟨by omega,by omega⟩,?_⟩
  obtain ⟨a,rfl,hrd⟩:=hv i x hx
  simp only [ptr_some]
  refine hK a ?_
  rw [Int.toNat_natCast]
  have e:∀ j,((a.add (i * 7)).add 3).add j=(a.add (i * 7)).add (0+(3+j)):=fun j=>by rw [add_add,Nat.zero_add]
  refine ⟨by rw [e]; exact rd_get hrd rfl,by rw [e]; exact rd_get hrd rfl,by rw [e]; exact rd_get hrd rfl,by rw [e]; exact rd_get hrd rfl,trivial⟩
theorem bv_false (n:Nat):bv n (fun _=>False)=rep n [Value.bool false]:=by
  rw [rep_one]
  unfold bv
  apply List.ext_getElem
  · simp
  · intro j h1 h2; simp
set_option maxHeartbeats 4000000 in
theorem rRun_c {H:Heap} {ps pt:OA} {cs nt ct g:Nat} {st:List Nd} {bs:List UInt8} {Q:QT} {E:ET} (hv:Nds H ps st) (hN:NV st) (h5:∀ j,j < st.length→((st.getD j default).k=5↔j=g)) (hg:g < st.length)
    (hb:Byt H pt nt ct bs) (hn:nt < 60000) (hk:∀ H' F,Ext H H'→Least (Mt st g (bs.map UInt8.toNat)) 0 nt F (-1)→Q (.int .i64 F) H'):Does Pr 39 #[.slice ps st.length cs,.slice pt nt ct] H Q E:=by
  classical
  have hN':=hN
  obtain ⟨n1,n2,hr,hkind⟩:=hN'
  have hbl:=hb.1
  have htl:(bs.map UInt8.toNat).length=nt:=by rw [List.length_map]; exact hbl
  refine zqp2_fn _ _ _ _ _ _ Q E H ?_
  unfold zqp2 zqp2_65
  refine r10Valid_c hv hN ⟨_,rfl,sel_ff ?_⟩
  unfold zqp2_62
  have hcl0:∀ (P:Nat→Prop),(∀ q,P q→q < st.length)→∀ bol eol q,Cl st bol eol P q→q < st.length:=by
    rintro P hP bol eol q ⟨j,hj,hrc⟩
    exact rch_closed (P:=fun q=>q < st.length) (fun q hq s hs=>goes_lt hr hq hs) hrc (hP j hj)
  have hacc:∀ (P:Nat→Prop),(∀ q,P q→q < st.length)→((∃ q,q < st.length∧P q∧(st.getD q default).k=5)↔P g):=fun P hP =>
    ⟨fun ⟨q,h1,h2,h3⟩=>by rw [← (h5 q h1).1 h3]; exact h2,fun h=>⟨g,hg,h,(h5 g hg).2 rfl⟩⟩
  have make:∀ (H1:Heap) (K:Nat→Heap→Prop),Ext H H1→(∀ i H2,BA H1 H2 (some ⟨i,0,none⟩) st.length st.length (fun _=>False)→K i H2)→nw (.cells (rep st.length [Value.bool false]).toArray 4 (0,0)) H1 K:=by
    intro H1 K he hK
    refine nw_ext fun i H2 hi he2 hc2=>hK i H2 ⟨he2,⟨by rw [bv_length]; omega,Nat.le_refl _,i,_,4,rfl,hc2,by rw [rep_one]; simp,fun j hj=>by rw [bv_false]; simp⟩,fresh_blk hi⟩
  simp only [Int.toNat_natCast]
  refine ⟨⟨by omega,by omega,by omega,by omega⟩,make H _ (Ext.refl _) fun i0 H1 hA1=>?_⟩
  unfold zqp2_58 zqp2_55
  refine ⟨fun x5 l5 c5 x6 H'=>∃ (i:Nat) (P:Nat→Prop),x6=(i:Nat)∧l5=st.length∧i≤nt+1∧BA H H' x5 st.length c5 P∧(∀ q,P q→q < st.length)∧(i≤nt→Trk st g (bs.map UInt8.toNat) i (fun j=>P j∨j=0)∧Old st g (bs.map UInt8.toNat) i)∧∀ k,k < i→¬ Mt st g (bs.map UInt8.toNat) k,
    fun _ _ _ x6 _=>((nt:Int)+1 - x6).toNat,⟨0,fun _=>False,rfl,rfl,by omega,hA1,fun q h=>h.elim,fun _=>⟨trk_0 fun q=>by simp,old_0⟩,fun k h=>by omega⟩,?_⟩
  rintro x5 l5 c5 x6 H2 ⟨i,P,rfl,rfl,hi,hA,hPl,hT,hno⟩
  unfold zqp2_52
  refine sel_dec (fun hle=>?_) (fun hgt=>?_)
  · have hle:i≤nt:=by omega
    obtain ⟨hTr,hOld⟩:=hT hle
    unfold zqp2_47
    refine hA.put0 (by omega) fun H3 hA3=>?_
    have hP0:∀ q,(fun j=>P j∨j=0) q→q < st.length:=fun q h=>h.elim (hPl q) (fun e=>by omega)
    generalize (fun j=>P j∨j=0)=P0 at hTr hA3 hP0
    have main:∀ bol:Bool,(bol=true↔bolAt (bs.map UInt8.toNat) i)→zqp2_41 (fun x5' l5' c5' x6' H1=>(∃ (i:Nat) (P:Nat→Prop),x6'=(i:Nat)∧l5'=st.length∧i≤nt+1∧BA H H1 x5' st.length c5' P∧(∀ q,P q→q < st.length)∧(i≤nt→Trk st g (bs.map UInt8.toNat) i (fun j=>P j∨j=0)∧Old st g (bs.map UInt8.toNat) i)∧∀ k,k < i→¬ Mt st g (bs.map UInt8.toNat) k)∧((nt:Int)+1 - x6').toNat < ((nt:Int)+1 - (i:Nat)).toNat)
        Q E ps st.length cs pt nt ct x5 st.length c5 i bol H3:=by
      intro bol hbol
      have body:∀ eol:Bool,(eol=true↔(bs.map UInt8.toNat)[i]?=some 10)→zqp2_38 (fun x5' l5' c5' x6' H1=>(∃ (i:Nat) (P:Nat→Prop),x6'=(i:Nat)∧l5'=st.length∧i≤nt+1∧BA H H1 x5' st.length c5' P∧(∀ q,P q→q < st.length)∧(i≤nt→Trk st g (bs.map UInt8.toNat) i (fun j=>P j∨j=0)∧Old st g (bs.map UInt8.toNat) i)∧∀ k,k < i→¬ Mt st g (bs.map UInt8.toNat) k)∧((nt:Int)+1 - x6').toNat < ((nt:Int)+1 - (i:Nat)).toNat)
          Q E ps st.length cs pt nt ct x5 st.length c5 i bol eol H3:=by
        intro eol heol
        have hv3:=hv.ext hA3.1
        unfold zqp2_38
        refine rreach_c hv3 hN hA3.2.1 hP0 fun H4 p4 c4 hA4=>⟨_,_,_,rfl,?_⟩
        refine raccepted_c (hv3.ext hA4.1) n2 hA4.2.1 fun b4 hb4=>⟨_,rfl,?_⟩
        rw [hacc _ (hcl0 P0 hP0 bol false)] at hb4
        have he4:=hA3.1.trans hA4.1
        refine sel_mk (fun ht=>?_) (fun hf=>?_)
        · refine hk H4 (i:Nat) he4 (.inr ⟨i,by omega,hle,rfl,hit_here hTr hbol (hb4.1 ht),fun k' _ hk'=>hno k' hk'⟩)
        have hng:¬ Cl st bol false P0 g:=fun h=>by rw [hb4.2 h] at hf; cases hf
        have hmiss:=miss_here hOld hTr hbol hng
        unfold zqp2_35
        refine rreach_c (hv3.ext hA4.1) hN (hA3.2.1.ext hA4.1) hP0 fun H5 p5 c5' hA5=>⟨_,_,_,rfl,?_⟩
        have he5:=he4.trans hA5.1
        unfold zqp2_32
        refine raccepted_c (hv.ext he5) n2 hA5.2.1 fun b5 hb5=>⟨_,rfl,?_⟩
        rw [hacc _ (hcl0 P0 hP0 bol eol)] at hb5
        rw [wrap_succ (by omega)]
        refine sel_mk (fun ht=>?_) (fun hf5=>?_)
        · have hCg:=hb5.1 ht
          have he:eol=true:=by
            cases he:eol
            · rw [he] at hCg; exact absurd hCg hng
            · rfl
          have h10:=heol.1 he
          have hlt:i < nt:=by
            have:=(List.getElem?_eq_some_iff.1 h10).1; omega
          refine hk H5 ((i+1:Nat):Int) he5 (.inr ⟨i+1,by omega,by omega,rfl,hit_eol hTr hbol h10 hCg,fun k' _ hk'=>?_⟩)
          by_cases e:k'=i
          · subst e; exact hmiss
          · exact hno k' (by omega)
        have hng5:¬ Cl st bol eol P0 g:=fun h=>by rw [hb5.2 h] at hf5; cases hf5
        unfold zqp2_29
        simp only [Int.toNat_natCast]
        refine ⟨⟨by omega,by omega,by omega,by omega⟩,make H5 _ he5 fun i6 H6 hA6=>?_⟩
        have hno':∀ k,k < i+1→¬ Mt st g (bs.map UInt8.toNat) k:=fun k hk'=>by
          by_cases e:k=i
          · subst e; exact hmiss
          · exact hno k (by omega)
        have out:∀ (P':Nat→Prop) (H7:Heap),BA H5 H7 (some ⟨i6,0,none⟩) st.length st.length P'→(∀ q,P' q→q < st.length)→(i+1≤nt→Trk st g (bs.map UInt8.toNat) (i+1) (fun j=>P' j∨j=0)∧Old st g (bs.map UInt8.toNat) (i+1)) →
            zqp2_5 (fun x5' l5' c5' x6' H1=>(∃ (i:Nat) (P:Nat→Prop),x6'=(i:Nat)∧l5'=st.length∧i≤nt+1∧BA H H1 x5' st.length c5' P∧(∀ q,P q→q < st.length)∧(i≤nt→Trk st g (bs.map UInt8.toNat) i (fun j=>P j∨j=0)∧Old st g (bs.map UInt8.toNat) i)∧∀ k,k < i→¬ Mt st g (bs.map UInt8.toNat) k)∧((nt:Int)+1 - x6').toNat < ((nt:Int)+1 - (i:Nat)).toNat)
              Q E ps st.length cs pt nt ct i (some ⟨i6,0,none⟩) st.length st.length H7:=by
          intro P' H7 h1 h2 h3
          unfold zqp2_5 zqp2_3
          rw [wrap_succ (by omega)]
          exact ⟨⟨i+1,P',rfl,rfl,by omega,h1.base he5,h2,h3,hno'⟩,by omega⟩
        unfold zqp2_25 zqp2_22
        by_cases hin:i < nt
        · have hi1:i < bs.length:=by omega
          have hbk:bs[i]?=some bs[i]:=List.getElem?_eq_getElem hi1
          generalize bs[i]=w at hbk
          have htk:=text_at hbk
          have hw255:w.toNat≤255:=by have:=w.toNat_lt; omega
          have heol':eol=true↔w.toNat=10:=by rw [heol,htk]; simp
          refine ⟨fun y H'=>∃ k:Nat,y=(k:Nat)∧k≤st.length∧BA H5 H' (some ⟨i6,0,none⟩) st.length st.length (fun j=>∃ q,q < k∧Cl st bol eol P0 q∧(st.getD q default).k=1∧(st.getD q default).set.has w.toNat=true∧j=(st.getD q default).l.toNat),fun y _=>((st.length:Int) - y).toNat,
            ⟨0,rfl,by omega,hA6.congr fun j _=>by simp⟩,?_⟩
          rintro y H7 ⟨k,rfl,hkl,hA7⟩
          unfold zqp2_18
          have he7:=he5.trans hA7.1
          refine sel_dec (fun hlt=>?_) (fun hge=>?_)
          · have hlt:k < st.length:=by omega
            have hnode:=getD_some hlt
            have hrx:=hr _ (List.mem_iff_getElem?.2 ⟨k,hnode⟩)
            have hstep:∀ j,(∃ q,q < k+1∧Cl st bol eol P0 q∧(st.getD q default).k=1∧(st.getD q default).set.has w.toNat=true∧j=(st.getD q default).l.toNat) ↔
                (∃ q,q < k∧Cl st bol eol P0 q∧(st.getD q default).k=1∧(st.getD q default).set.has w.toNat=true∧j=(st.getD q default).l.toNat)∨(Cl st bol eol P0 k∧(st.getD k default).k=1∧(st.getD k default).set.has w.toNat=true∧j=(st.getD k default).l.toNat):=fun j=>by
              constructor
              · rintro ⟨q,h1,h2⟩
                by_cases e:q=k
                · subst e; exact .inr h2
                · exact .inl ⟨q,by omega,h2⟩
              · rintro (⟨q,h1,h2⟩ | h2)
                · exact ⟨q,by omega,h2⟩
                · exact ⟨k,by omega,h2⟩
            generalize st.getD k default=X at hnode hrx hstep
            have fin:∀ (b:Bool) (H8:Heap),BA H5 H8 (some ⟨i6,0,none⟩) st.length st.length (fun j=>∃ q,q < k∧Cl st bol eol P0 q∧(st.getD q default).k=1∧(st.getD q default).set.has w.toNat=true∧j=(st.getD q default).l.toNat)→(b=true↔Cl st bol eol P0 k∧X.k=1∧X.set.has w.toNat=true) →
                zqp2_9 (fun x5' l5' c5' x6' H1=>(∃ (i:Nat) (P:Nat→Prop),x6'=(i:Nat)∧l5'=st.length∧i≤nt+1∧BA H H1 x5' st.length c5' P∧(∀ q,P q→q < st.length)∧(i≤nt→Trk st g (bs.map UInt8.toNat) i (fun j=>P j∨j=0)∧Old st g (bs.map UInt8.toNat) i)∧∀ k,k < i→¬ Mt st g (bs.map UInt8.toNat) k)∧((nt:Int)+1 - x6').toNat < ((nt:Int)+1 - (i:Nat)).toNat)
                  (fun y' H'=>(∃ k:Nat,y'=(k:Nat)∧k≤st.length∧BA H5 H' (some ⟨i6,0,none⟩) st.length st.length (fun j=>∃ q,q < k∧Cl st bol eol P0 q∧(st.getD q default).k=1∧(st.getD q default).set.has w.toNat=true∧j=(st.getD q default).l.toNat))∧((st.length:Int) - y').toNat < ((st.length:Int) - (k:Nat)).toNat)
                  Q E ps st.length cs pt nt ct p5 st.length c5' i (some ⟨i6,0,none⟩) st.length st.length k b H8:=by
              intro b H8 h8 hb8
              unfold zqp2_9
              refine sel_mk (fun ht=>?_) (fun hf8=>?_)
              · refine nd_get (o:=1) (hv.ext (he5.trans h8.1)) hnode (by omega) (n:=X.l) rfl ?_
                obtain ⟨ol,eol'⟩:∃ n:Nat,X.l=(n:Nat):=⟨X.l.toNat,by omega⟩
                rw [eol']
                refine h8.put (i:=ol) (by omega) fun H9 h9=>?_
                unfold zqp2_7
                rw [wrap_succ (by omega)]
                refine ⟨⟨k+1,rfl,by omega,h9.congr fun j _=>?_⟩,by omega⟩
                rw [hstep j]
                refine or_congr Iff.rfl ⟨fun h=>?_,fun h=>?_⟩
                · obtain ⟨u1,u2,u3⟩:=hb8.1 ht
                  exact ⟨u1,u2,u3,by rw [eol']; simpa using h⟩
                · have:=h.2.2.2; rw [eol'] at this; simpa using this
              · unfold zqp2_7
                rw [wrap_succ (by omega)]
                refine ⟨⟨k+1,rfl,by omega,h8.congr fun j _=>?_⟩,by omega⟩
                rw [hstep j]
                exact ⟨.inl,fun h=>h.elim id (fun h=>by rw [hb8.2 ⟨h.1,h.2.1,h.2.2.1⟩] at hf8; cases hf8)⟩
            rw [decide_eq_true (show ((i:Nat):Int) < ((nt:Nat):Int) by omega)]
            unfold zqp2_16
            refine sel_tt ?_
            unfold zqp2_11
            refine bs_get (hA5.2.1.ext hA7.1) hlt (sel_cl (fun hC=>?_) (fun hC=>fin false H7 hA7 ⟨fun h=>(by cases h),fun h=>absurd h.1 hC⟩))
            refine nd_get0 (hv.ext he7) hnode (sel_beq (fun h1=>?_) (fun h1=>fin false H7 hA7 ⟨fun h=>(by cases h),fun h=>absurd h.2.1 h1⟩))
            refine nds_set (hv.ext he7) hnode fun q hq=>⟨X.a,X.b,X.c,X.d,hq,?_⟩
            refine byt_get (hb.ext he7) hbk ?_
            refine Has_c (s:=X.set) hw255 fun H8 he8=>⟨_,rfl,fin _ H8 ⟨hA7.1.trans he8,hA7.2.1.ext he8,hA7.2.2⟩ ⟨fun h=>⟨hC,h1,h⟩,fun h=>h.2.2⟩⟩
          · obtain rfl:k=st.length:=by omega
            unfold zqp2_16
            refine sel_ff (out _ H7 hA7 (fun q hq=>?_) fun _=>⟨?_,old_step hOld hTr hbol htk heol' hng5⟩)
            · obtain ⟨z,hz,_,_,_,rfl⟩:=hq
              have:=hr _ (List.mem_iff_getElem?.2 ⟨z,getD_some hz⟩)
              omega
            · refine trk_step hTr hbol htk heol' fun q=>or_congr ⟨fun ⟨z,h1,h2,h3,h4,h6⟩=>⟨z,h2,h3,h4,h6⟩,fun ⟨z,h2,h3,h4,h6⟩=>⟨z,hcl0 P0 hP0 bol eol z h2,h2,h3,h4,h6⟩⟩ Iff.rfl
        · refine ⟨fun y H'=>y=0∧H'=H6,fun _ _=>0,⟨rfl,rfl⟩,?_⟩
          rintro y H7 ⟨rfl,rfl⟩
          unfold zqp2_18
          have hfalse:zqp2_16 (fun x5' l5' c5' x6' H1=>(∃ (i:Nat) (P:Nat→Prop),x6'=(i:Nat)∧l5'=st.length∧i≤nt+1∧BA H H1 x5' st.length c5' P∧(∀ q,P q→q < st.length)∧(i≤nt→Trk st g (bs.map UInt8.toNat) i (fun j=>P j∨j=0)∧Old st g (bs.map UInt8.toNat) i)∧∀ k,k < i→¬ Mt st g (bs.map UInt8.toNat) k)∧((nt:Int)+1 - x6').toNat < ((nt:Int)+1 - (i:Nat)).toNat)
              (fun y' H'=>(y'=0∧H'=H7)∧0 < 0) Q E ps st.length cs pt nt ct p5 st.length c5' i (some ⟨i6,0,none⟩) st.length st.length 0 false H7:=by
            unfold zqp2_16
            exact sel_ff (out _ H7 hA6 (fun q h=>h.elim) fun h=>by omega)
          rw [decide_eq_false (show ¬ ((i:Nat):Int) < ((nt:Nat):Int) by omega)]
          exact sel_dec (fun _=>hfalse) (fun _=>hfalse)
      unfold zqp2_41
      refine sel_dec (fun hlt=>?_) (fun hge=>?_)
      · have hi1:i < bs.length:=by omega
        have hbk:bs[i]?=some bs[i]:=List.getElem?_eq_getElem hi1
        generalize bs[i]=w at hbk
        refine byt_get (hb.ext hA3.1) hbk (body _ ?_)
        rw [byte_ten,text_at hbk]; simp
      · refine body false ⟨fun h=>(by cases h),fun h=>?_⟩
        have:=(List.getElem?_eq_some_iff.1 h).1
        omega
    unfold zqp2_44
    refine sel_beq (fun h0=>main true ⟨fun _=>.inl (by omega),fun _=>rfl⟩) (fun h0=>?_)
    have hi1:i - 1 < bs.length:=by omega
    have hw:IntKind.wrap .i64 ((i:Int) - 1)=((i - 1:Nat):Int):=by rw [IntWalk.i64_in _ (by omega)]; omega
    rw [hw]
    have hbk:bs[i - 1]?=some bs[i - 1]:=List.getElem?_eq_getElem hi1
    generalize bs[i - 1]=w at hbk
    refine byt_get (hb.ext hA3.1) hbk (main _ ?_)
    rw [byte_ten]
    unfold bolAt
    rw [text_at hbk]
    constructor
    · intro h; exact .inr (by rw [h])
    · rintro (h | h)
      · omega
      · exact Option.some.inj h
  · unfold zqp2_1
    exact hk H2 (-1) hA.1 (.inl ⟨rfl,fun k _ hk'=>hno k (by omega)⟩)
end Go.Proofs.Ytaffcoiomggpfaa
/- The reference's automaton of a pattern finds what the program's does; pieces. -/
namespace Go.Proofs.Ytaffcoiomggpfaa
open Go.V
attribute [local irreducible] app
set_option linter.constructorNameAsVariable false
set_option linter.unusedVariables false
def Rg (hi:Nat) (x:Nd):Prop:=1≤x.k∧x.k≤4∧0≤x.l∧x.l≤(hi:Int)∧0≤x.r∧x.r≤(hi:Int)
theorem Rg.mono {a b:Nat} {x:Nd} (h:Rg a x) (hab:a≤b):Rg b x:=by
  obtain ⟨h1,h2,h3,h4,h5,h6⟩:=h
  exact ⟨h1,h2,h3,by omega,h5,by omega⟩
theorem sp_rg {a b hi:Nat} (h1:a≤hi) (h2:b≤hi):Rg hi (sp a b):=by
  unfold Rg sp
  dsimp only
  omega
theorem rb_rg (l:List Nd):∀ (f n p hi:Nat),p+(rb l f n p).length≤hi→∀ x ∈ rb l f n p,Rg hi x
  | 0,n,p,hi,_=>by intro x hx; simp [rb] at hx
  | f+1,n,p,hi,hh=>by
    have ih:=fun n p=>rb_rg l f n p
    intro x hx
    unfold rb at hx hh
    dsimp only at hx hh
    split at hx
    · rw [if_pos ‹_›] at hh
      simp only [List.length_cons,List.length_nil,List.mem_singleton] at hh hx
      subst hx
      refine ⟨?_,?_,?_,?_,?_,?_⟩ <;> dsimp only <;> omega
    rw [if_neg ‹_›] at hh
    split at hx
    · rw [if_pos ‹_›] at hh
      simp only [List.length_cons,List.length_nil,List.mem_singleton] at hh hx
      subst hx
      refine ⟨?_,?_,?_,?_,?_,?_⟩ <;> dsimp only <;> omega
    rw [if_neg ‹_›] at hh
    split at hx
    · rw [if_pos ‹_›] at hh
      simp only [List.length_cons,List.length_nil,List.mem_singleton] at hh hx
      subst hx
      refine ⟨?_,?_,?_,?_,?_,?_⟩ <;> dsimp only <;> omega
    rw [if_neg ‹_›] at hh
    split at hx
    · rw [if_pos ‹_›] at hh
      rw [List.length_append] at hh
      rcases List.mem_append.1 hx with h | h
      · exact ih _ _ _ (by omega) x h
      · exact ih _ _ _ (by omega) x h
    rw [if_neg ‹_›] at hh
    split at hx
    · rw [if_pos ‹_›] at hh
      simp only [List.length_append,List.length_cons,List.length_nil] at hh
      rcases List.mem_append.1 hx with h | h
      · rcases List.mem_append.1 h with h | h
        · rcases List.mem_cons.1 h with h | h
          · subst h; exact sp_rg (by omega) (by omega)
          · exact ih _ _ _ (by omega) x h
        · rw [List.mem_singleton] at h
          subst h; exact sp_rg (by omega) (by omega)
      · exact ih _ _ _ (by omega) x h
    rw [if_neg ‹_›] at hh
    split at hx
    · rw [if_pos ‹_›] at hh
      rw [List.length_cons] at hh
      rcases List.mem_cons.1 hx with h | h
      · subst h; exact sp_rg (by omega) (by omega)
      · exact ih _ _ _ (by omega) x h
    rw [if_neg ‹_›] at hh
    split at hx
    · rw [if_pos ‹_›] at hh
      simp only [List.length_append,List.length_cons,List.length_nil] at hh
      rcases List.mem_append.1 hx with h | h
      · rcases List.mem_cons.1 h with h | h
        · subst h; exact sp_rg (by omega) (by omega)
        · exact ih _ _ _ (by omega) x h
      · rw [List.mem_singleton] at h
        subst h; exact sp_rg (by omega) (by omega)
    rw [if_neg ‹_›] at hh
    split at hx
    · rw [if_pos ‹_›] at hh
      simp only [List.length_append,List.length_cons,List.length_nil] at hh
      rcases List.mem_append.1 hx with h | h
      · exact ih _ _ _ (by omega) x h
      · rw [List.mem_singleton] at h
        subst h; exact sp_rg (by omega) (by omega)
    · rw [if_neg ‹_›] at hh
      simp only [List.length_cons,List.length_nil,List.mem_singleton] at hh hx
      subst hx; exact sp_rg (by omega) (by omega)
theorem rcomp_facts {l:List Nd} (hval:validOf l=true):NV (rcomp l)∧(∀ j,j < (rcomp l).length→(((rcomp l).getD j default).k=5↔j=rgoal l))∧rgoal l < (rcomp l).length:=by
  obtain ⟨hpos,h256,g,hz⟩:=valid_sz hval
  have hg:g (l.length - 1)≤l.length - 1+1:=by
    obtain ⟨x,hx⟩:∃ x,l[l.length - 1]?=some x:=⟨_,List.getElem?_eq_getElem (by omega)⟩
    exact (hz _ x hx).2.1
  have i1:=rb_len hz l.length (l.length - 1) 0 (by omega) (by omega)
  have hr:=rb_rg l l.length (l.length - 1) 0 _ (by rw [Nat.zero_add]; exact Nat.le_refl _)
  have hlen:(rcomp l).length=rgoal l+1:=by unfold rcomp rgoal; simp
  unfold rgoal at hlen ⊢
  refine ⟨⟨by omega,by omega,fun x hx=>?_,fun x hx=>?_⟩,fun j hj=>?_,by omega⟩
  · rw [hlen]
    rcases List.mem_append.1 hx with h | h
    · obtain ⟨_,_,a,b,c,d⟩:=hr x h
      omega
    · rw [List.mem_singleton] at h
      subst h
      dsimp only
      omega
  · rcases List.mem_append.1 hx with h | h
    · obtain ⟨a,b,_⟩:=hr x h
      omega
    · rw [List.mem_singleton] at h
      subst h
      dsimp only
      omega
  · unfold rcomp
    by_cases h:j < (rb l l.length (l.length - 1) 0).length
    · rw [getD_left h]
      have:=hr _ (List.mem_iff_getElem?.2 ⟨j,getD_some h⟩)
      obtain ⟨a,b,_⟩:=this
      omega
    · have:j=(rb l l.length (l.length - 1) 0).length:=by omega
      subst this
      rw [getD_last]
      simp
theorem rmt_mn (l:List Nd) (t:List Nat) (n:Nat):Mt (rcomp l) (rgoal l) t n↔Mn l t n:=by
  unfold Mt Mn
  constructor
  · rintro ⟨j,hj,k,m,ha⟩
    exact ⟨j,hj,k,(acc_rcomp l j k).1 ⟨m,ha⟩⟩
  · rintro ⟨j,hj,k,hm⟩
    obtain ⟨m,ha⟩:=(acc_rcomp l j k).2 hm
    exact ⟨j,hj,k,m,ha⟩
theorem rRun_first {H:Heap} {ps pt:OA} {cs nt ct:Nat} {l:List Nd} {bs:List UInt8} {Q:QT} {E:ET} (hv:Nds H ps (rcomp l)) (hval:validOf l=true)
    (hb:Byt H pt nt ct bs) (hn:nt < 60000) (hk:∀ H',Ext H H'→Q (.int .i64 (firstOf l bs)) H'):Does Pr 39 #[.slice ps (rcomp l).length cs,.slice pt nt ct] H Q E:=by
  obtain ⟨h1,h2,h3⟩:=rcomp_facts hval
  refine rRun_c hv h1 h2 h3 hb hn fun H' F he hL=>?_
  have hs:=firstOf_spec bs hval
  rw [show Mt (rcomp l) (rgoal l) (bs.map UInt8.toNat)=Mn l (bs.map UInt8.toNat) from funext fun n=>propext (rmt_mn l _ n),← hb.1] at hL
  rw [hL.unique hs]
  exact hk H' he
theorem play_ref {st:List Nd} (hr:InR st) (hpos:0 < st.length) {F:List UInt8→Int} (hF:∀ bs,F bs=(feed st false (bs.map UInt8.toNat) (startM st true)).found) (L:List (List UInt8)) :
    (0≤F []→playSt st L=(-1,0,0))∧(F [] < 0→(∀ j,j < L.length→F (L.take j).flatten < 0→0≤F (L.take (j+1)).flatten→playSt st L=(((j:Nat):Int),F (L.take (j+1)).flatten,0))∧(F L.flatten < 0→playSt st L=(((L.length:Nat):Int),-1,0))):=by
  have hs:=start_ok hr hpos true
  have h0:F []=((startM st true).matched st).found:=by rw [hF]; rfl
  have hFm:∀ bs,F bs=(feed st false (bs.map UInt8.toNat) ((startM st true).matched st)).found:=fun bs=>by rw [hF,feedL_matched hr false hs]
  refine ⟨fun h=>if_pos (by omega),fun h=>?_⟩
  have e:playSt st L=playL st L 0 ((startM st true).matched st):=if_neg (by omega)
  rw [e]
  have ho:=matched_ok hr hs
  have hm:=matched_again hr hs
  rw [h0] at h
  generalize (startM st true).matched st=M at *
  obtain ⟨a1,a2⟩:=playL_law hr hpos L 0 M ho hm h
  have pre:∀ {i j:Nat},i≤j→0≤F (L.take i).flatten→F (L.take j).flatten=F (L.take i).flatten:=fun {i j} hij hf=>by
    have e1:L.take j=L.take i++(L.take j).drop i:=by
      have:=(List.take_append_drop i (L.take j)).symm
      rwa [List.take_take,Nat.min_eq_left hij] at this
    rw [e1,List.flatten_append,hFm,hFm,List.map_append]
    rw [hFm] at hf
    exact feed_stays hr hpos false _ ho hf
  rw [← hFm] at a1 a2
  refine ⟨fun j hj h1 h2=>?_,fun hw=>?_⟩
  · have hall:F L.flatten=F (L.take (j+1)).flatten:=by
      have:=pre (i:=j+1) (j:=L.length) (by omega) h2
      rwa [List.take_length] at this
    obtain ⟨i,i1,i2,i3,i4⟩:=a2 (by omega)
    rw [← hFm] at i3 i4
    have hij:i=j:=by
      rcases Nat.lt_trichotomy i j with h | h | h
      · have:=pre (i:=i+1) (j:=j) (by omega) i4; omega
      · exact h
      · have:=pre (i:=j+1) (j:=i) (by omega) h2; omega
    rw [i2,hij,hall,Nat.zero_add]
  · rw [a1 hw,Nat.zero_add]
theorem rPlay_c {H:Heap} {s:ByteArray} {p:OA} {n c:Nat} {L:List (List UInt8)} {Q:QT} {E:ET} (hL:Pcs H p n c L) (hn:n≤1048576) (hsum:L.flatten.length < 60000)
    (hk:∀ H',Ext H H'→Q (.tuple #[.int .i64 (playOf s L).1,.int .i64 (playOf s L).2.1,.int .i64 (playOf s L).2.2]) H'):Does Pr 46 #[.string s,.slice p n c] H Q E:=by
  refine zqa1_fn _ _ _ _ Q E H ?_
  unfold zqa1 zqa1_30
  refine rParse_c fun H1 p1 c1 N e hp h256 he1 hv1=>⟨_,_,_,_,rfl,?_⟩
  unfold zqa1_27
  have hpx:rxParse s=(N,e):=by rw [parse_eq]; exact hp
  refine sel_bne (fun hne=>?_) (fun heq=>?_)
  · have hpl:playOf s L=(0,0,e):=by unfold playOf; rw [hpx]; exact if_pos hne
    rw [hpl] at hk
    exact hk H1 he1
  · subst heq
    have hval:=rParse_valid hp
    have hpl:playOf s L=playSt (buildOf N) L:=by unfold playOf; rw [hpx]; exact if_neg (by simp)
    rw [hpl] at hk
    obtain ⟨b1,b2,b3,b4⟩:=build_facts hval
    obtain ⟨f1,f2⟩:=play_ref b1 (by omega) (fun bs=>firstOf_feed (bs:=bs) hval) L
    unfold zqa1_24
    refine rCompile_c (Vec.nds hv1) hval fun H2 p2 c2 he2 hv2=>⟨_,_,_,_,rfl,?_⟩
    have hN2:=Vec.nds hv2
    have he12:=he1.trans he2
    unfold zqa1_21 zqa1_18
    refine rRun_first hN2 hval (bs:=[]) ⟨rfl,Nat.le_refl _,rfl⟩ (by omega) fun H3 he3=>⟨_,rfl,?_⟩
    refine sel_dec (fun h=>?_) (fun h=>?_)
    · rw [f1 h] at hk
      exact hk H3 (he12.trans he3)
    · obtain ⟨g1,g2⟩:=f2 (by omega)
      obtain ⟨l1,l2,vs,l3,l4,l5⟩:=id (hL.ext (he12.trans he3))
      unfold zqa1_14 zqa1_11
      refine ⟨fun p6 l6 c6 x H'=>∃ k:Nat,x=(k:Nat)∧k≤n∧l6=(L.take k).flatten.length∧Vec H' 1 p6 l6 c6 ((L.take k).flatten.map byteV)∧Ext H3 H'∧(∀ j,blk p6 j→H3 j=none)∧firstOf N (L.take k).flatten < 0,
        fun _ _ _ x _=>(n - x).toNat,⟨0,rfl,by omega,rfl,Vec.nil _ 1,Ext.refl _,fun j hj=>(by obtain ⟨a,ha,_⟩:=hj; cases ha),by simpa using h⟩,?_⟩
      rintro p6 l6 c6 x H4 ⟨k,rfl,hkn,rfl,hv6,he4,hf6,hneg⟩
      unfold zqa1_8
      refine sel_dec (fun hlt=>?_) (fun hge=>?_)
      · have hlt:k < L.length:=by omega
        have hbk:L[k]?=some L[k]:=List.getElem?_eq_getElem hlt
        have htk:(L.take (k+1)).flatten=(L.take k).flatten++L[k]:=by
          rw [List.take_add_one,hbk,List.flatten_append]
          simp only [Option.toList_some,List.flatten_cons,List.flatten_nil,List.append_nil]
        have hle1:(L.take (k+1)).flatten.length≤L.flatten.length:=by
          have:L.flatten=(L.take (k+1)).flatten++(L.drop (k+1)).flatten:=by rw [← List.flatten_append,List.take_append_drop]
          rw [this,List.length_append]; omega
        have gk:=g1 k hlt hneg
        generalize L[k]=b at hbk htk
        rw [htk,List.length_append] at hle1
        rw [htk] at gk
        obtain ⟨q,m,cc,e1,e2⟩:=l5 k b hbk
        have hbm:=e2.1
        unfold zqa1_5
        cases p with
        | none =>
          have:vs=[]:=l4
          subst this; simp at e1
        | some ad =>
          have hcell:H4.cell? (ad.add (0+k))=some (.slice q m cc):=rd_get (rd_ext he4 l4) e1
          rw [Nat.zero_add] at hcell
          simp only [ptr_some,Int.toNat_natCast,Nat.mul_one]
          refine ⟨⟨by omega,by omega⟩,q,m,cc,hcell,?_⟩
          refine app_byt hv6 (e2.ext he4) (by omega) fun p6' c6' H5 hv6' hs5 hb5=>?_
          have he5:Ext H3 H5:=ext_app he4 hf6 hs5
          have hf6':=fresh_app he4 hf6 hb5
          have hbt:=vec_byt hv6'
          refine rRun_first (hN2.ext (he3.trans he5)) hval hbt (by omega) fun H6 he6=>⟨_,rfl,?_⟩
          refine sel_dec (fun hge=>?_) (fun hlt'=>?_)
          · rw [gk hge] at hk
            exact hk H6 (((he12.trans he3).trans he5).trans he6)
          · unfold zqa1_3
            rw [wrap_succ (by omega)]
            exact ⟨⟨k+1,rfl,by omega,by rw [htk,List.length_append,hbm],by rw [htk]; exact hv6'.ext he6,he5.trans he6,hf6',by rw [htk]; omega⟩,by omega⟩
      · unfold zqa1_1
        have hkl:k=L.length:=by omega
        rw [hkl,List.take_length] at hneg
        rw [g2 hneg] at hk
        rw [← l1]
        exact hk H4 ((he12.trans he3).trans he4)
end Go.Proofs.Ytaffcoiomggpfaa
