import Derived.Test.YtaffcoiomggpfaaVNode
import Derived.Test.YtaffcoiomggpfaaFregex
import Derived.Test.YtaffcoiomggpfaaFauto
/- Contracts of regex.Kids and regex.Valid. -/
namespace Go.Proofs.Ytaffcoiomggpfaa
open Go.V
attribute [local irreducible] app
set_option linter.constructorNameAsVariable false
set_option linter.unusedVariables false
def kidsOf (k:Int):Int:=if k=1∨k=2∨k=8∨k=9 then 0 else if k=5∨k=6∨k=7 then 1 else if k=3∨k=4 then 2 else -1
theorem Kids_c {H:Heap} {k:Int} {Q:QT} {E:ET} (hk:Q (.int .i64 (kidsOf k)) H):Does Pr 74 #[.int .i64 k] H Q E:=by
  refine zqy1_fn _ Q E H ?_
  unfold zqy1 zqy1_23 zqy1_19 zqy1_17
  have k0:(k=1∨k=2∨k=8∨k=9)→zqy1_3 Q E H:=fun h=>by
    unfold zqy1_3; unfold kidsOf at hk; rw [if_pos h] at hk; exact hk
  have k1:¬ (k=1∨k=2∨k=8∨k=9)→(k=5∨k=6∨k=7)→zqy1_5 Q E H:=fun h h'=>by
    unfold zqy1_5; unfold kidsOf at hk; rw [if_neg h,if_pos h'] at hk; exact hk
  have k2:¬ (k=1∨k=2∨k=8∨k=9)→¬ (k=5∨k=6∨k=7)→(k=3∨k=4)→Q (.int .i64 2) H:=fun h h' h''=>by
    unfold kidsOf at hk; rw [if_neg h,if_neg h',if_pos h''] at hk; exact hk
  have k3:¬ (k=1∨k=2∨k=8∨k=9)→¬ (k=5∨k=6∨k=7)→¬ (k=3∨k=4)→zqy1_1 Q E H:=fun h h' h''=>by
    unfold zqy1_1; unfold kidsOf at hk; rw [if_neg h,if_neg h',if_neg h''] at hk; exact hk
  unfold zqy1_14 zqy1_12 zqy1_9 zqy1_7
  repeat' (refine sel_beq (fun _=>?_) (fun _=>?_))
  all_goals first | exact k0 (by omega) | exact k1 (by omega) (by omega) | exact k2 (by omega) (by omega) (by omega) | exact k3 (by omega) (by omega) (by omega) | (exfalso; omega)
def vstep (sz:List Int) (x:Nd):Option (List Int) :=
  let i:Int:=sz.length
  if x.k ≠ 2∧¬ (x.a=0∧x.b=0∧x.c=0∧x.d=0) then none else
  if kidsOf x.k=0 then (if x.l=0∧x.r=0 then some (sz++[1]) else none)
  else if kidsOf x.k=2 then
    if i - 1 < 0 then none else
    let s1:=1+sz.getD (i - 1).toNat 0
    if i - s1 < 0 then none else
    if x.l=i - s1∧x.r=i - 1 then some (sz++[s1+sz.getD (i - s1).toNat 0]) else none
  else if kidsOf x.k=1 then
    if i - 1 < 0 then none else
    if x.l=i - 1∧x.r=0 then some (sz++[1+sz.getD (i - 1).toNat 0]) else none
  else none
def vsteps:List Int→List Nd→Option (List Int)
  | sz,[]=>some sz
  | sz,x :: l=>match vstep sz x with
    | none=>none
    | some sz'=>vsteps sz' l
def validOf (l:List Nd):Bool:=match l with
  | []=>false
  | _=>if 256 < l.length then false else match vsteps [] l with
    | none=>false
    | some sz=>decide (sz.getD (l.length - 1) 0=l.length)
def szc (n:Nat) (sz:List Int):Array Value:=(sz.map (Value.int .i64)++List.replicate (n - sz.length) (Value.int .i64 0)).toArray
theorem szc_size {n:Nat} {sz:List Int} (h:sz.length≤n):(szc n sz).size=n:=by simp [szc]; omega
theorem szc_get {n:Nat} {sz:List Int} {j:Nat} (h:j < sz.length):(szc n sz)[j]?=some (Value.int .i64 (sz.getD j 0)):=by
  simp [szc,List.getElem?_append_left,h]
theorem szc_push {n:Nat} {sz:List Int} (h:sz.length < n) (v:Int):over (szc n sz) sz.length [Value.int .i64 v]=szc n (sz++[v]):=by
  apply Array.ext
  · simp [over,szc]; omega
  · intro j h1 h2
    have e:∀ (a b:Array Value) (g1:j < a.size) (g2:j < b.size),a[j]?=b[j]?→a[j]=b[j]:=fun a b g1 g2 h=>by simpa [g1,g2] using h
    refine e _ _ h1 h2 ?_
    rw [over_get _ _ _ _ (by rw [szc_size (by omega)]; simp; omega)]
    by_cases hj:sz.length≤j∧j < sz.length+1
    · have:j=sz.length:=by omega
      subst this
      rw [if_pos (by simp),szc_get (by simp)]; simp
    · rw [if_neg (by simpa using hj)]
      simp only [szc,List.getElem?_toArray,List.map_append,List.map_cons,List.map_nil]
      by_cases hl:j < sz.length
      · rw [List.getElem?_append_left (by simpa using hl),List.getElem?_append_left (by simp; omega),List.getElem?_append_left (by simpa using hl)]
      · rw [List.getElem?_append_right (by simp; omega),List.getElem?_append_right (by simp; omega)]
        simp only [List.length_append,List.length_map,List.length_cons,List.length_nil]
        rw [List.getElem?_replicate,List.getElem?_replicate]
        have:(j - sz.length < n - sz.length)↔(j - (sz.length+(0+1)) < n - (sz.length+(0+1))):=by omega
        simp only [this]
theorem szc_again {n:Nat} {sz:List Int} (h:sz.length < n) (a v:Int):over (szc n (sz++[a])) sz.length [Value.int .i64 v]=szc n (sz++[v]):=by
  rw [← szc_push h a,← szc_push h v]
  have hs:sz.length < (szc n sz).size:=by rw [szc_size (by omega)]; exact h
  simp [over,Array.setIfInBounds,hs]
theorem flat_get {l:List Nd} {i j:Nat} {x:Nd} (h:l[i]?=some x) (hj:j < 7):(flat l)[i * 7+j]?=x.cells[j]?:=by
  induction l generalizing i with
  | nil=>simp at h
  | cons y l ih =>
    cases i with
    | zero =>
      simp only [List.getElem?_cons_zero,Option.some.injEq] at h
      subst h
      simp only [flat,List.flatMap_cons]
      rw [List.getElem?_append_left (by simp [Nd.cells]; omega)]; simp
    | succ i =>
      simp only [List.getElem?_cons_succ] at h
      have:=ih h
      simp only [flat,List.flatMap_cons] at this ⊢
      rw [List.getElem?_append_right (by simp [Nd.cells]; omega)]
      rw [← this]; congr 1; simp [Nd.cells]; omega
theorem rep_zeros (n:Nat):rep n [Value.int .i64 0]=List.replicate n (Value.int .i64 0):=by
  induction n with
  | zero=>rfl
  | succ n ih=>simp [rep,ih,List.replicate_succ]
def VI (sz:List Int):Prop:=∀ j,j < sz.length→1≤sz.getD j 0∧sz.getD j 0≤j+1
theorem VI.push {sz:List Int} {v:Int} (h:VI sz) (h1:1≤v) (h2:v≤sz.length+1):VI (sz++[v]):=fun j hj=>by
  by_cases e:j < sz.length
  · have:=h j e
    simpa [List.getD_eq_getElem?_getD,List.getElem?_append_left e] using this
  · have:j=sz.length:=by simp at hj; omega
    subst this
    simp [List.getD_eq_getElem?_getD]; omega
theorem vstep_ok {sz sz':List Int} {x:Nd} (h:VI sz) (hs:vstep sz x=some sz'):VI sz'∧sz'.length=sz.length+1:=by
  unfold vstep at hs
  simp only [] at hs
  split at hs
  · cases hs
  split at hs
  · split at hs
    · cases hs; exact ⟨h.push (by omega) (by omega),by simp⟩
    · cases hs
  split at hs
  · split at hs
    · cases hs
    split at hs
    · cases hs
    split at hs
    · cases hs
      have h1:=h ((sz.length:Int) - 1).toNat (by omega)
      have h2:=h ((sz.length:Int) - (1+sz.getD ((sz.length:Int) - 1).toNat 0)).toNat (by omega)
      exact ⟨h.push (by omega) (by omega),by simp⟩
    · cases hs
  split at hs
  · split at hs
    · cases hs
    split at hs
    · cases hs
      have h1:=h ((sz.length:Int) - 1).toNat (by omega)
      exact ⟨h.push (by omega) (by omega),by simp⟩
    · cases hs
  · cases hs
def Nds (H:Heap) (p:OA) (L:List Nd):Prop:=∀ (n:Nat) (x:Nd),L[n]?=some x →
  ∃ a,p=some a∧Heap.rd H (Addr.add a (n * 7)) 0 [.int .i64 x.k,.int .i64 x.l,.int .i64 x.r,.int .u64 x.a,.int .u64 x.b,.int .u64 x.c,.int .u64 x.d]
theorem rd_kept {H H':Heap} (he:Ext H H') {a:Addr}:∀ {vs:List Value} {i:Nat},H.rd a i vs→H'.rd a i vs
  | [],_,_=>trivial
  | v :: vs,i,h=>⟨by
      have h1:=h.1
      unfold Heap.cell? at h1 ⊢
      cases hb:H (a.add i).block with
      | none=>rw [hb] at h1; simp at h1
      | some o=>rw [he _ _ hb]; rw [hb] at h1; exact h1,rd_kept he h.2⟩
theorem Nds.ext {H H':Heap} {p:OA} {L:List Nd} (h:Nds H p L) (he:Ext H H'):Nds H' p L:=fun n x hx=>by
  obtain ⟨a,e,hr⟩:=h n x hx
  exact ⟨a,e,rd_kept he hr⟩
theorem Valid_n {H:Heap} {p:OA} {c:Nat} {l:List Nd} {Q:QT} {E:ET} (hv:Nds H p l)
    (hk:∀ H',Ext H H'→Q (.bool (validOf l)) H'):Does Pr 40 #[.slice p l.length c] H Q E:=by
  refine zqw1_fn _ _ _ Q E H ?_
  unfold zqw1 zqw1_86 zqw1_84
  refine sel_beq (fun h0=>?_) (fun h0=>?_)
  · have:l=[]:=List.eq_nil_of_length_eq_zero (by omega)
    subst this
    exact sel_tt (hk H (.refl H))
  have hne:l ≠ []:=fun e=>by subst e; exact h0 rfl
  have hval:validOf l=if 256 < l.length then false else match vsteps [] l with
      | none=>false
      | some sz=>decide (sz.getD (l.length - 1) 0=l.length):=by
    cases l with
    | nil=>exact absurd rfl hne
    | cons x l=>rfl
  refine sel_dec (fun hd=>?_) (fun hd=>?_)
  · rw [hval,if_pos (by omega)] at hk; exact hk H (.refl H)
  rw [hval,if_neg (by omega)] at hk
  generalize hV:vsteps [] l=V at hk
  unfold zqw1_81
  refine ⟨⟨by omega,by omega,by omega,by omega⟩,?_⟩
  refine nw_ext fun k H1 hk0 he1 hk1=>?_
  simp only [Int.toNat_natCast] at hk1 ⊢
  have hk1:H1 k=some (.cells (szc l.length []) 3 (0,0)):=by rw [hk1,rep_zeros]; simp [szc]
  unfold zqw1_77 zqw1_74
  refine ⟨fun x Hc=>∃ (sz:List Int) (done rest:List Nd),l=done++rest∧sz.length=done.length∧x=(done.length:Nat)∧vsteps sz rest=V∧VI sz∧Ext H Hc∧Hc k=some (.cells (szc l.length sz) 3 (0,0)),
    fun x _=>(l.length - x).toNat,⟨[],[],l,rfl,rfl,rfl,hV,fun j hj=>by simp at hj,he1,hk1⟩,?_⟩
  rintro x Hc ⟨sz,done,rest,hl,hsl,rfl,hV',hI,he,hkc⟩
  have hlen:l.length=done.length+rest.length:=by rw [hl]; simp
  unfold zqw1_71 zqw1_68
  refine sel_dec (fun hd'=>?_) (fun hd'=>?_)
  · cases rest with
    | nil=>simp at hlen; omega
    | cons x rest =>
      have hx:l[done.length]?=some x:=by rw [hl]; simp
      obtain ⟨a,rfl,hrd⟩:=hv.ext he _ _ hx
      · unfold zqw1_63
        simp only [ptr_some,Int.toNat_natCast]
        refine ⟨⟨by omega,by omega⟩,x.k,x.l,x.r,x.a,x.b,x.c,x.d,hrd,?_⟩
        refine nw_ext fun m H3 hm he3 hm3=>?_
        have hkm:k ≠ m:=ne_of hkc hm
        have hm0:H m=none:=he.free hm
        refine wr_at hm3 (by simp) rfl ?_
        have hm4:(H3.set m (.cells x.cells.toArray 48 (0,0))) m=some (.cells x.cells.toArray 48 (0,0)):=Heap.set_self _ _ _
        have hk4:(H3.set m (.cells x.cells.toArray 48 (0,0))) k=some (.cells (szc l.length sz) 3 (0,0)):=by rw [Heap.set_ne _ _ hkm]; exact he3 _ _ hkc
        have he4:Ext H (H3.set m (.cells x.cells.toArray 48 (0,0))):=(he.trans he3).set hm0 _
        change zqw1_59 _ Q E _ _ _ _ _ _ _ _ _ _ _ _ _ (H3.set m (.cells x.cells.toArray 48 (0,0)))
        revert hm4 hk4 he4
        generalize H3.set m (.cells x.cells.toArray 48 (0,0))=H4
        intro hm4 hk4 he4
        have hst:vsteps sz (x :: rest)=V:=hV'
        have stop:vstep sz x=none→∀ H5,Ext H H5→Q (.bool false) H5:=fun hn H5 he5=>by
          unfold vsteps at hst
          rw [hn] at hst
          simp only [] at hst
          subst hst
          exact hk H5 he5
        generalize hNX:(fun (x21':Int) (H1:Heap)=>(∃ (sz:List Int) (done rest:List Nd),l=done++rest∧sz.length=done.length∧x21'=(done.length:Nat)∧vsteps sz rest=V∧VI sz∧Ext H H1∧H1 k=some (.cells (szc l.length sz) 3 (0,0))) ∧
          (l.length - x21').toNat < (l.length - (done.length:Nat):Int).toNat)=nx
        -- the last comparison
        have c7:∀ (v left right:Int) (H5:Heap),vstep sz x=(if x.l=left∧x.r=right then some (sz++[v]) else none)→Ext H H5→H5 m=some (.cells x.cells.toArray 48 (0,0)) →
            H5 k=some (.cells (szc l.length (sz++[v])) 3 (0,0)) →
            zqw1_7 nx Q E (some a) l.length c (some ⟨k,0,none⟩) l.length l.length (some ⟨m,0,none⟩) left right (some a) l.length c (l.length:Nat) (done.length:Nat) H5:=by
          intro v left right H5 hvs he5 hm5 hk5
          unfold zqw1_7
          simp only [ptr_some,add_at,Nat.zero_add]
          refine ldI_at (n:=x.l) hm5 rfl ?_
          unfold zqw1_5
          refine sel_bne (fun hne=>?_) (fun heq=>?_)
          · exact sel_tt (stop (by rw [hvs,if_neg (fun h=>hne h.1)]) H5 he5)
          refine ldI_at (n:=x.r) hm5 rfl ?_
          refine sel_bne (fun hne=>?_) (fun heq2=>?_)
          · exact stop (by rw [hvs,if_neg (fun h=>hne h.2)]) H5 he5
          have hvs:vstep sz x=some (sz++[v]):=by rw [hvs,if_pos ⟨heq,heq2⟩]
          obtain ⟨hI',_⟩:=vstep_ok hI hvs
          unfold vsteps at hst
          rw [hvs] at hst
          unfold zqw1_3
          have hw:IntKind.wrap .i64 (((done.length:Nat):Int)+1)=((done++[x]).length:Nat):=by rw [IntWalk.i64_in _ (by omega)]; simp
          rw [hw]
          subst hNX
          exact ⟨⟨sz++[v],done++[x],rest,by rw [hl]; simp,by simp [hsl],rfl,hst,hI',he5,hk5⟩,by simp at hlen ⊢; omega⟩
        have c17:∀ (s1 right:Int) (H5:Heap),1≤s1→s1≤sz.length+1 →
            vstep sz x=(if (sz.length:Int) - s1 < 0 then none else if x.l=sz.length - s1∧x.r=right then some (sz++[s1+sz.getD ((sz.length:Int) - s1).toNat 0]) else none)→Ext H H5 →
            H5 m=some (.cells x.cells.toArray 48 (0,0))→H5 k=some (.cells (szc l.length (sz++[s1])) 3 (0,0)) →
            zqw1_17 nx Q E (some a) l.length c (some ⟨k,0,none⟩) l.length l.length (done.length:Nat) (some ⟨m,0,none⟩) right (some a) l.length c (l.length:Nat) (done.length:Nat) H5:=by
          intro s1 right H5 h1 h2 hvs he5 hm5 hk5
          unfold zqw1_17
          simp only [ptr_some,add_at,Int.toNat_natCast,Nat.mul_one,Nat.zero_add]
          refine ⟨⟨by omega,by omega⟩,ldI_at (n:=s1) hk5 ?_ ?_⟩
          · rw [szc_get (by simp; omega),← hsl]; simp [List.getD_eq_getElem?_getD]
          have hw:IntKind.wrap .i64 (((done.length:Nat):Int) - s1)=(sz.length:Int) - s1:=by rw [IntWalk.i64_in _ (by omega)]; omega
          rw [hw]
          unfold zqw1_14
          refine sel_dec (fun hneg=>?_) (fun hpos=>?_)
          · exact stop (by rw [hvs,if_pos hneg]) H5 he5
          rw [if_neg hpos] at hvs
          unfold zqw1_12
          simp only [ptr_some,add_at,Int.toNat_natCast,Nat.mul_one,Nat.zero_add]
          have hb1:=hI ((sz.length:Int) - s1).toNat (by omega)
          refine ⟨⟨by omega,by omega⟩,ldI_at (n:=s1) hk5 ?_ ⟨⟨by omega,by omega⟩,ldI_at (n:=sz.getD ((sz.length:Int) - s1).toNat 0) hk5 ?_ ⟨⟨by omega,by omega⟩,?_⟩⟩⟩
          · rw [szc_get (by simp; omega),← hsl]; simp [List.getD_eq_getElem?_getD]
          · rw [szc_get (by simp; omega)]; simp [List.getD_eq_getElem?_getD,List.getElem?_append_left (show ((sz.length:Int) - s1).toNat < sz.length by omega)]
          refine wr_at hk5 (by rw [szc_size (by simp; omega)]; simp; omega) rfl ?_
          have hw2:IntKind.wrap .i64 (s1+sz.getD ((sz.length:Int) - s1).toNat 0)=s1+sz.getD ((sz.length:Int) - s1).toNat 0:=IntWalk.i64_in _ (by omega)
          rw [hw2,← hsl,szc_again (by omega)]
          have:=c7 (s1+sz.getD ((sz.length:Int) - s1).toNat 0) (sz.length - s1) right (H5.set k (.cells (szc l.length (sz++[s1+sz.getD ((sz.length:Int) - s1).toNat 0])) 3 (0,0))) hvs (he5.set hk0 _)
            (by rw [Heap.set_ne _ _ (Ne.symm hkm)]; exact hm5) (Heap.set_self _ _ _)
          rw [← hsl] at this
          exact this
        have c54:¬ (x.k ≠ 2∧¬ (x.a=0∧x.b=0∧x.c=0∧x.d=0)) →
            zqw1_54 nx Q E (some a) l.length c (some ⟨k,0,none⟩) l.length l.length (done.length:Nat) (some ⟨m,0,none⟩) (some a) l.length c (l.length:Nat) (done.length:Nat) H4:=by
          intro hok
          have hvs0:vstep sz x=vstep sz x:=rfl
          conv at hvs0=>rhs; unfold vstep
          simp only [] at hvs0
          rw [if_neg hok] at hvs0
          unfold zqw1_54 zqw1_51
          simp only [ptr_some,add_at,Int.toNat_natCast,Nat.mul_one,Nat.zero_add]
          refine ⟨⟨by omega,by omega⟩,?_⟩
          refine wr_at hk4 (by rw [szc_size (by omega)]; simp; omega) rfl ?_
          rw [← hsl,szc_push (by omega),hsl]
          have hm5:(H4.set k (.cells (szc l.length (sz++[1])) 3 (0,0))) m=some (.cells x.cells.toArray 48 (0,0)):=by rw [Heap.set_ne _ _ (Ne.symm hkm)]; exact hm4
          have hk5:(H4.set k (.cells (szc l.length (sz++[1])) 3 (0,0))) k=some (.cells (szc l.length (sz++[1])) 3 (0,0)):=Heap.set_self _ _ _
          have he5:Ext H (H4.set k (.cells (szc l.length (sz++[1])) 3 (0,0))):=he4.set hk0 _
          revert hm5 hk5 he5
          generalize H4.set k (.cells (szc l.length (sz++[1])) 3 (0,0))=H5
          intro hm5 hk5 he5
          unfold zqw1_47
          simp only [ptr_some]
          refine ldI_at (n:=x.k) hm5 rfl (Kids_c ⟨_,rfl,?_⟩)
          unfold zqw1_34
          refine sel_beq (fun hk0'=>?_) (fun hk0'=>?_)
          · rw [if_pos hk0'] at hvs0
            exact c7 1 0 0 H5 hvs0 he5 hm5 hk5
          rw [if_neg hk0'] at hvs0
          unfold zqw1_31
          refine sel_beq (fun hk2=>?_) (fun hk2=>?_)
          · rw [if_pos hk2] at hvs0
            unfold zqw1_26 zqw1_23
            have hw:IntKind.wrap .i64 (((done.length:Nat):Int) - 1)=(sz.length:Int) - 1:=by rw [IntWalk.i64_in _ (by omega)]; omega
            rw [hw]
            refine sel_dec (fun hneg=>?_) (fun hpos=>?_)
            · exact stop (by rw [hvs0,if_pos hneg]) H5 he5
            rw [if_neg hpos] at hvs0
            unfold zqw1_21
            simp only [ptr_some,add_at,Int.toNat_natCast,Nat.mul_one,Nat.zero_add]
            have hb1:=hI ((sz.length:Int) - 1).toNat (by omega)
            refine ⟨⟨by omega,by omega⟩,ldI_at (n:=1) hk5 ?_ ⟨⟨by omega,by omega⟩,ldI_at (n:=sz.getD ((sz.length:Int) - 1).toNat 0) hk5 ?_ ⟨⟨by omega,by omega⟩,?_⟩⟩⟩
            · rw [szc_get (by simp; omega),← hsl]; simp [List.getD_eq_getElem?_getD]
            · rw [szc_get (by simp; omega),List.getD_eq_getElem?_getD,List.getElem?_append_left (show ((sz.length:Int) - 1).toNat < sz.length by omega),List.getD_eq_getElem?_getD]
            refine wr_at hk5 (by rw [szc_size (by simp; omega)]; simp; omega) rfl ?_
            have hw2:IntKind.wrap .i64 (1+sz.getD ((sz.length:Int) - 1).toNat 0)=1+sz.getD ((sz.length:Int) - 1).toNat 0:=IntWalk.i64_in _ (by omega)
            rw [hw2,← hsl,szc_again (by omega)]
            have:=c17 (1+sz.getD ((sz.length:Int) - 1).toNat 0) (sz.length - 1) (H5.set k (.cells (szc l.length (sz++[1+sz.getD ((sz.length:Int) - 1).toNat 0])) 3 (0,0))) (by omega) (by omega) hvs0 (he5.set hk0 _)
              (by rw [Heap.set_ne _ _ (Ne.symm hkm)]; exact hm5) (Heap.set_self _ _ _)
            rw [← hsl] at this
            exact this
          rw [if_neg hk2] at hvs0
          unfold zqw1_29
          refine sel_beq (fun hk1'=>?_) (fun hk1'=>?_)
          · rw [if_pos hk1'] at hvs0
            exact c17 1 0 H5 (by omega) (by omega) hvs0 he5 hm5 hk5
          · rw [if_neg hk1'] at hvs0
            unfold zqw1_10
            exact stop hvs0 H5 he5
        unfold zqw1_59
        simp only [ptr_some,add_at]
        refine ldI_at (n:=x.k) hm4 rfl ?_
        unfold zqw1_57
        refine sel_bne (fun hk2=>?_) (fun hk2=>?_)
        · refine ⟨x.a,x.b,x.c,x.d,rd_at hm4 _ _ 0 fun j hj=>?_,?_⟩
          · match j,hj with
            | 0,_=>rfl
            | 1,_=>rfl
            | 2,_=>rfl
            | 3,_=>rfl
          · refine sel_not (fun hf=>?_) (fun ht=>?_)
            · refine stop ?_ H4 he4
              unfold vstep
              simp only []
              rw [if_pos ⟨hk2,fun h=>by simp [eqVs,eqV,h] at hf⟩]
            · exact c54 (fun h=>h.2 (by simp [eqVs,eqV] at ht; omega))
        · exact sel_ff (c54 (fun h=>h.1 hk2))
  · have:rest=[]:=List.eq_nil_of_length_eq_zero (by omega)
    subst this
    simp only [List.append_nil] at hl
    subst hl
    have hV':some sz=V:=hV'
    subst hV'
    unfold zqw1_1
    have hw:IntKind.wrap .i64 (((l.length:Nat):Int) - 1)=((l.length - 1:Nat):Int):=by rw [IntWalk.i64_in _ (by omega)]; omega
    rw [hw]
    simp only [ptr_some,add_at,Int.toNat_natCast,Nat.mul_one,Nat.zero_add]
    refine ⟨⟨by omega,by omega⟩,ldI_at hkc (szc_get (by omega)) ?_⟩
    have:=hk Hc he
    have e:((sz.getD (l.length - 1) 0:Int) == ((l.length:Nat):Int))=decide (sz.getD (l.length - 1) 0=(l.length:Int)):=rfl
    rw [e]; exact this
theorem vec_at7 {H:Heap} {p:OA} {l c:Nat} {L:List Nd} (h:Vec H 7 p l c (flat L)) {n:Nat} {x:Nd} (hx:L[n]?=some x) :
    ∃ a,p=some a∧Heap.rd H (Addr.add a (n * 7)) 0 [.int .i64 x.k,.int .i64 x.l,.int .i64 x.r,.int .u64 x.a,.int .u64 x.b,.int .u64 x.c,.int .u64 x.d]:=by
  obtain ⟨v1,v2,v3⟩:=h
  have hn:n < L.length:=(List.getElem?_eq_some_iff.1 hx).1
  rw [flat_length] at v1
  cases p with
  | none=>simp only [] at v3; omega
  | some a =>
    obtain ⟨b,cs,t,rfl,hb,hcs,hget⟩:=v3
    refine ⟨_,rfl,?_⟩
    rw [add_at]
    refine rd_at hb _ _ 0 fun j hj=>?_
    have hj:j < 7:=hj
    rw [Nat.add_zero,Nat.zero_add,hget _ (by omega),flat_get hx hj]; rfl
theorem Vec.nds {H:Heap} {p:OA} {l c:Nat} {L:List Nd} (h:Vec H 7 p l c (flat L)):Nds H p L:=fun n x hx=>vec_at7 h hx
theorem Valid_c {H:Heap} {p:OA} {c:Nat} {l:List Nd} {Q:QT} {E:ET} (hv:Vec H 7 p l.length c (flat l))
    (hk:∀ H',Ext H H'→Q (.bool (validOf l)) H'):Does Pr 40 #[.slice p l.length c] H Q E:=Valid_n (Vec.nds hv) hk
end Go.Proofs.Ytaffcoiomggpfaa
/- Contracts of package auto (1): building an automaton. -/
namespace Go.Proofs.Ytaffcoiomggpfaa
open Go.V
attribute [local irreducible] app
set_option linter.constructorNameAsVariable false
set_option linter.unusedVariables false
theorem sl50:SlT Pr 50 7:=.of (by kernel_rfl)
def Sz (l:List Nd) (g:Nat→Nat):Prop:=∀ (i:Nat) (x:Nd),l[i]?=some x→1≤g i∧g i≤i+1 ∧
  (kidsOf x.k=0∨(kidsOf x.k=1∧0≤x.l∧x.l < i∧g i=1+g x.l.toNat)∨(kidsOf x.k=2∧0≤x.l∧x.l < i∧0≤x.r∧x.r < i∧g i=1+g x.l.toNat+g x.r.toNat))
def szg (sz:List Int):Nat→Nat:=fun i=>(sz.getD i 0).toNat
theorem vsteps_sz:∀ (l2 l1:List Nd) (sz sz':List Int),sz.length=l1.length→VI sz→Sz l1 (szg sz)→vsteps sz l2=some sz'→Sz (l1++l2) (szg sz')
  | [],l1,sz,sz',hl,hv,hs,h=>by
    simp only [vsteps,Option.some.injEq] at h; subst h; simpa using hs
  | x :: l2,l1,sz,sz',hl,hv,hs,h=>by
    simp only [vsteps] at h
    split at h
    · cases h
    · rename_i sz1 h1
      obtain ⟨hv1,hl1⟩:=vstep_ok hv h1
      have hstep:∃ v,sz1=sz++[v]∧(kidsOf x.k=0∧v=1∨(kidsOf x.k=1∧0≤x.l∧x.l < l1.length∧v=1+sz.getD x.l.toNat 0) ∨
          (kidsOf x.k=2∧0≤x.l∧x.l < l1.length∧0≤x.r∧x.r < l1.length∧v=1+sz.getD x.l.toNat 0+sz.getD x.r.toNat 0)):=by
        unfold vstep at h1
        dsimp only at h1
        split at h1
        · cases h1
        split at h1
        · rename_i hk
          split at h1
          · cases h1; exact ⟨1,rfl,.inl ⟨hk,rfl⟩⟩
          · cases h1
        split at h1
        · rename_i hk
          split at h1
          · cases h1
          · rename_i hi
            split at h1
            · cases h1
            · rename_i hs1
              split at h1
              · rename_i hlr
                cases h1
                have hb:=hv (sz.length - 1) (by omega)
                have e:((sz.length:Int) - 1).toNat=sz.length - 1:=by omega
                rw [e] at hlr hs1 ⊢
                refine ⟨_,rfl,.inr (.inr ⟨hk,by omega,by omega,by omega,by omega,?_⟩)⟩
                rw [hlr.1,hlr.2,e]; omega
              · cases h1
        split at h1
        · rename_i hk
          split at h1
          · cases h1
          · rename_i hi
            split at h1
            · rename_i hlr
              cases h1
              refine ⟨_,rfl,.inr (.inl ⟨hk,by omega,by omega,?_⟩)⟩
              rw [hlr.1]
            · cases h1
        · cases h1
      obtain ⟨v,rfl,hv2⟩:=hstep
      have hold:∀ i,i < l1.length→szg (sz++[v]) i=szg sz i:=fun i hi=>by
        unfold szg; rw [getD_app_left _ _ _ (by omega)]
      have hnew:szg (sz++[v]) l1.length=v.toNat:=by
        unfold szg; rw [getD_app_right _ _ _ (by omega),hl]; simp
      have hvb:=hv1 l1.length (by simp; omega)
      have hvb':(sz++[v]).getD l1.length 0=v:=by rw [getD_app_right _ _ _ (by omega),hl]; simp
      rw [hvb'] at hvb
      have hs1:Sz (l1++[x]) (szg (sz++[v])):=fun i y hy=>by
        by_cases hi:i < l1.length
        · rw [List.getElem?_append_left hi] at hy
          obtain ⟨a1,a2,a3⟩:=hs i y hy
          rw [hold i hi]
          refine ⟨a1,a2,?_⟩
          rcases a3 with a3 | a3 | a3
          · exact .inl a3
          · exact .inr (.inl ⟨a3.1,a3.2.1,a3.2.2.1,by rw [hold _ (by omega)]; exact a3.2.2.2⟩)
          · exact .inr (.inr ⟨a3.1,a3.2.1,a3.2.2.1,a3.2.2.2.1,a3.2.2.2.2.1,by rw [hold _ (by omega),hold _ (by omega)]; exact a3.2.2.2.2.2⟩)
        · rw [List.getElem?_append_right (by omega)] at hy
          have hi':i=l1.length:=by
            have:=(List.getElem?_eq_some_iff.1 hy).1
            simp at this; omega
          subst hi'
          simp at hy; subst hy
          rw [hnew]
          have nn:∀ j,j < l1.length→0≤sz.getD j 0:=fun j hj=>by have:=hv j (by omega); omega
          refine ⟨by omega,by omega,?_⟩
          rcases hv2 with a | a | a
          · exact .inl a.1
          · refine .inr (.inl ⟨a.1,a.2.1,a.2.2.1,?_⟩)
            rw [hold _ (by omega),a.2.2.2]
            have:=nn x.l.toNat (by omega)
            unfold szg; omega
          · refine .inr (.inr ⟨a.1,a.2.1,a.2.2.1,a.2.2.2.1,a.2.2.2.2.1,?_⟩)
            rw [hold _ (by omega),hold _ (by omega),a.2.2.2.2.2]
            have:=nn x.l.toNat (by omega)
            have:=nn x.r.toNat (by omega)
            unfold szg; omega
      have:=vsteps_sz l2 (l1++[x]) (sz++[v]) sz' (by simp [hl]) hv1 hs1 h
      simpa using this
theorem valid_sz {l:List Nd} (h:validOf l=true):0 < l.length∧l.length≤256∧∃ g,Sz l g:=by
  unfold validOf at h
  cases l with
  | nil=>cases h
  | cons x l =>
    simp only [] at h
    split at h
    · cases h
    · split at h
      · cases h
      · rename_i sz hs
        refine ⟨by simp,by omega,szg sz,?_⟩
        have:=vsteps_sz (x :: l) [] [] sz rfl (fun j hj=>by simp at hj) (fun i y hy=>by simp at hy) hs
        simpa using this
/-! ### The builder -/
def setL (st:List Nd) (n:Nat) (v:Int):List Nd:=st.modify n fun x=>{ x with l:=v }
def bd (l:List Nd):Nat→Nat→Nat→List Nd→Nat × List Nd
  | 0,_,out,st=>(out,st)
  | f+1,n,out,st =>
    let x:=l.getD n default
    if x.k=2 then (st.length,st++[⟨1,out,0,x.a,x.b,x.c,x.d⟩])
    else if x.k=8 then (st.length,st++[⟨3,out,0,0,0,0,0⟩])
    else if x.k=9 then (st.length,st++[⟨4,out,0,0,0,0,0⟩])
    else if x.k=3 then
      let y:=bd l f x.r.toNat out st
      bd l f x.l.toNat y.1 y.2
    else if x.k=4 then
      let y:=bd l f x.l.toNat out st
      let z:=bd l f x.r.toNat out y.2
      (z.2.length,z.2++[⟨2,y.1,z.1,0,0,0,0⟩])
    else if x.k=7 then
      let y:=bd l f x.l.toNat out st
      (y.2.length,y.2++[⟨2,y.1,out,0,0,0,0⟩])
    else if x.k=5∨x.k=6 then
      let y:=bd l f x.l.toNat st.length (st++[⟨2,0,out,0,0,0,0⟩])
      (if x.k=6 then y.1 else st.length,setL y.2 st.length y.1)
    else (out,st)
def InR (st:List Nd):Prop:=∀ x ∈ st,0≤x.l∧x.l < st.length∧0≤x.r∧x.r < st.length
theorem InR.snoc {st:List Nd} {x:Nd} (h:InR st) (h1:0≤x.l∧x.l≤st.length) (h2:0≤x.r∧x.r≤st.length):InR (st++[x]):=fun y hy=>by
  rw [List.length_append,List.length_singleton]
  rcases List.mem_append.1 hy with h' | h'
  · have:=h y h'; push_cast; omega
  · simp at h'; subst h'; push_cast; omega
theorem setL_length (st:List Nd) (n:Nat) (v:Int):(setL st n v).length=st.length:=by simp [setL]
theorem InR.setL {st:List Nd} {n:Nat} {v:Int} (h:InR st) (hv:0≤v∧v < st.length):InR (setL st n v):=fun y hy=>by
  rw [setL_length]
  obtain ⟨i,hi⟩:=List.mem_iff_getElem?.1 hy
  unfold Go.Proofs.Ytaffcoiomggpfaa.setL at hi
  rw [List.getElem?_modify] at hi
  cases hs:st[i]? with
  | none=>rw [hs] at hi; simp at hi
  | some x =>
    rw [hs] at hi
    have hx:=h x (List.mem_iff_getElem?.2 ⟨i,hs⟩)
    simp at hi
    subst hi
    split
    · exact ⟨hv.1,hv.2,hx.2.2⟩
    · exact hx
theorem bd_ok {l:List Nd} {g:Nat→Nat} (hz:Sz l g):∀ (f n out:Nat) (st:List Nd),n < f→n < l.length→out < st.length→InR st →
    (bd l f n out st).1 < (bd l f n out st).2.length∧st.length≤(bd l f n out st).2.length∧(bd l f n out st).2.length≤st.length+g n∧InR (bd l f n out st).2
  | 0,n,out,st,hf,_,_,_=>by omega
  | f+1,n,out,st,hf,hn,ho,hi=>by
    obtain ⟨x,hx⟩:∃ x,l[n]?=some x:=⟨_,List.getElem?_eq_getElem hn⟩
    have hxd:l.getD n default=x:=by rw [List.getD_eq_getElem?_getD,hx]; rfl
    obtain ⟨g1,g2,g3⟩:=hz n x hx
    have leaf:∀ y:Nd,y.l=out∧y.r=0→(st.length < (st++[y]).length∧st.length≤(st++[y]).length∧(st++[y]).length≤st.length+g n∧InR (st++[y])):=fun y hy=>by
      refine ⟨by simp,by simp,by simp; omega,hi.snoc (by omega) (by omega)⟩
    unfold bd
    dsimp only
    rw [hxd]
    split
    · exact leaf _ ⟨rfl,rfl⟩
    split
    · exact leaf _ ⟨rfl,rfl⟩
    split
    · exact leaf _ ⟨rfl,rfl⟩
    have k2:(x.k=3∨x.k=4)→(0≤x.l∧x.l < n∧0≤x.r∧x.r < n∧g n=1+g x.l.toNat+g x.r.toNat):=fun h=>by
      have:kidsOf x.k=2:=by unfold kidsOf; rw [if_neg (by omega),if_neg (by omega),if_pos h]
      rcases g3 with g3 | g3 | g3 <;> first | exact g3.2 | omega
    have k1:(x.k=5∨x.k=6∨x.k=7)→(0≤x.l∧x.l < n∧g n=1+g x.l.toNat):=fun h=>by
      have:kidsOf x.k=1:=by unfold kidsOf; rw [if_neg (by omega),if_pos h]
      rcases g3 with g3 | g3 | g3 <;> first | exact g3.2 | omega
    split
    · obtain ⟨b1,b2,b3,b4,b5⟩:=k2 (.inl ‹_›)
      obtain ⟨c1,c2,c3,c4⟩:=bd_ok hz f x.r.toNat out st (by omega) (by omega) ho hi
      obtain ⟨d1,d2,d3,d4⟩:=bd_ok hz f x.l.toNat _ _ (by omega) (by omega) c1 c4
      exact ⟨d1,by omega,by omega,d4⟩
    split
    · obtain ⟨b1,b2,b3,b4,b5⟩:=k2 (.inr ‹_›)
      obtain ⟨c1,c2,c3,c4⟩:=bd_ok hz f x.l.toNat out st (by omega) (by omega) ho hi
      obtain ⟨d1,d2,d3,d4⟩:=bd_ok hz f x.r.toNat out _ (by omega) (by omega) (by omega) c4
      refine ⟨by simp,by simp; omega,by simp; omega,d4.snoc ⟨by simp only []; omega,by simp only []; omega⟩ ⟨by simp only []; omega,by simp only []; omega⟩⟩
    split
    · obtain ⟨b1,b2,b3⟩:=k1 (by omega)
      obtain ⟨c1,c2,c3,c4⟩:=bd_ok hz f x.l.toNat out st (by omega) (by omega) ho hi
      refine ⟨by simp,by simp; omega,by simp; omega,c4.snoc ⟨by simp only []; omega,by simp only []; omega⟩ ⟨by simp only []; omega,by simp only []; omega⟩⟩
    split
    · obtain ⟨b1,b2,b3⟩:=k1 (by omega)
      have hi1:InR (st++[⟨2,0,out,0,0,0,0⟩]):=hi.snoc ⟨by simp only []; omega,by simp only []; omega⟩ ⟨by simp only []; omega,by simp only []; omega⟩
      obtain ⟨c1,c2,c3,c4⟩:=bd_ok hz f x.l.toNat st.length (st++[⟨2,0,out,0,0,0,0⟩]) (by omega) (by omega) (by simp) hi1
      simp only [List.length_append,List.length_singleton] at c2 c3
      refine ⟨?_,by rw [setL_length]; omega,by rw [setL_length]; omega,c4.setL ⟨by omega,by omega⟩⟩
      rw [setL_length]
      split
      · exact c1
      · omega
    · exact ⟨ho,Nat.le_refl _,Nat.le_add_right _ _,hi⟩
end Go.Proofs.Ytaffcoiomggpfaa
/- Contracts of package auto (2): put,build,Build. -/
namespace Go.Proofs.Ytaffcoiomggpfaa
open Go.V
attribute [local irreducible] app
set_option linter.constructorNameAsVariable false
set_option linter.unusedVariables false
def BSs (H0 H:Heap) (b:Nat) (pn:OA) (ln cn:Nat) (st:List Nd):Prop :=
  Ext H0 H∧H0 b=none∧∃ p c t,H b=some (.cells #[.slice pn ln cn,.slice p st.length c] t (0,0))∧Vec H 7 p st.length c (flat st)∧∀ i,blk p i→H0 i=none∧i ≠ b
section
variable {H0 H:Heap} {b ln cn:Nat} {pn:OA} {st:List Nd} {Q:QT} {E:ET}
theorem BSs.ext {H':Heap} (h:BSs H0 H b pn ln cn st) (he:Ext H H'):BSs H0 H' b pn ln cn st:=by
  obtain ⟨h1,h2,p,c,t,h5,h6,h7⟩:=h
  exact ⟨h1.trans he,h2,p,c,t,he _ _ h5,h6.ext he,h7⟩
theorem BSs.new {i:Nat} (h:BSs H0 H b pn ln cn st) (hi:H i=none) (o:Obj):BSs (H0.set i o) (H.set i o) b pn ln cn st:=by
  obtain ⟨h1,h2,p,c,t,h5,h6,h7⟩:=h
  have hb:b ≠ i:=ne_of h5 hi
  refine ⟨fun j x hj=>?_,by rw [Heap.set_ne _ _ hb]; exact h2,p,c,t,by rw [Heap.set_ne _ _ hb]; exact h5,h6.ext (Ext.new hi o),fun j hj=>⟨?_,(h7 j hj).2⟩⟩
  · by_cases e:j=i
    · subst e; rw [Heap.set_self] at hj ⊢; exact hj
    · rw [Heap.set_ne _ _ e] at hj ⊢; exact h1 j x hj
  · rw [Heap.set_ne _ _ (fun e=>by rw [e] at hj; exact h6.known hj hi)]; exact (h7 j hj).1
theorem BSs.old {i:Nat} {o:Obj} (hi:H0 i=none) (h:BSs (H0.set i o) H b pn ln cn st):BSs H0 H b pn ln cn st:=by
  obtain ⟨h1,h2,p,c,t,h5,h6,h7⟩:=h
  have hl:∀ j,(H0.set i o) j=none→H0 j=none:=fun j hj=>by
    by_cases e:j=i
    · subst e; exact hi
    · rwa [Heap.set_ne _ _ e] at hj
  exact ⟨h1.of_set hi,hl _ h2,p,c,t,h5,h6,fun j hj=>⟨hl _ (h7 j hj).1,(h7 j hj).2⟩⟩
theorem bput_c {x:Nd} (h:BSs H0 H b pn ln cn st) (hl:st.length < 1048576) (hk:∀ H',BSs H0 H' b pn ln cn (st++[x])→Q (.int .i64 (st.length:Nat)) H') :
    Does Pr 82 #[.pointer (some ⟨b,0,none⟩),.agg #[.int .i64 x.k,.int .i64 x.l,.int .i64 x.r,.int .u64 x.a,.int .u64 x.b,.int .u64 x.c,.int .u64 x.d]] H Q E:=by
  refine zqj1_fn _ _ _ _ _ _ _ _ Q E H ?_
  unfold zqj1
  refine nw_ext fun i H1 hi he1 hc1=>?_
  obtain ⟨h1,h2,p,c,t,h5,h6,h7⟩:=h.ext he1
  simp only [ptr_some,add_at]
  refine ldSl_at (p:=p) (l:=st.length) (m:=c) h5 rfl ?_
  refine ⟨x.k,x.l,x.r,x.a,x.b,x.c,x.d,rd_at hc1 _ 0 0 (fun j hj=>by simp),?_⟩
  refine nw_ext fun j H2 hj he2 hc2=>?_
  refine app_one (sz:=7) (ws:=x.cells) sl50 (h6.ext he2) hc2 rfl rfl hl (by omega) fun p' c' H3 hv hs hb'=>?_
  have hbb:¬ blk p b:=fun hb=>(h7 b hb).2 rfl
  have h5':H3 b=some (.cells #[.slice pn ln cn,.slice p st.length c] t (0,0)):=by rw [hs b hbb (by rw [he2 _ _ h5]; simp)]; exact he2 _ _ h5
  refine wr_new h5' (by simp) rfl (c':=#[.slice pn ln cn,.slice p' (st.length+1) c']) rfl fun H4 hc4 hb4=>?_
  refine ldSl_at (p:=p') (l:=st.length+1) (m:=c') hc4 rfl ?_
  have hw:IntKind.wrap .i64 (((st.length+1:Nat):Int) - 1)=(st.length:Nat):=by rw [IntWalk.i64_in _ (by omega)]; omega
  rw [hw]
  have hnb:∀ i,blk p' i→H0 i=none∧i ≠ b:=fun i hi=>by
    rcases hb' i hi with h | h
    · exact h7 i h
    · exact ⟨(h1.trans he2).free h,fun e=>by rw [e,he2 _ _ h5] at h; cases h⟩
  refine hk H4 ⟨fun j o hj=>?_,h2,p',c',t,by rw [hc4]; simp,?_,hnb⟩
  · have hjb:j ≠ b:=fun e=>by rw [e,h2] at hj; cases hj
    rw [hb4 j hjb]
    have hj':=(h1.trans he2) j o hj
    rw [hs j (fun hb=>by rw [(h7 j hb).1] at hj; cases hj) (by simp [hj'])]; exact hj'
  · rw [flat_snoc] at hv
    have hv':Vec H3 7 p' (st++[x]).length c' (flat (st++[x])):=by simpa using hv
    exact hv'.keep fun i hi _=>hb4 i (hnb i hi).2
theorem flat_setL {n:Nat} {v:Int}:∀ (st:List Nd) (n:Nat),n < st.length→flat (setL st n v)=(flat st).set (n * 7+1) (.int .i64 v)
  | [],n,h=>by simp at h
  | x :: st,0,h=>by simp [setL,flat,Nd.cells]
  | x :: st,n+1,h=>by
    have ih:=flat_setL (n:=n) (v:=v) st n (by simpa using h)
    unfold setL at ih ⊢
    rw [List.modify_succ_cons]
    have e:∀ (y:Nd) (l:List Nd),flat (y :: l)=y.cells++flat l:=fun y l=>by simp [flat]
    rw [e,e,ih,List.set_append_right _ _ (by simp [Nd.cells]; omega)]
    congr 2
    simp [Nd.cells]; omega
theorem setL_c {n:Nat} {v:Int} {K:Heap→Prop} (h:BSs H0 H b pn ln cn st) (hn:n < st.length) (hk:∀ H',BSs H0 H' b pn ln cn (setL st n v)→K H') :
    ldSl (Addr.add ⟨b,0,none⟩ 1) H fun p l c=>(0≤((n:Nat):Int)∧((n:Nat):Int) < ((l:Nat):Int))∧ptr p fun q=>wr (Addr.add (Addr.add q (((n:Nat):Int).toNat * 7)) 1) [.int .i64 v] H K:=by
  obtain ⟨h1,h2,p,c,t,h5,h6,h7⟩:=h
  rw [add_at]
  refine ldSl_at (p:=p) (l:=st.length) (m:=c) h5 rfl ⟨⟨by omega,by omega⟩,?_⟩
  obtain ⟨v1,v2,v3⟩:=id h6
  cases p with
  | none=>simp only [] at v3; omega
  | some a =>
    obtain ⟨bb,cs,t',rfl,hb,hcs,hget⟩:=v3
    simp only [ptr_some,add_at,Int.toNat_natCast,Nat.zero_add]
    have hbb:=h7 bb ⟨_,rfl,rfl⟩
    refine wr_new hb (by simp; omega) rfl (c':=cs.setIfInBounds (n * 7+1) (.int .i64 v)) rfl fun H4 hc4 hb4=>?_
    refine hk H4 ⟨fun j o hj=>?_,h2,some ⟨bb,0,none⟩,c,t,by rw [hb4 b (Ne.symm hbb.2),setL_length]; exact h5,?_,h7⟩
    · rw [hb4 j (fun e=>by rw [e,hbb.1] at hj; cases hj)]; exact h1 j o hj
    · refine ⟨by rw [flat_length],by rw [setL_length]; exact v2,bb,_,t',rfl,hc4,by simpa using hcs,fun j hj=>?_⟩
      rw [setL_length] at hj
      rw [flat_setL (n:=n) st n hn,Array.getElem?_setIfInBounds,List.getElem?_set]
      have hfl:=flat_length st
      by_cases e:n * 7+1=j
      · rw [if_pos e,if_pos e,if_pos (by omega),if_pos (by omega)]
      · rw [if_neg e,if_neg e]; exact hget j hj
end
set_option maxHeartbeats 1000000 in
theorem build_c {l:List Nd} {g:Nat→Nat} (hz:Sz l g):∀ (f:Nat) {H0 H:Heap} {b cn n out:Nat} {pn:OA} {st:List Nd} {Q:QT} {E:ET},n < f→n < l.length→out < st.length→InR st →
    st.length+g n≤100000→BSs H0 H b pn l.length cn st→Nds H0 pn l →
    (∀ H',BSs H0 H' b pn l.length cn (bd l f n out st).2→Q (.int .i64 ((bd l f n out st).1:Nat)) H') →
    Does Pr 83 #[.pointer (some ⟨b,0,none⟩),.int .i64 (n:Nat),.int .i64 (out:Nat)] H Q E
  | 0,_,_,_,_,_,_,_,_,_,_,hf,_,_,_,_,_,_,_=>by omega
  | f+1,H0,H,b,cn,n,out,pn,st,Q,E,hf,hn,ho,hi,hsz,h,hv,hk=>by
    refine zqk1_fn _ _ _ Q E H ?_
    obtain ⟨x,hx⟩:∃ x,l[n]?=some x:=⟨_,List.getElem?_eq_getElem hn⟩
    have hxd:l.getD n default=x:=by rw [List.getD_eq_getElem?_getD,hx]; rfl
    obtain ⟨g1,g2,g3⟩:=hz n x hx
    unfold zqk1 zqk1_71
    simp only [ptr_some]
    obtain ⟨_,_,p,c,t,h5,_,_⟩:=id h
    refine ldSl_at (p:=pn) (l:=l.length) (m:=cn) h5 rfl ⟨⟨by omega,by omega⟩,?_⟩
    obtain ⟨a,rfl,hrd⟩:=(hv.ext h.1) n x hx
    simp only [ptr_some,Int.toNat_natCast]
    refine ⟨x.k,x.l,x.r,x.a,x.b,x.c,x.d,hrd,?_⟩
    refine nw_ext fun i H1 hi1 he1 hc1=>?_
    refine wr_new hc1 (by simp) rfl (c':=x.cells.toArray) rfl fun H2 hc2 hb2=>?_
    have hi0:H0 i=none:=h.1.free hi1
    -- the node's copy is in the base
    have h2:BSs (H0.set i (.cells x.cells.toArray 48 (0,0))) H2 b (some a) l.length cn st:=by
      have:=h.new hi1 (.cells x.cells.toArray 48 (0,0))
      refine this.ext fun j o hj=>?_
      by_cases e:j=i
      · subst e; rw [Heap.set_self] at hj; rw [hc2]; exact hj
      · rw [Heap.set_ne _ _ e] at hj; rw [hb2 j e]; exact he1 j o hj
    have hv2:Nds (H0.set i (.cells x.cells.toArray 48 (0,0))) (some a) l:=hv.ext (Ext.new hi0 _)
    have hcx:∀ (H':Heap),Ext (H0.set i (.cells x.cells.toArray 48 (0,0))) H'→H' i=some (.cells x.cells.toArray 48 (0,0)):=fun H' he=>he.get
    have hk2:∀ H',BSs (H0.set i (.cells x.cells.toArray 48 (0,0))) H' b (some a) l.length cn (bd l (f+1) n out st).2→Q (.int .i64 ((bd l (f+1) n out st).1:Nat)) H':=fun H' h'=>hk H' (h'.old hi0)
    clear hk
    have hbd:bd l (f+1) n out st=(
      if x.k=2 then (st.length,st++[⟨1,out,0,x.a,x.b,x.c,x.d⟩])
      else if x.k=8 then (st.length,st++[⟨3,out,0,0,0,0,0⟩])
      else if x.k=9 then (st.length,st++[⟨4,out,0,0,0,0,0⟩])
      else if x.k=3 then
        let y:=bd l f x.r.toNat out st
        bd l f x.l.toNat y.1 y.2
      else if x.k=4 then
        let y:=bd l f x.l.toNat out st
        let z:=bd l f x.r.toNat out y.2
        (z.2.length,z.2++[⟨2,y.1,z.1,0,0,0,0⟩])
      else if x.k=7 then
        let y:=bd l f x.l.toNat out st
        (y.2.length,y.2++[⟨2,y.1,out,0,0,0,0⟩])
      else if x.k=5∨x.k=6 then
        let y:=bd l f x.l.toNat st.length (st++[⟨2,0,out,0,0,0,0⟩])
        (if x.k=6 then y.1 else st.length,setL y.2 st.length y.1)
      else (out,st)):=by
      conv=>lhs; unfold bd
      dsimp only
      rw [hxd]
    generalize hB:H0.set i (.cells x.cells.toArray 48 (0,0))=HB at h2 hv2 hcx hk2
    have hc2':=hcx H2 h2.1
    have k2:(x.k=3∨x.k=4)→(0≤x.l∧x.l < n∧0≤x.r∧x.r < n∧g n=1+g x.l.toNat+g x.r.toNat):=fun h=>by
      have:kidsOf x.k=2:=by unfold kidsOf; rw [if_neg (by omega),if_neg (by omega),if_pos h]
      rcases g3 with g3 | g3 | g3 <;> first | exact g3.2 | omega
    have k1:(x.k=5∨x.k=6∨x.k=7)→(0≤x.l∧x.l < n∧g n=1+g x.l.toNat):=fun h=>by
      have:kidsOf x.k=1:=by unfold kidsOf; rw [if_neg (by omega),if_pos h]
      rcases g3 with g3 | g3 | g3 <;> first | exact g3.2 | omega
    unfold zqk1_67
    simp only [ptr_some]
    refine ldI_at (n:=x.k) hc2' rfl ?_
    unfold zqk1_63 zqk1_61
    refine sel_beq (fun hc=>?_) (fun n2=>?_)
    · rw [if_pos hc] at hbd
      rw [hbd] at hk2
      unfold zqk1_3
      simp only [ptr_some,add_at]
      refine ⟨x.a,x.b,x.c,x.d,rd_at hc2' _ 3 0 (fun j hj=>by
        match j,hj with
        | 0,_=>rfl
        | 1,_=>rfl
        | 2,_=>rfl
        | 3,_=>rfl),?_⟩
      exact bput_c (x:=⟨1,out,0,x.a,x.b,x.c,x.d⟩) h2 (by omega) fun H3 h3=>⟨_,rfl,hk2 H3 h3⟩
    rw [if_neg n2] at hbd
    unfold zqk1_58 zqk1_56
    refine sel_beq (fun hc=>?_) (fun n8=>?_)
    · rw [if_pos hc] at hbd
      rw [hbd] at hk2
      unfold zqk1_5
      exact bput_c (x:=⟨3,out,0,0,0,0,0⟩) h2 (by omega) fun H3 h3=>⟨_,rfl,hk2 H3 h3⟩
    rw [if_neg n8] at hbd
    unfold zqk1_53 zqk1_51
    refine sel_beq (fun hc=>?_) (fun n9=>?_)
    · rw [if_pos hc] at hbd
      rw [hbd] at hk2
      unfold zqk1_7
      exact bput_c (x:=⟨4,out,0,0,0,0,0⟩) h2 (by omega) fun H3 h3=>⟨_,rfl,hk2 H3 h3⟩
    rw [if_neg n9] at hbd
    unfold zqk1_48 zqk1_46
    refine sel_beq (fun hc=>?_) (fun n3=>?_)
    · rw [if_pos hc] at hbd
      rw [hbd] at hk2
      obtain ⟨b1,b2,b3,b4,b5⟩:=k2 (.inl hc)
      obtain ⟨c1,c2,c3,c4⟩:=bd_ok hz f x.r.toNat out st (by omega) (by omega) ho hi
      have er:x.r=((x.r.toNat:Nat):Int):=by omega
      have el:x.l=((x.l.toNat:Nat):Int):=by omega
      unfold zqk1_9
      refine ⟨fun z=>z=i,?_⟩
      simp only [ptr_some,add_at]
      refine ⟨by trivial,ldI_at (n:=x.l) hc2' rfl (ldI_at (n:=x.r) hc2' rfl ?_)⟩
      rw [er]
      refine build_c hz f (by omega) (by omega) ho hi (by omega) h2 hv2 fun H3 h3=>⟨_,rfl,fun z hz' _=>by subst hz'; rw [hcx _ h3.1]; exact hc2'.symm,?_⟩
      rw [el]
      refine build_c hz f (by omega) (by omega) c1 c4 (by omega) h3 hv2 fun H4 h4=>⟨_,rfl,hk2 H4 h4⟩
    rw [if_neg n3] at hbd
    unfold zqk1_43 zqk1_41
    refine sel_beq (fun hc=>?_) (fun n4=>?_)
    · rw [if_pos hc] at hbd
      rw [hbd] at hk2
      obtain ⟨b1,b2,b3,b4,b5⟩:=k2 (.inr hc)
      obtain ⟨c1,c2,c3,c4⟩:=bd_ok hz f x.l.toNat out st (by omega) (by omega) ho hi
      obtain ⟨d1,d2,d3,d4⟩:=bd_ok hz f x.r.toNat out (bd l f x.l.toNat out st).2 (by omega) (by omega) (by omega) c4
      have er:x.r=((x.r.toNat:Nat):Int):=by omega
      have el:x.l=((x.l.toNat:Nat):Int):=by omega
      unfold zqk1_11
      refine ⟨fun z=>z=i,?_⟩
      simp only [ptr_some,add_at]
      refine ldI_at (n:=x.l) hc2' rfl ⟨by trivial,ldI_at (n:=x.r) hc2' rfl ?_⟩
      rw [el]
      refine build_c hz f (by omega) (by omega) ho hi (by omega) h2 hv2 fun H3 h3=>⟨_,rfl,fun z hz' _=>by subst hz'; rw [hcx _ h3.1]; exact hc2'.symm,?_⟩
      rw [er]
      refine build_c hz f (by omega) (by omega) (by omega) c4 (by omega) h3 hv2 fun H4 h4=>⟨_,rfl,?_⟩
      exact bput_c (x:=⟨2,((bd l f x.l.toNat out st).1:Nat),((bd l f x.r.toNat out (bd l f x.l.toNat out st).2).1:Nat),0,0,0,0⟩) h4 (by omega) fun H5 h5=>⟨_,rfl,hk2 H5 h5⟩
    rw [if_neg n4] at hbd
    unfold zqk1_38 zqk1_36
    refine sel_beq (fun hc=>?_) (fun n7=>?_)
    · rw [if_pos hc] at hbd
      rw [hbd] at hk2
      obtain ⟨b1,b2,b3⟩:=k1 (by omega)
      obtain ⟨c1,c2,c3,c4⟩:=bd_ok hz f x.l.toNat out st (by omega) (by omega) ho hi
      have el:x.l=((x.l.toNat:Nat):Int):=by omega
      unfold zqk1_13
      simp only [ptr_some,add_at]
      refine ldI_at (n:=x.l) hc2' rfl ?_
      rw [el]
      refine build_c hz f (by omega) (by omega) ho hi (by omega) h2 hv2 fun H3 h3=>⟨_,rfl,?_⟩
      exact bput_c (x:=⟨2,((bd l f x.l.toNat out st).1:Nat),(out:Nat),0,0,0,0⟩) h3 (by omega) fun H5 h5=>⟨_,rfl,hk2 H5 h5⟩
    rw [if_neg n7] at hbd
    have loop:(x.k=5∨x.k=6)→zqk1_31 Q E (some ⟨b,0,none⟩) (out:Nat) (some ⟨i,0,none⟩) true H2:=by
      intro hc
      rw [if_pos hc] at hbd
      rw [hbd] at hk2
      dsimp only at hk2
      obtain ⟨b1,b2,b3⟩:=k1 (by omega)
      have el:x.l=((x.l.toNat:Nat):Int):=by omega
      have hi1:InR (st++[⟨2,0,out,0,0,0,0⟩]):=hi.snoc ⟨by simp only []; omega,by simp only []; omega⟩ ⟨by simp only []; omega,by simp only []; omega⟩
      have hl1:(st++[(⟨2,0,out,0,0,0,0⟩:Nd)]).length=st.length+1:=by simp
      obtain ⟨c1,c2,c3,c4⟩:=bd_ok hz f x.l.toNat st.length (st++[⟨2,0,out,0,0,0,0⟩]) (by omega) (by omega) (by simp) hi1
      unfold zqk1_31
      refine sel_tt ?_
      unfold zqk1_26
      refine bput_c (x:=⟨2,0,(out:Nat),0,0,0,0⟩) h2 (by omega) fun H3 h3=>⟨_,rfl,?_⟩
      unfold zqk1_23
      simp only [ptr_some,add_at]
      refine ldI_at (n:=x.l) (hcx _ h3.1) rfl ?_
      rw [el]
      refine build_c hz f (by omega) (by omega) (by omega) hi1 (by omega) h3 hv2 fun H4 h4=>⟨_,rfl,?_⟩
      unfold zqk1_20
      simp only [ptr_some]
      refine setL_c h4 (by omega) fun H5 h5=>?_
      unfold zqk1_17
      simp only [ptr_some]
      refine ldI_at (n:=x.k) (hcx _ h5.1) rfl (sel_beq (fun h6=>?_) (fun h6=>?_))
      · rw [if_pos h6] at hk2; exact hk2 H5 h5
      · rw [if_neg h6] at hk2
        unfold zqk1_15
        exact hk2 H5 h5
    unfold zqk1_33
    refine sel_mk (fun hc=>?_) (fun hc=>?_)
    · rw [hc]; exact loop (.inl (by simpa using hc))
    cases h6:(x.k == 6) with
    | true=>exact loop (.inr (by simpa using h6))
    | false =>
      have hc:x.k ≠ 5:=by simpa using hc
      have h6:x.k ≠ 6:=by simpa using h6
      rw [if_neg (by omega)] at hbd
      rw [hbd] at hk2
      unfold zqk1_31
      refine sel_ff ?_
      unfold zqk1_29 zqk1_1
      exact hk2 H2 h2
def setLR (st:List Nd) (v:Int):List Nd:=st.modify 0 fun x=>{ x with l:=v,r:=v }
theorem setLR_length (st:List Nd) (v:Int):(setLR st v).length=st.length:=by simp [setLR]
theorem InR.setLR {st:List Nd} {v:Int} (h:InR st) (hv:0≤v∧v < st.length):InR (setLR st v):=fun y hy=>by
  rw [setLR_length]
  cases st with
  | nil=>simp [Go.Proofs.Ytaffcoiomggpfaa.setLR] at hy
  | cons x st =>
    simp [Go.Proofs.Ytaffcoiomggpfaa.setLR] at hy
    rcases hy with rfl | hy
    · exact ⟨hv.1,hv.2,hv.1,hv.2⟩
    · exact h y (by simp [hy])
def buildOf (l:List Nd):List Nd :=
  setLR (bd l l.length (l.length - 1) 1 [⟨2,0,0,0,0,0,0⟩,⟨5,0,0,0,0,0,0⟩]).2 (bd l l.length (l.length - 1) 1 [⟨2,0,0,0,0,0,0⟩,⟨5,0,0,0,0,0,0⟩]).1
theorem InR2:InR [⟨2,0,0,0,0,0,0⟩,⟨5,0,0,0,0,0,0⟩]:=fun x hx=>by
  simp at hx
  rcases hx with rfl | rfl <;> simp
theorem build_facts {l:List Nd} (h:validOf l=true):InR (buildOf l)∧2≤(buildOf l).length∧(buildOf l).length≤l.length+2∧l.length≤256:=by
  obtain ⟨h1,h2,g,hz⟩:=valid_sz h
  obtain ⟨c1,c2,c3,c4⟩:=bd_ok hz l.length (l.length - 1) 1 [⟨2,0,0,0,0,0,0⟩,⟨5,0,0,0,0,0,0⟩] (by omega) (by omega) (by simp) InR2
  have hg:g (l.length - 1)≤l.length - 1+1:=by
    obtain ⟨x,hx⟩:∃ x,l[l.length - 1]?=some x:=⟨_,List.getElem?_eq_getElem (by omega)⟩
    exact (hz _ x hx).2.1
  unfold buildOf
  rw [setLR_length]
  simp only [List.length_cons,List.length_nil] at c2 c3
  exact ⟨c4.setLR ⟨by omega,by omega⟩,by omega,by omega,h2⟩
theorem Build_c {H:Heap} {p:OA} {c:Nat} {l:List Nd} {Q:QT} {E:ET} (hv:Nds H p l) (hval:validOf l=true)
    (hk:∀ H' p' c',Ext H H'→Vec H' 7 p' (buildOf l).length c' (flat (buildOf l))→(∀ j,blk p' j→H j=none)→Q (.slice p' (buildOf l).length c') H'):Does Pr 51 #[.slice p l.length c] H Q E:=by
  obtain ⟨hl1,hl2,g,hz⟩:=valid_sz hval
  refine zqc1_fn _ _ _ Q E H ?_
  unfold zqc1
  refine nw_ext fun i H1 hi he1 hc1=>?_
  have h1:BSs H H1 i p l.length c []:=⟨he1,hi,none,0,132,hc1,Vec.nil _ 7,fun j hj=>by obtain ⟨a,ha,_⟩:=hj; cases ha⟩
  refine bput_c (x:=⟨2,0,0,0,0,0,0⟩) h1 (by simp) fun H2 h2=>⟨_,rfl,?_⟩
  refine bput_c (x:=⟨5,0,0,0,0,0,0⟩) h2 (by simp) fun H3 h3=>⟨_,rfl,?_⟩
  have hw:IntKind.wrap .i64 (((l.length:Nat):Int) - 1)=((l.length - 1:Nat):Int):=by rw [IntWalk.i64_in _ (by omega)]; omega
  rw [hw]
  have hg:g (l.length - 1)≤l.length - 1+1:=by
    obtain ⟨x,hx⟩:∃ x,l[l.length - 1]?=some x:=⟨_,List.getElem?_eq_getElem (by omega)⟩
    exact (hz _ x hx).2.1
  have hok:=bd_ok hz l.length (l.length - 1) 1 [⟨2,0,0,0,0,0,0⟩,⟨5,0,0,0,0,0,0⟩] (by omega) (by omega) (by simp) InR2
  have hdef:buildOf l=setLR (bd l l.length (l.length - 1) 1 [⟨2,0,0,0,0,0,0⟩,⟨5,0,0,0,0,0,0⟩]).2 (bd l l.length (l.length - 1) 1 [⟨2,0,0,0,0,0,0⟩,⟨5,0,0,0,0,0,0⟩]).1:=rfl
  refine build_c hz l.length (n:=l.length - 1) (out:=1) (st:=[⟨2,0,0,0,0,0,0⟩,⟨5,0,0,0,0,0,0⟩]) (by omega) (by omega) (by simp) InR2 (by simp only [List.length_cons,List.length_nil]; omega) h3 hv fun H4 h4=>⟨_,rfl,?_⟩
  revert hok hdef h4
  generalize bd l l.length (l.length - 1) 1 [⟨2,0,0,0,0,0,0⟩,⟨5,0,0,0,0,0,0⟩]=Y
  obtain ⟨y,st⟩:=Y
  intro hok hdef h4
  dsimp only at hok hdef h4 ⊢
  obtain ⟨o1,o2,o3,o4⟩:=hok
  simp only [List.length_cons,List.length_nil] at o2
  have hlen:(buildOf l).length=st.length:=by rw [hdef,setLR_length]
  obtain ⟨e1,e2,ps,cs,t,e5,e6,e7⟩:=h4
  refine ldSl_at (p:=ps) (l:=st.length) (m:=cs) e5 rfl (ldSl_at (p:=ps) (l:=st.length) (m:=cs) e5 rfl ⟨⟨by omega,by omega⟩,?_⟩)
  obtain ⟨v1,v2,v3⟩:=e6
  cases ps with
  | none=>simp only [] at v3; omega
  | some a =>
    obtain ⟨bb,cc,t',rfl,hb,hcs,hget⟩:=v3
    simp only [ptr_some,add_at,Nat.zero_add]
    have hbb:=e7 bb ⟨_,rfl,rfl⟩
    refine wr_new hb (by simp; omega) rfl (c':=cc.setIfInBounds 1 (.int .i64 (y:Nat))) rfl fun H5 hc5 hb5=>?_
    refine ⟨⟨by omega,by omega⟩,?_⟩
    refine wr_new hc5 (by simp; omega) rfl (c':=(cc.setIfInBounds 1 (.int .i64 (y:Nat))).setIfInBounds 2 (.int .i64 (y:Nat))) rfl fun H6 hc6 hb6=>?_
    refine ldSl_at (p:=some ⟨bb,0,none⟩) (l:=st.length) (m:=cs) (by rw [hb6 i (Ne.symm hbb.2),hb5 i (Ne.symm hbb.2)]; exact e5) rfl ?_
    have:=hk H6 (some ⟨bb,0,none⟩) cs (ext_but (ext_but e1 hbb.1 hb5) hbb.1 hb6)
    rw [hlen] at this
    refine this ⟨by rw [flat_length,hlen],v2,bb,_,t',rfl,hc6,by simpa using hcs,fun j hj=>?_⟩ (fun j hj=>by obtain ⟨a,ha,rfl⟩:=hj; cases ha; exact hbb.1)
    rw [hdef]
    cases st with
    | nil=>simp at o2
    | cons x st =>
      have ef:flat (setLR (x :: st) (y:Nat))=((flat (x :: st)).set 1 (.int .i64 (y:Nat))).set 2 (.int .i64 (y:Nat)):=by simp [setLR,flat,Nd.cells]
      rw [ef,Array.getElem?_setIfInBounds,Array.getElem?_setIfInBounds,List.getElem?_set,List.getElem?_set]
      have hfl:=flat_length (x :: st)
      simp only [List.length_set,Array.size_setIfInBounds]
      by_cases q2:2=j
      · rw [if_pos q2,if_pos q2,if_pos (by omega),if_pos (by omega)]
      · rw [if_neg q2,if_neg q2]
        by_cases q1:1=j
        · rw [if_pos q1,if_pos q1,if_pos (by omega),if_pos (by omega)]
        · rw [if_neg q1,if_neg q1]; exact hget j hj
end Go.Proofs.Ytaffcoiomggpfaa
