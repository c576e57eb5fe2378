import Derived.Test.YtaffcoiomggpfaaVText
import Derived.IntWalk
import Derived.Laws.Append
import Derived.Test.YtaffcoiomggpfaaRows
import Derived.WalkKit
import Derived.ProofKit
import Derived.OpenShut
import Derived.JoinedCond
import Derived.Below
import Derived.ChangeSlices
import Derived.ChangeMaps5
import Derived.WideKeyArgs
import Derived.Test.YtaffcoiomggpfaaVPr
import Derived.Test.YtaffcoiomggpfaaFmill
/- Words for contracts: views that grow,cells that are known,vectors. -/
namespace Go.V
set_option linter.constructorNameAsVariable false
set_option linter.unusedVariables false
variable {P:Program}
def Ext (H0 H:Heap):Prop:=∀ i o,H0 i=some o→H i=some o
theorem Ext.refl (H:Heap):Ext H H:=fun _ _ h=>h
theorem Ext.trans {A B C:Heap} (h:Ext A B) (g:Ext B C):Ext A C:=fun i o x=>g i o (h i o x)
theorem Ext.set {H0 H:Heap} (h:Ext H0 H) {i:Nat} (hi:H0 i=none) (o:Obj):Ext H0 (H.set i o):=fun j x hx=>by
  rw [Heap.set_ne _ _ (fun e=>by rw [e,hi] at hx; cases hx)]; exact h j x hx
theorem Ext.base {H0 H:Heap} (h:Ext H0 H) {i:Nat} {o:Obj} (hi:H i=some o):Ext (H0.set i o) H:=fun j x hx=>by
  by_cases e:j=i
  · subst e; rw [Heap.set_self] at hx; rw [hi]; exact hx
  · rw [Heap.set_ne _ _ e] at hx; exact h j x hx
theorem Ext.of_set {H0 H:Heap} {i:Nat} {o:Obj} (hi:H0 i=none) (h:Ext (H0.set i o) H):Ext H0 H:=fun j x hx =>
  h j x (by rw [Heap.set_ne _ _ (fun e=>by rw [e,hi] at hx; cases hx)]; exact hx)
theorem Ext.get {H0 H:Heap} {i:Nat} {o:Obj} (h:Ext (H0.set i o) H):H i=some o:=h i o (Heap.set_self _ _ _)
theorem Ext.free {H0 H:Heap} (h:Ext H0 H) {i:Nat} (hi:H i=none):H0 i=none:=by
  cases h0:H0 i with
  | none=>rfl
  | some o=>rw [h i o h0] at hi; cases hi
theorem ne_of {H:Heap} {i j:Nat} {o:Obj} (h:H i=some o) (g:H j=none):i ≠ j:=fun e=>by rw [e,g] at h; cases h
/-! Reads and writes in a block that is known. -/
theorem cell_at {H:Heap} {b o:Nat} {c:Array Value} {t:TypeId} {fr:Nat × Nat} {v:Value} (h:H b=some (.cells c t fr)) (hv:c[o]?=some v):H.cell? ⟨b,o,none⟩=some v:=by
  simp [Heap.cell?,h,hv]
theorem add_at (b o n:Nat):Addr.add ⟨b,o,none⟩ n=⟨b,o+n,none⟩:=by simp [Addr.add]
theorem ldI_at {H:Heap} {b o:Nat} {c:Array Value} {t:TypeId} {fr:Nat × Nat} {k:IntKind} {n:Int} {K:Int→Prop} (h:H b=some (.cells c t fr)) (hv:c[o]?=some (.int k n)) (hk:K n) :
    ldI k ⟨b,o,none⟩ H K:=⟨n,cell_at h hv,hk⟩
theorem ldB_at {H:Heap} {b o:Nat} {c:Array Value} {t:TypeId} {fr:Nat × Nat} {n:Bool} {K:Bool→Prop} (h:H b=some (.cells c t fr)) (hv:c[o]?=some (.bool n)) (hk:K n) :
    ldB ⟨b,o,none⟩ H K:=⟨n,cell_at h hv,hk⟩
theorem ldS_at {H:Heap} {b o:Nat} {c:Array Value} {t:TypeId} {fr:Nat × Nat} {n:ByteArray} {K:ByteArray→Prop} (h:H b=some (.cells c t fr)) (hv:c[o]?=some (.string n)) (hk:K n) :
    ldS ⟨b,o,none⟩ H K:=⟨n,cell_at h hv,hk⟩
theorem ldSl_at {H:Heap} {b o:Nat} {c:Array Value} {t:TypeId} {fr:Nat × Nat} {p:OA} {l m:Nat} {K:OA→Nat→Nat→Prop} (h:H b=some (.cells c t fr))
    (hv:c[o]?=some (.slice p l m)) (hk:K p l m):ldSl ⟨b,o,none⟩ H K:=⟨p,l,m,cell_at h hv,hk⟩
theorem wr_at {H:Heap} {b o:Nat} {c:Array Value} {t:TypeId} {vs:List Value} {K:Heap→Prop} (h:H b=some (.cells c t (0,0))) (hs:o+vs.length≤c.size) (ho:vs.all oneC=true)
    (hk:K (H.set b (.cells (over c o vs) t (0,0)))):wr ⟨b,o,none⟩ vs H K:=⟨c,t,(0,0),h,rfl,hs,.inr (Nat.zero_le _),ho,hk⟩
theorem rd_at {H:Heap} {b:Nat} {c:Array Value} {t:TypeId} {fr:Nat × Nat} (h:H b=some (.cells c t fr)):∀ (vs:List Value) (o i:Nat),(∀ j,j < vs.length→c[o+i+j]?=vs[j]?)→H.rd ⟨b,o,none⟩ i vs
  | [],_,_,_=>trivial
  | v :: vs,o,i,hv=>⟨by rw [add_at]; exact cell_at h (hv 0 (by simp)),rd_at h vs o (i+1) fun j hj=>by
      have:=hv (j+1) (by simp; omega)
      simpa [Nat.add_assoc,Nat.add_comm 1 j] using this⟩
/-! ### Vectors: a slice that owns its block -/
def blk (p:OA) (i:Nat):Prop:=∃ a,p=some a∧i=a.block
def Vec (H:Heap) (sz:Nat) (p:OA) (l c:Nat) (vs:List Value):Prop :=
  vs.length=l * sz∧l≤c∧match p with
  | none=>c=0
  | some a=>∃ b cs t,a=⟨b,0,none⟩∧H b=some (.cells cs t (0,0))∧cs.size=c * sz∧∀ j,j < l * sz→cs[j]?=vs[j]?
theorem Vec.nil (H:Heap) (sz:Nat):Vec H sz none 0 0 []:=⟨by simp,Nat.le_refl _,rfl⟩
theorem Vec.keep {H H':Heap} {sz:Nat} {p:OA} {l c:Nat} {vs:List Value} (h:Vec H sz p l c vs) (hk:∀ i,blk p i→H i ≠ none→H' i=H i):Vec H' sz p l c vs:=by
  obtain ⟨h1,h2,h3⟩:=h
  refine ⟨h1,h2,?_⟩
  cases p with
  | none=>exact h3
  | some a =>
    obtain ⟨b,cs,t,rfl,h4,h5⟩:=h3
    exact ⟨b,cs,t,rfl,by rw [hk b ⟨_,rfl,rfl⟩ (by simp [h4])]; exact h4,h5⟩
theorem Vec.known {H:Heap} {sz:Nat} {p:OA} {l c:Nat} {vs:List Value} (h:Vec H sz p l c vs) {i:Nat} (hi:blk p i):H i ≠ none:=by
  obtain ⟨a,rfl,rfl⟩:=hi
  obtain ⟨_,_,b,cs,t,rfl,h4,_⟩:=h
  simp [h4]
theorem Vec.rdS {H:Heap} {sz:Nat} {p:OA} {l c:Nat} {vs:List Value} (h:Vec H sz p l c vs):H.rdS p vs:=by
  obtain ⟨h1,h2,h3⟩:=h
  cases p with
  | none =>
    have:l=0:=by omega
    subst this
    exact List.eq_nil_of_length_eq_zero (by simpa using h1)
  | some a =>
    obtain ⟨b,cs,t,rfl,h4,h5,h6⟩:=h3
    exact rd_at h4 vs 0 0 fun j hj=>by simpa using h6 j (by omega)
theorem over_get:∀ (vs:List Value) (c:Array Value) (o j:Nat),o+vs.length≤c.size→(over c o vs)[j]?=if o≤j∧j < o+vs.length then vs[j - o]? else c[j]?
  | [],c,o,j,h=>by simp [over]; intro h1 h2; omega
  | v :: vs,c,o,j,h=>by
    rw [over,over_get vs _ _ _ (by simp at h ⊢; omega)]
    simp only [List.length_cons] at h ⊢
    by_cases h1:j=o
    · subst h1
      rw [if_neg (by omega),if_pos (by omega)]
      simp [Array.getElem?_setIfInBounds]; omega
    · by_cases h2:o+1≤j∧j < o+1+vs.length
      · rw [if_pos h2,if_pos (by omega)]
        rw [show j - o=(j - (o+1))+1 by omega]; simp
      · rw [if_neg h2,if_neg (by omega)]
        rw [Array.getElem?_setIfInBounds_ne (by omega)]
structure SlT (P:Program) (t:TypeId) (sz:Nat):Prop where
  has:∃ e i z,P.underlying t=some (.slice e)∧P.info? e=some i∧i.zero=some z∧z.cells.size=i.size∧i.size=sz∧0 < i.bytes∧i.bytes≤65536
theorem app_vec {t:TypeId} {sz:Nat} {p:OA} {l c n:Nat} {vs ws:List Value} {x:Value} {H:Heap} {K:OA→Nat→Nat→Heap→Prop} (ht:SlT P t sz)
    (hv:Vec H sz p l c vs) (hx:∀ K:Nat→List Value→Prop,K n ws→srcOf sz x H K) (hws:ws.length=n * sz) (ho:ws.all oneC=true) (hcap:l+n≤1048576) (hsz:0 < sz)
    (hk:∀ p' c' H',Vec H' sz p' (l+n) c' (vs++ws)→(∀ j,¬ blk p j→H j ≠ none→H' j=H j)→(∀ j,blk p' j→blk p j∨H j=none)→K p' (l+n) c' H') :
    app P t p l c x H K:=by
  obtain ⟨e,i,z,h1,h2,h3,h4,h5,h6,h7⟩:=ht.has
  subst h5
  unfold app tyD
  rw [h1]
  simp only [tyI,tyZ,h2,h3]
  have hb:Nat.beq z.cells.size i.size=true:=by rw [h4]; exact Nat.beq_refl _
  rw [hb]
  simp only []
  refine hx _ ⟨fun hle=>?_,fun hlt=>⟨?_,h6,vs,hv.1,hv.rdS,fun c' hc' id hid=>?_⟩⟩
  · cases ws with
    | nil =>
      have hn:n=0:=by
        rcases Nat.mul_eq_zero.1 (by simpa using hws.symm:n * i.size=0) with h | h
        · exact h
        · omega
      subst hn
      exact hk _ _ _ (by simpa using hv) (fun j _ _=>rfl) (fun j h=>.inl h)
    | cons w ws =>
      obtain ⟨v1,v2,v3⟩:=hv
      cases p with
      | none => simp only [] at v3; subst v3; simp only [List.length_cons] at hws; have : n = 0 := by omega
                subst this; simp at hws
      | some a =>
        obtain ⟨b,cs,t',rfl,h8,h9,h10⟩:=v3
        simp only [wrS,ptr_some,add_at]
        have hbd:l * i.size+(w :: ws).length≤cs.size:=by
          rw [hws,h9,← Nat.add_mul]; exact Nat.mul_le_mul_right _ hle
        refine wr_at h8 (by omega) ho ?_
        refine hk _ _ _ ⟨by rw [List.length_append,v1,hws,Nat.add_mul],hle,b,_,t',rfl,Heap.set_self _ _ _,by rw [over_size]; exact h9,fun j hj=>?_⟩ (fun j hj _=>Heap.set_ne _ _ fun e=>hj ⟨_,rfl,e⟩) (fun j h=>.inl h)
        rw [over_get _ _ _ _ (by omega)]
        by_cases hjl:j < l * i.size
        · rw [if_neg (by omega),List.getElem?_append_left (by omega)]; exact h10 j hjl
        · rw [Nat.add_mul] at hj
          rw [if_pos (by omega),List.getElem?_append_right (by omega),v1]; congr 1; omega
  · refine growslice_fits hlt ?_
    have:=Nat.mul_le_mul hcap h7
    omega
  · refine hk _ _ _ ⟨by rw [List.length_append,hv.1,hws,Nat.add_mul],hc',id,_,e,rfl,Heap.set_self _ _ _,?_,fun j hj=>?_⟩ (fun j _ hj=>Heap.set_ne _ _ fun e=>hj (e ▸ hid)) (fun j h=>by obtain ⟨a,ha,rfl⟩:=h; cases ha; exact .inr hid)
    · have hl:∀ (n:Nat) (zs:List Value),(rep n zs).length=n * zs.length:=fun n zs=>by
        induction n with
        | zero=>simp [rep]
        | succ n ih=>simp [rep,ih,Nat.add_mul]; omega
      simp only [List.size_toArray,List.length_append,hl,hv.1,hws,Array.length_toList,h4]
      rw [← Nat.add_mul,← Nat.add_mul]; congr 1; omega
    · rw [List.getElem?_toArray,List.getElem?_append_left]
      simp only [List.length_append,hv.1,hws]; rw [← Nat.add_mul]; exact hj
def slB (P:Program) (t:TypeId) (sz:Nat):Bool:=match P.underlying t with
  | some (.slice e)=>match P.info? e with
    | some i=>match i.zero with
      | some z=>Nat.beq z.cells.size i.size && Nat.beq i.size sz && Nat.blt 0 i.bytes && Nat.ble i.bytes 65536
      | none=>false
    | none=>false
  | _=>false
theorem SlT.of {t:TypeId} {sz:Nat} (h:slB P t sz=true):SlT P t sz:=by
  unfold slB at h
  split at h
  · rename_i e h1
    split at h
    · rename_i i h2
      split at h
      · rename_i z h3
        simp only [Bool.and_eq_true] at h
        exact ⟨e,i,z,h1,h2,h3,Nat.eq_of_beq_eq_true h.1.1.1,Nat.eq_of_beq_eq_true h.1.1.2,Nat.le_of_ble_eq_true h.1.2,Nat.le_of_ble_eq_true h.2⟩
      · cases h
    · cases h
  · cases h
theorem app_one {t:TypeId} {sz:Nat} {p:OA} {l c i m:Nat} {vs ws:List Value} {t':TypeId} {fr:Nat × Nat} {H:Heap} {K:OA→Nat→Nat→Heap→Prop} (ht:SlT P t sz)
    (hv:Vec H sz p l c vs) (hx:H i=some (.cells ws.toArray t' fr)) (hws:ws.length=sz) (ho:ws.all oneC=true) (hcap:l < 1048576) (hsz:0 < sz)
    (hk:∀ p' c' H',Vec H' sz p' (l+1) c' (vs++ws)→(∀ j,¬ blk p j→H j ≠ none→H' j=H j)→(∀ j,blk p' j→blk p j∨H j=none)→K p' (l+1) c' H') :
    app P t p l c (.slice (some ⟨i,0,none⟩) 1 m) H K :=
  app_vec ht hv (fun K hK=>⟨ws,by omega,rd_at hx ws 0 0 fun j hj=>by simp,hK⟩) (by omega) ho hcap hsz hk
theorem Ext.new {H:Heap} {i:Nat} (h:H i=none) (o:Obj):Ext H (H.set i o):=(Ext.refl H).set h o
theorem Vec.ext {H H':Heap} {sz:Nat} {p:OA} {l c:Nat} {vs:List Value} (h:Vec H sz p l c vs) (he:Ext H H'):Vec H' sz p l c vs :=
  h.keep fun i _ hi=>by
    cases hh:H i with
    | none=>exact absurd hh hi
    | some o=>exact he i o hh
theorem nw_ext {o:Obj} {H:Heap} {K:Nat→Heap→Prop} (h:∀ i H',H i=none→Ext H H'→H' i=some o→K i H'):nw o H K :=
  fun i hi=>h i _ hi (Ext.new hi o) (Heap.set_self _ _ _)
theorem sel_mk {b:Bool} {X Y:Prop} (h1:b=true→X) (h2:b=false→Y):sel b X Y:=(sel_iff b X Y).2 ⟨h1,h2⟩
theorem sel_beq {x y:Int} {X Y:Prop} (h1:x=y→X) (h2:x ≠ y→Y):sel (x == y) X Y:=sel_mk (fun h=>h1 (by simpa using h)) (fun h=>h2 (by simpa using h))
theorem sel_bne {x y:Int} {X Y:Prop} (h1:x ≠ y→X) (h2:x=y→Y):sel (x != y) X Y:=sel_mk (fun h=>h1 (by simpa using h)) (fun h=>h2 (by simpa using h))
theorem sel_dec {p:Prop} [Decidable p] {X Y:Prop} (h1:p→X) (h2:¬ p→Y):sel (decide p) X Y:=sel_mk (fun h=>h1 (of_decide_eq_true h)) (fun h=>h2 (of_decide_eq_false h))
theorem sel_tt {X Y:Prop} (h:X):sel true X Y:=h
theorem sel_ff {X Y:Prop} (h:Y):sel false X Y:=h
theorem sel_not {b:Bool} {X Y:Prop} (h1:b=false→X) (h2:b=true→Y):sel (!b) X Y:=sel_mk (fun h=>h1 (by simpa using h)) (fun h=>h2 (by simpa using h))
end Go.V
/- Rows of laws that answer true and change nothing: from a contract to the given form. -/
namespace Go.Proofs.Ytaffcoiomggpfaa.row
open Go.ChangeShapes Go.WideShapes Go.ChangeAt Go.RowKit Go.ChangeMaps
open Go.V
set_option linter.unusedVariables false
theorem run_of {f:FuncId} {args:Array Value} {w:World} (h:∀ (Q:Value→Heap→Prop) (E:Chain→Heap→Prop),(∀ H',Ext (fun i=>w.heap[i]?) H'→Q (.bool true) H')→Does Pr f args (fun i=>w.heap[i]?) Q E) :
    Calls Pr f args w fun e w'=>e=.returned (.bool true)∧Below w.heap.size w w':=by
  have hd:=(h (fun v H'=>v=.bool true∧Ext (fun i=>w.heap[i]?) H') (fun _ _=>False) fun H' he=>⟨rfl,he⟩).2 w (fun i o ho=>ho)
  refine Calls.mono hd fun e w' hr=>?_
  cases e with
  | returned v =>
    obtain ⟨H',hs,hk,rfl,he⟩:=hr
    refine ⟨rfl,hk.os,hk.tape,hk.output,hk.size,fun k hlt=>?_⟩
    have:w.heap[k]?=some w.heap[k]:=Array.getElem?_eq_getElem hlt
    rw [this]; exact hs k _ (he k _ this)
  | panicked ch=>obtain ⟨_,_,_,h⟩:=hr; exact h.elim
  | outgrown=>exact hr.elim
theorem own:ownKnob Try.prog.godebug=none:=by kernel_rfl
theorem laidOut:laidOutB Try.prog=true:=by kernel_rfl
variable {H:Type} {enc:TypeId × Value→H} {P:Program}
theorem stays {W W':World} {sp':Nat→Bool} (hl:laidOutB P=true):∀ {ts:List TypeId} {vs:List Value} {ds:List (DataW H)} {ps:List MemPlace},(∀ t ∈ ts,P.readableRec t=true∧t < P.types.size) →
    DataW.TrodAll enc P W 0 (fun _=>true) true ts vs ds ps→(∀ p ∈ ps,W.sameAt W' p)→(∀ p ∈ ps,sp' p.block=true)→DataW.TrodAll enc P W' 0 sp' true ts vs ds ps
  | [],[],[],_,_,h,_,_=>h
  | t :: ts,v :: vs,d :: ds,_,ht,⟨p,q,h1,h2,e⟩,hs,hp=>by
    subst e
    exact ⟨p,q,WideElems.Trod_stays hl (ht t (by simp)).1 (ht t (by simp)).2 h1 (fun x hx=>hs x (by simp [hx])) (fun x hx=>hp x (by simp [hx])),
      stays hl (fun u hu=>ht u (by simp [hu])) h2 (fun x hx=>hs x (by simp [hx])) (fun x hx=>hp x (by simp [hx])),rfl⟩
theorem post_true {f:Func} {s:ChangeSpec} {W W':World} {args:Array Value} {ds gs:List (DataW H)} {before:List MemPlace} (hl:laidOutB P=true) (hs:s.vars=[])
    (hr:∀ t ∈ f.params.toList,P.readableRec t=true∧t < P.types.size) (hrt:f.resultTypes=#[4]) (h4:P.underlying 4=some .bool)
    (hW:DataW.Whole enc P f.params.toList s.vars false W args.toList ds gs before) (hfn:s.fn H (ds++gs)={ results:=[.lit (.bool true)],args:=ds }) (hB:Below W.heap.size W W') :
    s.post enc P f false true false false W args (.bool true) W':=by
  have hW':=hW
  obtain ⟨p,q,hA,hV,rfl,hfz,hnd⟩:=hW
  rw [hs] at hV
  obtain ⟨rfl,rfl⟩:=trodVars_none hV
  have hlt:∀ x ∈ p,x.block < W.heap.size:=fun x hx=>hW'.lt x (List.mem_append_left _ hx)
  have ha:∀ sp:Nat→Bool,(∀ x ∈ p,sp x.block=true)→DataW.TrodAll enc P W' 0 sp true f.params.toList args.toList (s.fn H (ds++[])).args p:=fun sp hsp=>by
    rw [hfn]; exact stays hl hr hA (fun x hx=>hB.same (hlt x hx)) hsp
  have hv:∀ sp:Nat→Bool,DataW.TrodVars enc P W' sp s.vars (s.fn H (ds++[])).vars []:=fun sp=>by rw [hs,hfn]; rfl
  have hres:∀ (b:Nat) (sp:Nat→Bool) (hd:Bool),DataW.TrodAll enc P W' b sp hd f.resultTypes.toList ((Value.bool true).resultList f.resultTypes.size) (s.fn H (ds++[])).results []:=fun b sp hd=>by
    rw [hrt,hfn]; exact trodAll_cons_mk (shut_bool h4 _) trodAll_mk0
  refine ⟨ds,[],p++[],[],p,[],hW',hres _ _ _,ha _ (fun x hx=>by simpa using hlt x hx),hv _,World.keptBut_mono (fun x hx=>⟨hx,.inr (by simpa using hx)⟩) (hB.frame _),fun _=>?_⟩
  refine ⟨ok_one (by rw [hrt]) rfl (okWide_bool_mk h4 _),_,_,([]++p)++[],⟨[]++p,[],trodAll_append (ha _ (fun _ _=>rfl)) (hres _ _ _),hv _,rfl,?_,?_⟩,?_⟩
  · intro b off hp
    have hx:MemPlace.cell b off ∈ p:=by simpa using hp
    have hb:b < W.heap.size:=hlt _ hx
    have:=hfz b off (by simpa using hx)
    simpa [World.frozen?,hB.block b hb] using this
  · intro ha; cases ha
  · intro x hx _; simpa using hx
end Go.Proofs.Ytaffcoiomggpfaa.row
/- Byte sets: four numbers,as the program has them. -/
namespace Go.V
set_option linter.constructorNameAsVariable false
set_option linter.unusedVariables false
structure S4 where
  a:Int
  b:Int
  c:Int
  d:Int
  deriving DecidableEq,Inhabited
namespace S4
def cells (s:S4):Array Value:=#[.int .u64 s.a,.int .u64 s.b,.int .u64 s.c,.int .u64 s.d]
def zero:S4:=⟨0,0,0,0⟩
def get (s:S4):Nat→Int
  | 0=>s.a
  | 1=>s.b
  | 2=>s.c
  | _=>s.d
def put (s:S4) (k:Nat) (v:Int):S4:=match k with
  | 0=>{ s with a:=v }
  | 1=>{ s with b:=v }
  | 2=>{ s with c:=v }
  | _=>{ s with d:=v }
theorem cells_get (s:S4) {k:Nat} (h:k < 4):s.cells[k]?=some (.int .u64 (s.get k)):=by
  match k,h with
  | 0,_=>rfl
  | 1,_=>rfl
  | 2,_=>rfl
  | 3,_=>rfl
theorem cells_put (s:S4) {k:Nat} (h:k < 4) (v:Int):over s.cells k [.int .u64 v]=(s.put k v).cells:=by
  match k,h with
  | 0,_=>rfl
  | 1,_=>rfl
  | 2,_=>rfl
  | 3,_=>rfl
def or64 (x y:Int):Int:=IntKind.wrap .u64 (BitVec.ofInt (IntKind.bits .u64) x ||| BitVec.ofInt (IntKind.bits .u64) y).toNat
def not64 (x:Int):Int:=IntKind.wrap .u64 (BitVec.ofInt (IntKind.bits .u64) (if IntKind.signed .u64 then -1 else IntKind.max .u64) ^^^ BitVec.ofInt (IntKind.bits .u64) x).toNat
def bit (j:Nat):Int:=IntKind.wrap .u64 (1 * 2 ^ min j (IntKind.bits .u64))
def with1 (s:S4) (x:Nat):S4:=s.put (x / 64) (or64 (s.get (x / 64)) (bit (x % 64)))
def withN (s:S4) (lo:Nat):Nat→S4
  | 0=>s
  | n+1=>(withN s lo n).with1 (lo+n)
def with_ (s:S4) (lo hi:Nat):S4:=withN s lo (hi+1 - lo)
def not (s:S4):S4:=⟨not64 s.a,not64 s.b,not64 s.c,not64 s.d⟩
def or (s t:S4):S4:=⟨or64 s.a t.a,or64 s.b t.b,or64 s.c t.c,or64 s.d t.d⟩
end S4
theorem wrap_nat (n:Nat) (h:n≤9223372036854775807):IntKind.wrap .i64 (n:Int)=(n:Nat):=IntWalk.i64_in _ ⟨by omega,by omega⟩
theorem S4.rd {H:Heap} {i:Nat} {s:S4} {t:TypeId} {fr:Nat × Nat} (h:H i=some (.cells s.cells t fr)):H.rd ⟨i,0,none⟩ 0 [.int .u64 s.a,.int .u64 s.b,.int .u64 s.c,.int .u64 s.d] :=
  rd_at h _ 0 0 fun j hj=>by simp [S4.cells]
def byteAt (s:ByteArray) (i:Nat):Nat:=(s.data.getD i 0).toNat
theorem byteAt_le (s:ByteArray) (i:Nat):byteAt s i≤255:=by have:=(s.data.getD i 0).toNat_lt; unfold byteAt; omega
theorem sAt_nat (s:ByteArray) (i:Nat):sAt s (i:Int)=(byteAt s i:Nat):=rfl
namespace S4
def notN (s:S4):Nat→S4
  | 0=>s
  | n+1=>(notN s n).put n (not64 ((notN s n).get n))
def orN (s t:S4):Nat→S4
  | 0=>s
  | n+1=>(orN s t n).put n (or64 ((orN s t n).get n) (t.get n))
def bytesN (s:ByteArray):Nat→S4
  | 0=>zero
  | n+1=>(bytesN s n).with_ (byteAt s n) (byteAt s n)
end S4
theorem S4.wr {H:Heap} {i:Nat} {s:S4} (t:S4) {ty:TypeId} {K:Heap→Prop} (h:H i=some (.cells s.cells ty (0,0))) (hk:K (H.set i (.cells t.cells ty (0,0)))) :
    wr ⟨i,0,none⟩ [.int .u64 t.a,.int .u64 t.b,.int .u64 t.c,.int .u64 t.d] H K:=wr_at h (by simp [S4.cells]) rfl hk
end Go.V
/- Contracts of package jobmuxmill: the deck of numbers. -/
namespace Go.Proofs.Ytaffcoiomggpfaa
open Go.V
attribute [local irreducible] app
set_option linter.constructorNameAsVariable false
set_option linter.unusedVariables false
theorem cell_ext {H H':Heap} (he:Ext H H') {a:Addr} {v:Value} (h:H.cell? a=some v):H'.cell? a=some v:=by
  unfold Heap.cell? at *
  cases hb:H a.block with
  | none=>rw [hb] at h; cases h
  | some o=>rw [he _ _ hb]; rw [hb] at h; exact h
theorem rd_ext {H H':Heap} (he:Ext H H') {a:Addr}:∀ {vs:List Value} {i:Nat},H.rd a i vs→H'.rd a i vs
  | [],_,_=>trivial
  | v :: vs,i,h=>⟨cell_ext he h.1,rd_ext he h.2⟩
theorem rdS_ext {H H':Heap} (he:Ext H H') {p:OA} {vs:List Value} (h:H.rdS p vs):H'.rdS p vs:=by
  cases p with
  | none=>exact h
  | some a=>exact rd_ext he h
theorem rd_get {H:Heap} {a:Addr}:∀ {vs:List Value} {i j:Nat} {v:Value},H.rd a i vs→vs[j]?=some v→H.cell? (a.add (i+j))=some v
  | [],_,_,_,_,h=>by simp at h
  | v :: vs,i,0,w,h,hv=>by simp at hv; subst hv; exact h.1
  | v :: vs,i,j+1,w,h,hv=>by
    have:=rd_get h.2 (j:=j) (v:=w) (by simpa using hv)
    rw [show i+(j+1)=i+1+j by omega]; exact this
def Ints (H:Heap) (p:OA) (n:Nat) (xs:List Int):Prop:=xs.length=n∧n≤1048576∧H.rdS p (xs.map (Value.int .i64))
theorem Ints.ext {H H':Heap} {p:OA} {n:Nat} {xs:List Int} (h:Ints H p n xs) (he:Ext H H'):Ints H' p n xs:=⟨h.1,h.2.1,rdS_ext he h.2.2⟩
def Deck (H0 H:Heap) (d:Nat) (xs:List Int) (k:Nat):Prop:=Ext H0 H∧H0 d=none∧k≤xs.length∧∃ p n c t,Ints H0 p n xs∧H d=some (.cells #[.slice p n c,.int .i64 (k:Nat)] t (0,0))
theorem Deck.ext {H0 H H':Heap} {d:Nat} {xs:List Int} {k:Nat} (h:Deck H0 H d xs k) (he:Ext H H'):Deck H0 H' d xs k:=by
  obtain ⟨h1,h2,h3,p,n,c,t,h4,h5⟩:=h
  exact ⟨h1.trans he,h2,h3,p,n,c,t,h4,he _ _ h5⟩
def modOf (a b:Int):Int:=if Int.tmod a b < 0 then IntKind.wrap .i64 (Int.tmod a b+b) else Int.tmod a b
theorem Mod_c {H:Heap} {a b:Int} {Q:QT} {E:ET} (hb:b ≠ 0) (hk:Q (.int .i64 (modOf a b)) H):Does Pr 22 #[.int .i64 a,.int .i64 b] H Q E:=by
  refine zqq1_fn _ _ Q E H ?_
  unfold zqq1 zqq1_6 zqq1_3 zqq1_1
  refine ⟨hb,sel_dec (fun h=>?_) (fun h=>?_)⟩
  · unfold modOf at hk; rw [if_pos h] at hk; exact hk
  · unfold modOf at hk; rw [if_neg h] at hk; exact hk
theorem modOf_bounds {a:Int} {n:Nat} (hn:0 < n) (hn2:n≤1048576):0≤modOf a n∧modOf a n < n:=by
  have h1:Int.tmod a n < n:=Int.tmod_lt_of_pos a (by omega)
  have h2:-(n:Int) < Int.tmod a n:=by
    have h:(Int.tmod a n).natAbs < n:=by
      rw [Int.natAbs_tmod]; simpa using Nat.mod_lt _ hn
    omega
  unfold modOf
  split
  · rw [IntWalk.i64_in _ (by omega)]; omega
  · omega
theorem Left_c {H0 H:Heap} {d k:Nat} {xs:List Int} {Q:QT} {E:ET} (h:Deck H0 H d xs k)
    (hk:Q (.bool (decide (k < xs.length))) H):Does Pr 61 #[.pointer (some ⟨d,0,none⟩)] H Q E:=by
  refine zqt1_fn _ Q E H ?_
  obtain ⟨h1,h2,h3,p,n,c,t,h4,h5⟩:=h
  unfold zqt1
  refine ldI_at (n:=(k:Nat)) h5 rfl ?_
  refine ldSl_at (p:=p) (l:=n) (m:=c) h5 rfl ?_
  have e:decide (((k:Nat):Int) < ((n:Nat):Int))=decide (k < xs.length):=by rw [h4.1]; simp
  rw [e]; exact hk
def drawOf (xs:List Int) (k:Nat) (b:Int):Int:=if k < xs.length then modOf (xs.getD k 0) b else 0
theorem Next_c {H0 H:Heap} {d k:Nat} {xs:List Int} {b:Int} {Q:QT} {E:ET} (h:Deck H0 H d xs k) (hb:b ≠ 0)
    (hk:∀ H',Deck H0 H' d xs (min (k+1) xs.length)→(∀ i,i ≠ d→H' i=H i)→Q (.int .i64 (drawOf xs k b)) H'):Does Pr 49 #[.pointer (some ⟨d,0,none⟩),.int .i64 b] H Q E:=by
  refine zqs1_fn _ _ Q E H ?_
  unfold zqs1 zqs1_3
  refine Left_c h ⟨_,rfl,?_⟩
  obtain ⟨h1,h2,h3,p,n,c,t,h4,h5⟩:=id h
  refine sel_not (fun hf=>?_) (fun ht=>?_)
  · have hf:=of_decide_eq_false hf
    have e:drawOf xs k b=0:=if_neg hf
    rw [e] at hk
    have:min (k+1) xs.length=k:=by omega
    rw [this] at hk
    exact hk _ h (fun _ _=>rfl)
  · have ht:=of_decide_eq_true ht
    obtain ⟨g1,g2,g3⟩:=id h4
    unfold zqs1_1
    simp only [ptr_some,add_at,Nat.zero_add]
    refine ldI_at (n:=(k:Nat)) h5 rfl ?_
    have hw:IntKind.wrap .i64 (((k:Nat):Int)+1)=((k+1:Nat):Int):=by rw [IntWalk.i64_in _ (by omega)]; omega
    rw [hw]
    refine wr_at h5 (by simp) rfl ?_
    have h6:(H.set d (.cells #[.slice p n c,.int .i64 ((k+1:Nat):Int)] t (0,0))) d=some (.cells #[.slice p n c,.int .i64 ((k+1:Nat):Int)] t (0,0)):=Heap.set_self _ _ _
    have h7:Ext H0 (H.set d (.cells #[.slice p n c,.int .i64 ((k+1:Nat):Int)] t (0,0))):=h1.set h2 _
    have ho:over #[Value.slice p n c,Value.int .i64 ((k:Nat):Int)] 1 [Value.int .i64 ((k+1:Nat):Int)]=#[Value.slice p n c,Value.int .i64 ((k+1:Nat):Int)]:=rfl
    rw [ho]
    have h8:∀ i,i ≠ d→(H.set d (.cells #[.slice p n c,.int .i64 ((k+1:Nat):Int)] t (0,0))) i=H i:=fun i hi=>Heap.set_ne _ _ hi
    revert h6 h7 h8
    generalize H.set d (.cells #[.slice p n c,.int .i64 ((k+1:Nat):Int)] t (0,0))=H1
    intro h6 h7 h8
    refine ldSl_at (p:=p) (l:=n) (m:=c) h6 rfl ?_
    refine ldI_at (n:=((k+1:Nat):Int)) h6 rfl ?_
    have hw2:IntKind.wrap .i64 (((k+1:Nat):Int) - 1)=(k:Nat):=by rw [IntWalk.i64_in _ (by omega)]; omega
    rw [hw2]
    refine ⟨⟨by omega,by omega⟩,?_⟩
    cases p with
    | none =>
      have:xs.map (Value.int .i64)=[]:=g3
      simp at this; subst this; simp at ht
    | some a =>
      simp only [ptr_some,Int.toNat_natCast,Nat.mul_one]
      have hc:H1.cell? (a.add (0+k))=some (.int .i64 (xs.getD k 0)):=cell_ext h7 (rd_get g3 (by simp [List.getD_eq_getElem?_getD,ht]))
      rw [Nat.zero_add] at hc
      refine ⟨xs.getD k 0,hc,Mod_c hb ⟨_,rfl,?_⟩⟩
      have e:drawOf xs k b=modOf (xs.getD k 0) b:=if_pos ht
      rw [e] at hk
      have:min (k+1) xs.length=k+1:=by omega
      rw [this] at hk
      exact hk _ ⟨h7,h2,by omega,some a,n,c,t,h4,h6⟩ h8
theorem New_c {H:Heap} {p:OA} {n c:Nat} {xs:List Int} {Q:QT} {E:ET} (h:Ints H p n xs)
    (hk:∀ d H',Deck H H' d xs 0→Q (.pointer (some ⟨d,0,none⟩)) H'):Does Pr 47 #[.slice p n c] H Q E:=by
  refine zqr1_fn _ _ _ Q E H ?_
  unfold zqr1
  intro d hd
  exact hk d _ ⟨Ext.new hd _,hd,Nat.zero_le _,p,n,c,123,h,Heap.set_self _ _ _⟩
end Go.Proofs.Ytaffcoiomggpfaa
/- Opening arguments: what the form reads of them,over a heap view. -/
namespace Go.Proofs.Ytaffcoiomggpfaa.row
open Go.ChangeShapes Go.WideShapes Go.ChangeAt Go.RowKit Go.ChangeMaps
open Go.V
set_option linter.unusedVariables false
variable {H:Type} {enc:TypeId × Value→H} {P:Program}
theorem one_le {H:Type} (d:DataW H):1≤Rows.uptoBulk d:=by
  cases d with
  | lit l=>cases l <;> simp [Rows.uptoBulk]
  | nil=>simp [Rows.uptoBulk]
  | ptr d=>simp [Rows.uptoBulk]
  | slice elems spare=>simp [Rows.uptoBulk]
  | agg parts=>simp [Rows.uptoBulk]
  | iface t d=>simp [Rows.uptoBulk]
  | map entries=>simp [Rows.uptoBulk]
  | held h=>simp [Rows.uptoBulk]
theorem part_le {H:Type} {d:DataW H} {l:List (DataW H)} (h:d ∈ l):Rows.uptoBulk d≤Rows.uptoBulkAll l:=by
  induction l with
  | nil=>cases h
  | cons x r ih =>
    simp only [Rows.uptoBulkAll]
    cases List.mem_cons.1 h with
    | inl e=>subst e; omega
    | inr e=>have:=ih e; omega
theorem length_le {H:Type} (l:List (DataW H)):l.length≤Rows.uptoBulkAll l:=by
  induction l with
  | nil=>simp [Rows.uptoBulkAll]
  | cons x r ih=>have:=one_le x; simp only [Rows.uptoBulkAll,List.length_cons]; omega
theorem slice_le {H:Type} (elems spare:List (DataW H)):elems.length+spare.length+1≤Rows.uptoBulk (.slice elems spare):=by
  have h1:=length_le elems
  have h2:=length_le spare
  simp only [Rows.uptoBulk]
  omega
theorem bound {H:Type} {l:List (DataW H)} (hk:Rows.uptoSmall H l=true):Rows.uptoBulkAll l≤1048576:=of_decide_eq_true hk
theorem cell_view {w:World} {b o:Nat} {v:Value} (h:w.cell? ⟨b,o,none⟩=some v):Heap.cell? (fun i=>w.heap[i]?) ⟨b,o,none⟩=some v:=by
  unfold World.cell? at h
  unfold Heap.cell?
  dsimp only at h ⊢
  revert h
  generalize w.heap[b]?=y
  cases y with
  | none=>simp
  | some x=>cases x <;> simp
theorem rd_of {H:Heap} {b:Nat}:∀ (vs:List Value) (o i:Nat),(∀ j,j < vs.length→∃ v,vs[j]?=some v∧H.cell? ⟨b,o+i+j,none⟩=some v)→H.rd ⟨b,o,none⟩ i vs
  | [],_,_,_=>trivial
  | v :: vs,o,i,hv=>⟨by
      rw [add_at]
      obtain ⟨v',h1,h2⟩:=hv 0 (by simp)
      simp at h1; subst h1; exact h2,rd_of vs o (i+1) fun j hj=>by
      obtain ⟨v',h1,h2⟩:=hv (j+1) (by simp; omega)
      exact ⟨v',by simpa using h1,by rw [← h2]; congr 2; omega⟩⟩
theorem ints_open {k:IntKind} {e t:TypeId} {W:World} {v:Value} {d:DataW H} {p:List MemPlace} {ds:List (DataW H)} (ht:P.underlying t=some (.slice e)) (he:P.underlying e=some (.int k)) (hc:P.cellsOf e=1)
    {base:Nat} (hok:Value.okWide P W .any base t v) (h:DataW.Trod enc P W 0 (fun _=>true) true t v d p) (hk:Rows.uptoSmall H ds=true) (hd:d ∈ ds) :
    ∃ q n c,v=.slice q n c∧n≤c∧c≤1048576∧∃ xs:List Int,xs.length=n∧Heap.rdS (fun i=>W.heap[i]?) q (xs.map (Value.int k))∧∀ x ∈ xs,(Lit.int k x).wf=true:=by
  obtain ⟨fuel,h⟩:=h
  obtain ⟨a0,l0,c0,rfl⟩:=okWide_slice ht hok
  have hb:=Nat.le_trans (part_le hd) (bound hk)
  rcases open_ints ht he hc h with ⟨h1,h2⟩ | ⟨a,len,cap,zs,h1,h2,h3,h4,h5,h6,h7,h8⟩
  · simp [Value.cells] at h1
    obtain ⟨rfl,rfl,rfl⟩:=h1
    exact ⟨none,0,0,rfl,by omega,by omega,[],rfl,rfl,by simp⟩
  · simp [Value.cells] at h1
    obtain ⟨ha,hb1,hc1⟩:=h1
    subst hb1 hc1 ha
    simp at h5
    have hd':d=.slice (lits k (zs.take l0)) (lits k (zs.drop l0)):=congrArg (·.1) h6
    rw [hd'] at hb
    have:=slice_le (H:=H) (lits k (zs.take l0)) (lits k (zs.drop l0))
    have hl1:∀ l:List Int,(lits (H:=H) k l).length=l.length:=fun l=>by simp [lits]
    rw [hl1,hl1,List.length_take,List.length_drop] at this
    refine ⟨some a,_,_,rfl,h3,by omega,zs.take l0,by simp; omega,?_,fun x hx=>h8 x (List.mem_of_mem_take hx)⟩
    by_cases hl:zs.length=0
    · have:zs=[]:=List.eq_nil_of_length_eq_zero hl
      subst this
      simp only [List.take_nil,List.map_nil]
      trivial
    · obtain ⟨b,off,rfl,hcell⟩:=ints_at h7 (by omega)
      refine rd_of _ off 0 fun j hj=>?_
      simp at hj
      have hj1:j < l0:=by omega
      have hj2:j < zs.length:=by omega
      refine ⟨.int k (zs.getD j 0),by simp [hj1,List.getD_eq_getElem?_getD,List.getElem?_eq_getElem hj2],?_⟩
      rw [Nat.add_zero]
      exact cell_view (hcell j hj2)
theorem Ints_open {t e:TypeId} {W:World} {v:Value} {d:DataW H} {p:List MemPlace} {ds:List (DataW H)} (ht:P.underlying t=some (.slice e)) (he:P.underlying e=some (.int .i64)) (hc:P.cellsOf e=1)
    {base:Nat} (hok:Value.okWide P W .any base t v) (h:DataW.Trod enc P W 0 (fun _=>true) true t v d p) (hk:Rows.uptoSmall H ds=true) (hd:d ∈ ds) :
    ∃ q n c xs,v=.slice q n c∧Ints (fun i=>W.heap[i]?) q n xs:=by
  obtain ⟨q,n,c,h1,h2,h3,xs,h4,h5,_⟩:=ints_open (k:=.i64) ht he hc hok h hk hd
  exact ⟨q,n,c,xs,h1,h4,by omega,h5⟩
end Go.Proofs.Ytaffcoiomggpfaa.row
/- Bytes that are only read. -/
namespace Go.Proofs.Ytaffcoiomggpfaa
open Go.V
attribute [local irreducible] app
set_option linter.constructorNameAsVariable false
set_option linter.unusedVariables false
def Byt (H:Heap) (p:OA) (n c:Nat) (bs:List UInt8):Prop:=bs.length=n∧n≤c∧H.rdS p (bs.map byteV)
theorem Byt.ext {H H':Heap} {p:OA} {n c:Nat} {bs:List UInt8} (h:Byt H p n c bs) (he:Ext H H'):Byt H' p n c bs:=⟨h.1,h.2.1,rdS_ext he h.2.2⟩
theorem add_add (a:Addr) (i j:Nat):(a.add i).add j=a.add (i+j):=by
  unfold Addr.add
  by_cases hi:i=0
  · subst hi; simp
  · by_cases hj:j=0
    · subst hj; simp [hi]
    · simp [hi,hj,Nat.add_assoc]
theorem rd_from {H:Heap} {a:Addr} (k:Nat):∀ (vs:List Value) (i:Nat),H.rd a (k+i) vs→H.rd (a.add k) i vs
  | [],_,_=>trivial
  | v :: vs,i,h=>⟨by rw [add_add]; exact h.1,rd_from k vs (i+1) (by have:=h.2; rw [Nat.add_assoc] at this; exact this)⟩
theorem rd_skip {H:Heap} {a:Addr}:∀ (k:Nat) (vs:List Value) (i:Nat),H.rd a i vs→H.rd a (i+k) (vs.drop k)
  | 0,vs,i,h=>by simpa using h
  | k+1,[],i,h=>by simp; trivial
  | k+1,v :: vs,i,h=>by
    have:=rd_skip k vs (i+1) h.2
    rw [List.drop_succ_cons,show i+(k+1)=i+1+k by omega]; exact this
theorem Byt.from {H:Heap} {p:OA} {n c:Nat} {bs:List UInt8} (h:Byt H p n c bs) (k:Nat) (hk:k≤n) :
    Byt H (if c=k then p else Option.map (fun a=>Addr.add a (k * 1)) p) (n - k) (c - k) (bs.drop k):=by
  obtain ⟨h1,h2,h3⟩:=h
  refine ⟨by rw [List.length_drop,h1],by omega,?_⟩
  split
  · have:bs.drop k=[]:=List.drop_eq_nil_of_le (by omega)
    rw [this]
    cases p with
    | none=>rfl
    | some a=>trivial
  · cases p with
    | none =>
      have:bs.map byteV=[]:=h3
      simp at this; subst this
      simp; rfl
    | some a =>
      have h3:H.rd a 0 (bs.map byteV):=h3
      have:=rd_skip k _ 0 h3
      rw [Nat.zero_add,← List.map_drop] at this
      simp only [Option.map_some,Nat.mul_one]
      exact rd_from k _ 0 (by simpa using this)
def beside (H0 H H':Heap):Heap:=fun j=>match H0 j,H j with
  | none,some _=>none
  | _,_=>H' j
theorem beside_some {H0 H H':Heap} {j:Nat} (h:H0 j ≠ none):beside H0 H H' j=H' j:=by
  unfold beside
  cases h0:H0 j with
  | none=>exact absurd h0 h
  | some o=>rfl
theorem beside_free {H0 H H':Heap} {j:Nat} (h:H j=none):beside H0 H H' j=H' j:=by
  unfold beside
  cases h0:H0 j <;> simp [h]
theorem beside_priv {H0 H H':Heap} {j:Nat} (h0:H0 j=none) (h:H j ≠ none):beside H0 H H' j=none:=by
  unfold beside
  cases hh:H j with
  | none=>exact absurd hh h
  | some o=>simp [h0]
theorem beside_ext (H0 H H':Heap):Ext (beside H0 H H') H':=fun j o hj=>by
  unfold beside at hj
  cases h0:H0 j with
  | none =>
    cases h:H j with
    | none=>simp [h0,h] at hj; exact hj
    | some x=>simp [h0,h] at hj
  | some x=>simp [h0] at hj; exact hj
end Go.Proofs.Ytaffcoiomggpfaa
/- Opening arguments: bytes. -/
namespace Go.Proofs.Ytaffcoiomggpfaa.row
open Go.ChangeShapes Go.WideShapes Go.ChangeAt Go.RowKit Go.ChangeMaps
open Go.V
set_option linter.unusedVariables false
variable {H:Type} {enc:TypeId × Value→H} {P:Program}
theorem byte_back {x:Int} (h:(Lit.int .u8 x).wf=true):byteV (UInt8.ofNat x.toNat)=Value.int .u8 x:=by
  have hb:0≤x∧x≤255:=by
    simp only [Lit.wf,Bool.and_eq_true,decide_eq_true_eq] at h
    simpa [IntKind.min,IntKind.max,IntKind.signed,IntKind.bits] using h
  unfold byteV
  congr 1
  rw [UInt8.toNat_ofNat']
  omega
end Go.Proofs.Ytaffcoiomggpfaa.row
/- Nodes of a pattern,small words. -/
namespace Go.Proofs.Ytaffcoiomggpfaa
open Go.V
attribute [local irreducible] app
set_option linter.constructorNameAsVariable false
set_option linter.unusedVariables false
theorem sl23:SlT Pr 23 7:=.of (by kernel_rfl)
structure Nd where
  k:Int
  l:Int
  r:Int
  a:Int
  b:Int
  c:Int
  d:Int
  deriving DecidableEq,Inhabited
def Nd.cells (x:Nd):List Value:=[.int .i64 x.k,.int .i64 x.l,.int .i64 x.r,.int .u64 x.a,.int .u64 x.b,.int .u64 x.c,.int .u64 x.d]
def flat (l:List Nd):List Value:=l.flatMap Nd.cells
theorem flat_length (l:List Nd):(flat l).length=l.length * 7:=by
  induction l with
  | nil=>rfl
  | cons x l ih=>simp [flat,Nd.cells] at ih ⊢; omega
def atOf (b:Nat) (H:Heap):Nat:=match H b with
  | some (Obj.cells c _ _)=>match c[1]? with
    | some (Value.int _ n)=>n.toNat
    | _=>0
  | _=>0
def cs (s:S4):Obj:=.cells s.cells 46 (0,0)
def signOf (c:Nat):Nat:=if c=42 then 5 else if c=43 then 6 else if c=63 then 7 else 0
theorem getD_app_left (a b:List Int) (i:Nat) (h:i < a.length):(a++b).getD i 0=a.getD i 0:=by
  rw [List.getD_eq_getElem?_getD,List.getD_eq_getElem?_getD,List.getElem?_append_left h]
theorem getD_app_right (a b:List Int) (i:Nat) (h:a.length≤i):(a++b).getD i 0=b.getD (i - a.length) 0:=by
  rw [List.getD_eq_getElem?_getD,List.getD_eq_getElem?_getD,List.getElem?_append_right h]
def kids2 (k:Int):Int:=if k=3∨k=4 then 2 else if k=5∨k=6∨k=7 then 1 else 0
theorem sl24:SlT Pr 24 1:=.of (by kernel_rfl)
theorem wr_new {H:Heap} {b o:Nat} {c c':Array Value} {t:TypeId} {vs:List Value} {K:Heap→Prop} (h:H b=some (.cells c t (0,0))) (hs:o+vs.length≤c.size) (ho:vs.all oneC=true) (hc:over c o vs=c')
    (hk:∀ H',H' b=some (.cells c' t (0,0))→(∀ j,j ≠ b→H' j=H j)→K H'):wr ⟨b,o,none⟩ vs H K :=
  wr_at h hs ho (hk _ (by rw [Heap.set_self,hc]) fun j hj=>Heap.set_ne _ _ hj)
theorem ext_but {A B C:Heap} {m:Nat} (he:Ext A B) (hm:A m=none) (hb:∀ j,j ≠ m→C j=B j):Ext A C:=fun j o hj=>by
  rw [hb j (fun e=>by rw [e,hm] at hj; cases hj)]; exact he j o hj
theorem flat_snoc (l:List Nd) (x:Nd):flat l++x.cells=flat (l++[x]):=by simp [flat]
theorem u8_nat (n:Nat) (h:n≤255):IntKind.wrap .u8 (n:Int)=(n:Nat):=IntWalk.u8_in _ ⟨by omega,by omega⟩
def _root_.Go.V.S4.has (s:S4) (b:Nat):Bool :=
  (IntKind.wrap .u64 (BitVec.ofInt (IntKind.bits .u64) (Int.fdiv (s.get (b / 64)) (2 ^ min (b % 64) (IntKind.bits .u64))) &&& BitVec.ofInt (IntKind.bits .u64) 1).toNat:Int) == 1
end Go.Proofs.Ytaffcoiomggpfaa
