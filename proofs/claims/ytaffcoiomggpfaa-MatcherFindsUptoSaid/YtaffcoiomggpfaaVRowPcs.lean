import Derived.Test.YtaffcoiomggpfaaVMean
import Derived.Test.YtaffcoiomggpfaaVR11
import Derived.Test.YtaffcoiomggpfaaVNode
import Derived.Deep.Slices
/- The statement MatcherFinds: its contract. -/
namespace Go.Proofs.Ytaffcoiomggpfaa
open Go.V
attribute [local irreducible] app
set_option linter.constructorNameAsVariable false
set_option linter.unusedVariables false
theorem take_flat {L:List (List UInt8)} {k:Nat} {b:List UInt8} (h:L[k]?=some b):(L.take (k+1)).flatten=(L.take k).flatten++b:=by
  rw [List.take_add_one,h,List.flatten_append]
  simp only [Option.toList_some,List.flatten_cons,List.flatten_nil,List.append_nil]
theorem flatten_mul {m:Nat}:∀ (L:List (List UInt8)),(∀ b ∈ L,b.length≤m)→L.flatten.length≤m * L.length
  | [],_=>by simp
  | b :: L,h=>by
    have h1:=h b (by simp)
    have h2:=flatten_mul L fun x hx=>h x (by simp [hx])
    simp only [List.flatten_cons,List.length_append,List.length_cons,Nat.mul_add,Nat.mul_one]
    omega
theorem Pcs.get {H:Heap} {p:OA} {n c k:Nat} {L:List (List UInt8)} {b:List UInt8} {K:OA→Nat→Nat→Prop} (h:Pcs H p n c L) (hb:L[k]?=some b) (hK:∀ q cc,Byt H q b.length cc b→K q b.length cc) :
    ptr p fun a=>ldSl (Addr.add a (k * 1)) H K:=by
  obtain ⟨l1,l2,vs,l3,l4,l5⟩:=h
  obtain ⟨q,m,cc,e1,e2⟩:=l5 k b hb
  cases p with
  | none =>
    have:vs=[]:=l4
    subst this; simp at e1
  | some ad =>
    have hcell:H.cell? (ad.add (0+k))=some (.slice q m cc):=rd_get l4 e1
    rw [Nat.zero_add] at hcell
    simp only [ptr_some,Nat.mul_one]
    have hm:=e2.1
    subst hm
    exact ⟨q,_,cc,hcell,hK q cc e2⟩
set_option maxHeartbeats 2000000 in
theorem MatcherFinds_c {H:Heap} {p q:OA} {n c m cc:Nat} {xs:List Int} {pk:Int} {raw:ByteArray} {CH:List (List UInt8)} {Q:QT} {E:ET} (h:Ints H p n xs) (hC:Pcs H q m cc CH) (hcl:∀ b ∈ CH,b.length≤1048576)
    (hk:∀ H',Ext H H'→Q (.bool true) H'):Does Pr 14 #[.slice p n c,.int .i64 pk,.string raw,.slice q m cc] H Q E:=by
  refine zqt2_fn _ _ _ _ _ _ _ _ Q E H ?_
  unfold zqt2 zqt2_83
  refine sane11_c fun H1 he1=>⟨_,rfl,sel_ff ?_⟩
  unfold zqt2_79
  have hm:=hC.1
  refine sel_dec (fun _=>by unfold zqt2_77; exact sel_tt (hk H1 he1)) (fun hsz=>?_)
  unfold zqt2_77
  refine sel_dec (fun _=>hk H1 he1) (fun h5=>?_)
  unfold zqt2_74 zqt2_70 zqt2_67
  refine ⟨fun x9 x35 H'=>∃ k:Nat,x35=(k:Nat)∧k≤m∧H'=H1∧x9=(((CH.take k).flatten.length:Nat):Int),fun _ x35 _=>(m - x35).toNat,⟨0,rfl,by omega,rfl,by simp⟩,?_⟩
  rintro x9 x35 H2 ⟨k,rfl,hkm,rfl,rfl⟩
  have hC1:=hC.ext he1
  unfold zqt2_64 zqt2_61
  refine sel_dec (fun hlt=>?_) (fun hge=>?_)
  · have hlt:k < CH.length:=by omega
    have hbk:CH[k]?=some CH[k]:=List.getElem?_eq_getElem hlt
    have hbl:=hcl _ (List.getElem_mem hlt)
    have hle:=flatten_mul (CH.take k) fun x hx=>hcl x (List.mem_of_mem_take hx)
    rw [List.length_take,Nat.min_eq_left (by omega)] at hle
    have hk4:k≤4:=by omega
    generalize CH[k]=b at hbk hbl
    unfold zqt2_59
    simp only [Int.toNat_natCast]
    refine ⟨⟨by omega,by omega⟩,hC1.get hbk fun q2 c2 _=>?_⟩
    have hw:IntKind.wrap .i64 ((((CH.take k).flatten.length:Nat):Int)+((b.length:Nat):Int))=(((CH.take k).flatten.length+b.length:Nat):Int):=by
      have:1048576 * k≤1048576 * 4:=Nat.mul_le_mul_left _ hk4
      rw [IntWalk.i64_in _ (by omega)]; omega
    rw [hw,wrap_succ (by omega)]
    exact ⟨⟨k+1,rfl,by omega,trivial,by rw [take_flat hbk,List.length_append]⟩,by omega⟩
  · have hkl:k=CH.length:=by omega
    rw [hkl,List.take_length]
    clear hge hkm hkl
    clear k
    unfold zqt2_56
    refine sel_dec (fun _=>hk H2 he1) (fun h16=>?_)
    have hCs:CH.flatten.length≤16:=by omega
    unfold zqt2_53
    refine pieces_c (h.ext he1) fun H3 p3 n3 c3 L he3 hL hn3 hb8=>⟨_,_,_,rfl,?_⟩
    have hC3:=hC1.ext he3
    have hLn:=hL.1
    have hLs:L.flatten.length≤40:=by have:=flatten_le L hb8; omega
    have he13:=he1.trans he3
    clear hb8 hcl
    unfold zqt2_49
    refine Patterns_c fun H4 i he4 hi hc4=>⟨_,_,_,rfl,?_⟩
    refine Mod_c (by decide) ⟨_,rfl,?_⟩
    have hmb:=modOf_bounds (a:=pk) (n:=7) (by omega) (by omega)
    have e7:(7:Int)=((7:Nat):Int):=rfl
    rw [e7]
    generalize modOf pk ((7:Nat):Int)=r at hmb
    simp only [ptr_some,add_at]
    refine ⟨⟨by omega,by omega⟩,ldS_at hc4 (pats_get (n:=0+r.toNat * 1) (by omega)) ?_⟩
    generalize pats.getD (0+r.toNat * 1) default=s
    refine nw_ext fun j H5 hj he5 hc5=>?_
    have he35:=he4.trans he5
    unfold zqt2_46
    refine ⟨fun x H'=>∃ k:Nat,x=(k:Nat)∧k≤2∧Ext H5 H',fun x _=>(2 - x).toNat,⟨0,rfl,by omega,Ext.refl _⟩,?_⟩
    rintro x H6 ⟨k,rfl,hk2,he6⟩
    unfold zqt2_43 zqt2_40
    refine sel_dec (fun hlt=>?_) (fun hge=>?_)
    · unfold zqt2_35
      simp only [ptr_some,add_at,Int.toNat_natCast]
      obtain ⟨w,hw⟩:∃ w:ByteArray,(#[(.string s),(.string raw)]:Array Value)[0+k * 1]?=some (.string w):=by
        match k,hlt with
        | 0,_=>exact ⟨_,rfl⟩
        | 1,_=>exact ⟨_,rfl⟩
      refine ⟨⟨by omega,by omega⟩,ldS_at (he6 _ _ hc5) hw ?_⟩
      unfold zqt2_32
      refine nw_ext fun j2 H7 hj2 he7 hc7=>?_
      unfold zqt2_29
      refine ⟨fun x H'=>∃ k:Nat,x=(k:Nat)∧k≤2∧Ext H7 H',fun x _=>(2 - x).toNat,⟨0,rfl,by omega,Ext.refl _⟩,?_⟩
      rintro x H8 ⟨k2,rfl,hk22,he8⟩
      have he38:Ext H3 H8:=((he35.trans he6).trans he7).trans he8
      unfold zqt2_26 zqt2_23
      refine sel_dec (fun hlt2=>?_) (fun hge2=>?_)
      · unfold zqt2_18
        simp only [ptr_some,add_at,Int.toNat_natCast]
        obtain ⟨pz,nz,cz,Z,hz,hz1,hz2,hz3⟩:∃ (pz:OA) (nz cz:Nat) (Z:List (List UInt8)),(#[(.slice p3 n3 c3),(.slice q m cc)]:Array Value)[0+k2 * 1]?=some (.slice pz nz cz)∧Pcs H8 pz nz cz Z∧nz≤1048576∧Z.flatten.length≤40:=by
          match k2,hlt2 with
          | 0,_=>exact ⟨_,_,_,_,rfl,hL.ext he38,by omega,hLs⟩
          | 1,_=>exact ⟨_,_,_,_,rfl,hC3.ext he38,by omega,by omega⟩
        refine ⟨⟨by omega,by omega⟩,pz,nz,cz,?_,?_⟩
        · exact cell_at (he8 _ _ hc7) hz
        unfold zqt2_15
        refine Play_c hz1 hz2 (by rw [sum_flatten]; omega) fun H9 he9=>⟨_,_,_,rfl,?_⟩
        unfold zqt2_12
        refine rPlay_c (hz1.ext he9) hz2 (by omega) fun HA heA=>⟨_,_,_,rfl,?_⟩
        unfold zqt2_9
        refine sel_bne (fun h=>absurd rfl h) (fun _=>sel_bne (fun h=>absurd rfl h) (fun _=>?_))
        unfold zqt2_7
        refine sel_bne (fun h=>absurd rfl h) (fun _=>?_)
        unfold zqt2_5
        rw [wrap_succ (by omega)]
        exact ⟨⟨k2+1,rfl,by omega,(he8.trans he9).trans heA⟩,by omega⟩
      · unfold zqt2_3
        rw [wrap_succ (by omega)]
        exact ⟨⟨k+1,rfl,by omega,(he6.trans he7).trans he8⟩,by omega⟩
    · unfold zqt2_1
      exact hk H6 ((he13.trans he35).trans he6)
end Go.Proofs.Ytaffcoiomggpfaa
/- Opening arguments: pieces of bytes. -/
namespace Go.Proofs.Ytaffcoiomggpfaa.row
open Go.ChangeShapes Go.WideShapes Go.ChangeAt Go.RowKit Go.ChangeMaps
open Go.V
set_option linter.unusedVariables false
variable {H:Type} {enc:TypeId × Value→H} {P:Program}
theorem cell_view_w {w:World} {a:Addr} {v:Value} (h:w.cell? a=some v):Heap.cell? (fun i=>w.heap[i]?) a=some v:=by
  obtain ⟨b,o,s⟩:=a
  cases s with
  | none=>exact cell_view h
  | some s =>
    unfold World.cell? at h
    split at h
    · simp at h
    · cases h
theorem bulk_elem {elems spare:List (DataW H)} {d:DataW H} (h:d ∈ elems):Rows.uptoBulk d+1≤Rows.uptoBulk (.slice elems spare):=by
  have:=part_le h
  simp only [Rows.uptoBulk]
  omega
theorem Pcs_open {t e u:TypeId} {W:World} {v:Value} {d:DataW H} {p:List MemPlace} {ds:List (DataW H)} (ht:P.underlying t=some (.slice e)) (he:P.underlying e=some (.slice u)) (hu:P.underlying u=some (.int .u8)) (hce:P.cellsOf e=1) (hcu:P.cellsOf u=1)
    {base:Nat} (hok:Value.okWide P W .any base t v) (h:DataW.Trod enc P W 0 (fun _=>true) true t v d p) (hk:Rows.uptoSmall H ds=true) (hd:d ∈ ds) :
    ∃ (q:OA) (n c:Nat) (L:List (List UInt8)),v=.slice q n c∧n≤1048576∧Pcs (fun i=>W.heap[i]?) q n c L∧∀ b ∈ L,b.length≤1048576:=by
  obtain ⟨fuel,h⟩:=h
  obtain ⟨a0,l0,c0,rfl⟩:=okWide_slice ht hok
  have hb:=Nat.le_trans (part_le hd) (bound hk)
  rcases Go.Deep.open_slice1 ht hce h with ⟨h1,h2⟩ | ⟨a,len,cap,m,n,V,D,Pl,h1,h2,h3,h4,h5,h6,h7⟩
  · simp [Value.cells] at h1
    obtain ⟨rfl,rfl,rfl⟩:=h1
    exact ⟨none,0,0,[],rfl,by omega,⟨rfl,Nat.le_refl _,[],rfl,rfl,by simp⟩,by simp⟩
  · simp [Value.cells] at h1
    obtain ⟨ha0,hb1,hc1⟩:=h1
    subst hb1 hc1 ha0
    have hm:l0≤m:=by split at h5 <;> omega
    have hd':d=.slice ((List.range l0).map D) ((List.range (m - l0)).map fun j=>D (l0+j)):=congrArg (·.1) h6
    rw [hd'] at hb
    have hlen:=slice_le (H:=H) ((List.range l0).map D) ((List.range (m - l0)).map fun j=>D (l0+j))
    rw [List.length_map,List.length_map,List.length_range,List.length_range] at hlen
    have each:∀ i,i < l0→∃ bs:List UInt8,bs.length≤1048576∧∃ q n c,V i=.slice q n c∧Byt (fun i=>W.heap[i]?) q n c bs:=by
      intro i hi
      obtain ⟨g1,g2⟩:=h7 i (by omega)
      have hbi:Rows.uptoBulk (D i)≤1048576:=by
        have:=bulk_elem (spare:=(List.range (m - l0)).map fun j=>D (l0+j)) (List.mem_map.2 ⟨i,List.mem_range.2 hi,rfl⟩:D i ∈ (List.range l0).map D)
        omega
      rcases open_ints he hu hcu g2 with ⟨h1,h2⟩ | ⟨a,len,cap,zs,k1,k2,k3,k4,k5,k6,k7,k8⟩
      · simp at h1
        rw [h1]
        exact ⟨[],by simp,none,0,0,rfl,rfl,Nat.le_refl _,rfl⟩
      · simp at k1
        simp at k5
        have hd2:D i=.slice (lits .u8 (zs.take len)) (lits .u8 (zs.drop len)):=congrArg (·.1) k6
        rw [hd2] at hbi
        have:=slice_le (H:=H) (lits .u8 (zs.take len)) (lits .u8 (zs.drop len))
        have hl1:∀ l:List Int,(lits (H:=H) .u8 l).length=l.length:=fun l=>by simp [lits]
        rw [hl1,hl1,List.length_take,List.length_drop] at this
        refine ⟨(zs.take len).map fun x=>UInt8.ofNat x.toNat,by rw [List.length_map,List.length_take]; omega,some a,len,cap,k1,by simp; omega,k3,?_⟩
        have e1:((zs.take len).map fun x=>UInt8.ofNat x.toNat).map byteV=(zs.take len).map (Value.int .u8):=by
          rw [List.map_map]
          exact List.map_congr_left fun x hx=>byte_back (k8 x (List.mem_of_mem_take hx))
        rw [e1]
        by_cases hl:zs.length=0
        · have:zs=[]:=List.eq_nil_of_length_eq_zero hl
          subst this
          simp only [List.take_nil,List.map_nil]
          trivial
        · obtain ⟨b,off,rfl,hcell⟩:=ints_at k7 (by omega)
          refine rd_of _ off 0 fun j hj=>?_
          simp at hj
          have hj1:j < len:=by omega
          have hj2:j < zs.length:=by omega
          refine ⟨.int .u8 (zs.getD j 0),by simp [hj1,List.getD_eq_getElem?_getD,List.getElem?_eq_getElem hj2],?_⟩
          rw [Nat.add_zero]
          exact cell_view (hcell j hj2)
    obtain ⟨B,hB⟩:=Go.Deep.choose_lt each
    refine ⟨some a,l0,c0,(List.range l0).map B,rfl,by omega,⟨by simp,h3,(List.range l0).map V,by simp,?_,fun i bs hi=>?_⟩,fun b hb=>?_⟩
    · have tk:∀ (k:Nat) (vs:List Value) (i:Nat),(∀ j,j < vs.length→∃ x,vs[j]?=some x∧Heap.cell? (fun i=>W.heap[i]?) (a.add (i+j))=some x)→Heap.rd (fun i=>W.heap[i]?) a i vs:=fun _ vs=>by
        induction vs with
        | nil=>intro i _; trivial
        | cons v vs ih =>
          intro i h
          obtain ⟨x,e1,e2⟩:=h 0 (by simp)
          simp at e1; subst e1
          refine ⟨e2,ih (i+1) fun j hj=>?_⟩
          obtain ⟨x,e1,e2⟩:=h (j+1) (by simp; omega)
          exact ⟨x,by simpa using e1,by rw [show i+1+j=i+(j+1) by omega]; exact e2⟩
      refine tk 0 _ 0 fun j hj=>?_
      simp at hj
      exact ⟨V j,by simp [hj],by rw [Nat.zero_add]; exact cell_view_w (h7 j (by omega)).1⟩
    · simp only [List.getElem?_map,Option.map_eq_some_iff] at hi
      obtain ⟨j,hj,rfl⟩:=hi
      have hkl:i < l0:=by have:=(List.getElem?_eq_some_iff.1 hj).1; simpa using this
      have:j=i:=by
        rw [List.getElem?_range hkl] at hj
        exact (Option.some.inj hj).symm
      subst this
      obtain ⟨_,q,n,c,e1,e2⟩:=hB j hkl
      exact ⟨q,n,c,by simp [hkl,e1],e2⟩
    · obtain ⟨j,hj,rfl⟩:=List.mem_map.1 hb
      exact (hB j (List.mem_range.1 hj)).1
end Go.Proofs.Ytaffcoiomggpfaa.row
