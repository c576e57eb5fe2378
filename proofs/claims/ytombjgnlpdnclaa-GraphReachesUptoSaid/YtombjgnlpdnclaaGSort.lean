import Derived.Test.YtombjgnlpdnclaaVText
import Derived.IntWalk
import Derived.Laws.Append
import Derived.Test.YtombjgnlpdnclaaRows
import Derived.WalkKit
import Derived.ProofKit
import Derived.OpenShut
import Derived.JoinedCond
import Derived.Below
import Derived.ChangeSlices
import Derived.ChangeMaps5
import Derived.WideKeyArgs
import Derived.Test.YtombjgnlpdnclaaVPr
import Derived.Test.YtombjgnlpdnclaaFmill
import Derived.Test.YtombjgnlpdnclaaFslices
import Derived.Test.YtombjgnlpdnclaaFcmp
import Derived.Test.YtombjgnlpdnclaaFmath
import Derived.Test.YtombjgnlpdnclaaFr07
/- Words for contracts: views that grow, cells that are known, vectors. -/
namespace Go.V
set_option linter.constructorNameAsVariable false
set_option linter.unusedVariables false
variable {P : Program}

def Ext (H0 H : Heap) : Prop := ∀ i o, H0 i = some o → H i = some o
theorem Ext.refl (H : Heap) : Ext H H := fun _ _ h => h
theorem Ext.trans {A B C : Heap} (h : Ext A B) (g : Ext B C) : Ext A C := fun i o x => g i o (h i o x)
theorem Ext.set {H0 H : Heap} (h : Ext H0 H) {i : Nat} (hi : H0 i = none) (o : Obj) : Ext H0 (H.set i o) := fun j x hx => by
  rw [Heap.set_ne _ _ (fun e => by rw [e, hi] at hx; cases hx)]; exact h j x hx
theorem Ext.base {H0 H : Heap} (h : Ext H0 H) {i : Nat} {o : Obj} (hi : H i = some o) : Ext (H0.set i o) H := fun j x hx => by
  by_cases e : j = i
  · subst e; rw [Heap.set_self] at hx; rw [hi]; exact hx
  · rw [Heap.set_ne _ _ e] at hx; exact h j x hx
theorem Ext.get {H0 H : Heap} {i : Nat} {o : Obj} (h : Ext (H0.set i o) H) : H i = some o := h i o (Heap.set_self _ _ _)
theorem Ext.free {H0 H : Heap} (h : Ext H0 H) {i : Nat} (hi : H i = none) : H0 i = none := by
  cases h0 : H0 i with
  | none => rfl
  | some o => rw [h i o h0] at hi; cases hi
/-! Reads and writes in a block that is known. -/
theorem cell_at {H : Heap} {b o : Nat} {c : Array Value} {t : TypeId} {fr : Nat × Nat} {v : Value} (h : H b = some (.cells c t fr)) (hv : c[o]? = some v) : H.cell? ⟨b, o, none⟩ = some v := by
  simp [Heap.cell?, h, hv]
theorem add_at (b o n : Nat) : Addr.add ⟨b, o, none⟩ n = ⟨b, o + n, none⟩ := by simp [Addr.add]
theorem ldI_at {H : Heap} {b o : Nat} {c : Array Value} {t : TypeId} {fr : Nat × Nat} {k : IntKind} {n : Int} {K : Int → Prop} (h : H b = some (.cells c t fr)) (hv : c[o]? = some (.int k n)) (hk : K n) :
    ldI k ⟨b, o, none⟩ H K := ⟨n, cell_at h hv, hk⟩
theorem ldS_at {H : Heap} {b o : Nat} {c : Array Value} {t : TypeId} {fr : Nat × Nat} {n : ByteArray} {K : ByteArray → Prop} (h : H b = some (.cells c t fr)) (hv : c[o]? = some (.string n)) (hk : K n) :
    ldS ⟨b, o, none⟩ H K := ⟨n, cell_at h hv, hk⟩
theorem ldSl_at {H : Heap} {b o : Nat} {c : Array Value} {t : TypeId} {fr : Nat × Nat} {p : OA} {l m : Nat} {K : OA → Nat → Nat → Prop} (h : H b = some (.cells c t fr))
    (hv : c[o]? = some (.slice p l m)) (hk : K p l m) : ldSl ⟨b, o, none⟩ H K := ⟨p, l, m, cell_at h hv, hk⟩
theorem wr_at {H : Heap} {b o : Nat} {c : Array Value} {t : TypeId} {vs : List Value} {K : Heap → Prop} (h : H b = some (.cells c t (0, 0))) (hs : o + vs.length ≤ c.size) (ho : vs.all oneC = true)
    (hk : K (H.set b (.cells (over c o vs) t (0, 0)))) : wr ⟨b, o, none⟩ vs H K := ⟨c, t, (0, 0), h, rfl, hs, .inr (Nat.zero_le _), ho, hk⟩
theorem rd_at {H : Heap} {b : Nat} {c : Array Value} {t : TypeId} {fr : Nat × Nat} (h : H b = some (.cells c t fr)) : ∀ (vs : List Value) (o i : Nat), (∀ j, j < vs.length → c[o + i + j]? = vs[j]?) → H.rd ⟨b, o, none⟩ i vs
  | [], _, _, _ => trivial
  | v :: vs, o, i, hv => ⟨by rw [add_at]; exact cell_at h (hv 0 (by simp)), rd_at h vs o (i + 1) fun j hj => by
      have := hv (j + 1) (by simp; omega)
      simpa [Nat.add_assoc, Nat.add_comm 1 j] using this⟩

/-! ### Vectors: a slice that owns its block -/
def blk (p : OA) (i : Nat) : Prop := ∃ a, p = some a ∧ i = a.block
def Vec (H : Heap) (sz : Nat) (p : OA) (l c : Nat) (vs : List Value) : Prop :=
  vs.length = l * sz ∧ l ≤ c ∧ match p with
  | none => c = 0
  | some a => ∃ b cs t, a = ⟨b, 0, none⟩ ∧ H b = some (.cells cs t (0, 0)) ∧ cs.size = c * sz ∧ ∀ j, j < l * sz → cs[j]? = vs[j]?
theorem Vec.nil (H : Heap) (sz : Nat) : Vec H sz none 0 0 [] := ⟨by simp, Nat.le_refl _, rfl⟩
theorem Vec.keep {H H' : Heap} {sz : Nat} {p : OA} {l c : Nat} {vs : List Value} (h : Vec H sz p l c vs) (hk : ∀ i, blk p i → H i ≠ none → H' i = H i) : Vec H' sz p l c vs := by
  obtain ⟨h1, h2, h3⟩ := h
  refine ⟨h1, h2, ?_⟩
  cases p with
  | none => exact h3
  | some a =>
    obtain ⟨b, cs, t, rfl, h4, h5⟩ := h3
    exact ⟨b, cs, t, rfl, by rw [hk b ⟨_, rfl, rfl⟩ (by simp [h4])]; exact h4, h5⟩
theorem Vec.known {H : Heap} {sz : Nat} {p : OA} {l c : Nat} {vs : List Value} (h : Vec H sz p l c vs) {i : Nat} (hi : blk p i) : H i ≠ none := by
  obtain ⟨a, rfl, rfl⟩ := hi
  obtain ⟨_, _, b, cs, t, rfl, h4, _⟩ := h
  simp [h4]
theorem Vec.rdS {H : Heap} {sz : Nat} {p : OA} {l c : Nat} {vs : List Value} (h : Vec H sz p l c vs) : H.rdS p vs := by
  obtain ⟨h1, h2, h3⟩ := h
  cases p with
  | none =>
    have : l = 0 := by omega
    subst this
    exact List.eq_nil_of_length_eq_zero (by simpa using h1)
  | some a =>
    obtain ⟨b, cs, t, rfl, h4, h5, h6⟩ := h3
    exact rd_at h4 vs 0 0 fun j hj => by simpa using h6 j (by omega)
theorem over_get : ∀ (vs : List Value) (c : Array Value) (o j : Nat), o + vs.length ≤ c.size → (over c o vs)[j]? = if o ≤ j ∧ j < o + vs.length then vs[j - o]? else c[j]?
  | [], c, o, j, h => by simp [over]; intro h1 h2; omega
  | v :: vs, c, o, j, h => by
    rw [over, over_get vs _ _ _ (by simp at h ⊢; omega)]
    simp only [List.length_cons] at h ⊢
    by_cases h1 : j = o
    · subst h1
      rw [if_neg (by omega), if_pos (by omega)]
      simp [Array.getElem?_setIfInBounds]; omega
    · by_cases h2 : o + 1 ≤ j ∧ j < o + 1 + vs.length
      · rw [if_pos h2, if_pos (by omega)]
        rw [show j - o = (j - (o + 1)) + 1 by omega]; simp
      · rw [if_neg h2, if_neg (by omega)]
        rw [Array.getElem?_setIfInBounds_ne (by omega)]
structure SlT (P : Program) (t : TypeId) (sz : Nat) : Prop where
  has : ∃ e i z, P.underlying t = some (.slice e) ∧ P.info? e = some i ∧ i.zero = some z ∧ z.cells.size = i.size ∧ i.size = sz ∧ 0 < i.bytes ∧ i.bytes ≤ 65536
theorem app_vec {t : TypeId} {sz : Nat} {p : OA} {l c n : Nat} {vs ws : List Value} {x : Value} {H : Heap} {K : OA → Nat → Nat → Heap → Prop} (ht : SlT P t sz)
    (hv : Vec H sz p l c vs) (hx : ∀ K : Nat → List Value → Prop, K n ws → srcOf sz x H K) (hws : ws.length = n * sz) (ho : ws.all oneC = true) (hcap : l + n ≤ 1048576) (hsz : 0 < sz)
    (hk : ∀ p' c' H', Vec H' sz p' (l + n) c' (vs ++ ws) → (∀ j, ¬ blk p j → H j ≠ none → H' j = H j) → (∀ j, blk p' j → blk p j ∨ H j = none) → K p' (l + n) c' H') :
    app P t p l c x H K := by
  obtain ⟨e, i, z, h1, h2, h3, h4, h5, h6, h7⟩ := ht.has
  subst h5
  unfold app tyD
  rw [h1]
  simp only [tyI, tyZ, h2, h3]
  have hb : Nat.beq z.cells.size i.size = true := by rw [h4]; exact Nat.beq_refl _
  rw [hb]
  simp only []
  refine hx _ ⟨fun hle => ?_, fun hlt => ⟨?_, h6, vs, hv.1, hv.rdS, fun c' hc' id hid => ?_⟩⟩
  · cases ws with
    | nil =>
      have hn : n = 0 := by
        rcases Nat.mul_eq_zero.1 (by simpa using hws.symm : n * i.size = 0) with h | h
        · exact h
        · omega
      subst hn
      exact hk _ _ _ (by simpa using hv) (fun j _ _ => rfl) (fun j h => .inl h)
    | cons w ws =>
      obtain ⟨v1, v2, v3⟩ := hv
      cases p with
      | none => simp only [] at v3; subst v3; simp only [List.length_cons] at hws; have : n = 0 := by omega
                subst this; simp at hws
      | some a =>
        obtain ⟨b, cs, t', rfl, h8, h9, h10⟩ := v3
        simp only [wrS, ptr_some, add_at]
        have hbd : l * i.size + (w :: ws).length ≤ cs.size := by
          rw [hws, h9, ← Nat.add_mul]; exact Nat.mul_le_mul_right _ hle
        refine wr_at h8 (by omega) ho ?_
        refine hk _ _ _ ⟨by rw [List.length_append, v1, hws, Nat.add_mul], hle, b, _, t', rfl, Heap.set_self _ _ _, by rw [over_size]; exact h9, fun j hj => ?_⟩ (fun j hj _ => Heap.set_ne _ _ fun e => hj ⟨_, rfl, e⟩) (fun j h => .inl h)
        rw [over_get _ _ _ _ (by omega)]
        by_cases hjl : j < l * i.size
        · rw [if_neg (by omega), List.getElem?_append_left (by omega)]; exact h10 j hjl
        · rw [Nat.add_mul] at hj
          rw [if_pos (by omega), List.getElem?_append_right (by omega), v1]; congr 1; omega
  · refine growslice_fits hlt ?_
    have := Nat.mul_le_mul hcap h7
    omega
  · refine hk _ _ _ ⟨by rw [List.length_append, hv.1, hws, Nat.add_mul], hc', id, _, e, rfl, Heap.set_self _ _ _, ?_, fun j hj => ?_⟩ (fun j _ hj => Heap.set_ne _ _ fun e => hj (e ▸ hid)) (fun j h => by obtain ⟨a, ha, rfl⟩ := h; cases ha; exact .inr hid)
    · have hl : ∀ (n : Nat) (zs : List Value), (rep n zs).length = n * zs.length := fun n zs => by
        induction n with
        | zero => simp [rep]
        | succ n ih => simp [rep, ih, Nat.add_mul]; omega
      simp only [List.size_toArray, List.length_append, hl, hv.1, hws, Array.length_toList, h4]
      rw [← Nat.add_mul, ← Nat.add_mul]; congr 1; omega
    · rw [List.getElem?_toArray, List.getElem?_append_left]
      simp only [List.length_append, hv.1, hws]; rw [← Nat.add_mul]; exact hj
def slB (P : Program) (t : TypeId) (sz : Nat) : Bool := match P.underlying t with
  | some (.slice e) => match P.info? e with
    | some i => match i.zero with
      | some z => Nat.beq z.cells.size i.size && Nat.beq i.size sz && Nat.blt 0 i.bytes && Nat.ble i.bytes 65536
      | none => false
    | none => false
  | _ => false
theorem SlT.of {t : TypeId} {sz : Nat} (h : slB P t sz = true) : SlT P t sz := by
  unfold slB at h
  split at h
  · rename_i e h1
    split at h
    · rename_i i h2
      split at h
      · rename_i z h3
        simp only [Bool.and_eq_true] at h
        exact ⟨e, i, z, h1, h2, h3, Nat.eq_of_beq_eq_true h.1.1.1, Nat.eq_of_beq_eq_true h.1.1.2, Nat.le_of_ble_eq_true h.1.2, Nat.le_of_ble_eq_true h.2⟩
      · cases h
    · cases h
  · cases h
theorem app_one {t : TypeId} {sz : Nat} {p : OA} {l c i m : Nat} {vs ws : List Value} {t' : TypeId} {fr : Nat × Nat} {H : Heap} {K : OA → Nat → Nat → Heap → Prop} (ht : SlT P t sz)
    (hv : Vec H sz p l c vs) (hx : H i = some (.cells ws.toArray t' fr)) (hws : ws.length = sz) (ho : ws.all oneC = true) (hcap : l < 1048576) (hsz : 0 < sz)
    (hk : ∀ p' c' H', Vec H' sz p' (l + 1) c' (vs ++ ws) → (∀ j, ¬ blk p j → H j ≠ none → H' j = H j) → (∀ j, blk p' j → blk p j ∨ H j = none) → K p' (l + 1) c' H') :
    app P t p l c (.slice (some ⟨i, 0, none⟩) 1 m) H K :=
  app_vec ht hv (fun K hK => ⟨ws, by omega, rd_at hx ws 0 0 fun j hj => by simp, hK⟩) (by omega) ho hcap hsz hk
theorem Ext.new {H : Heap} {i : Nat} (h : H i = none) (o : Obj) : Ext H (H.set i o) := (Ext.refl H).set h o
theorem Vec.ext {H H' : Heap} {sz : Nat} {p : OA} {l c : Nat} {vs : List Value} (h : Vec H sz p l c vs) (he : Ext H H') : Vec H' sz p l c vs :=
  h.keep fun i _ hi => by
    cases hh : H i with
    | none => exact absurd hh hi
    | some o => exact he i o hh
theorem nw_ext {o : Obj} {H : Heap} {K : Nat → Heap → Prop} (h : ∀ i H', H i = none → Ext H H' → H' i = some o → K i H') : nw o H K :=
  fun i hi => h i _ hi (Ext.new hi o) (Heap.set_self _ _ _)
theorem sel_mk {b : Bool} {X Y : Prop} (h1 : b = true → X) (h2 : b = false → Y) : sel b X Y := (sel_iff b X Y).2 ⟨h1, h2⟩
theorem sel_beq {x y : Int} {X Y : Prop} (h1 : x = y → X) (h2 : x ≠ y → Y) : sel (x == y) X Y := sel_mk (fun h => h1 (by simpa using h)) (fun h => h2 (by simpa using h))
theorem sel_dec {p : Prop} [Decidable p] {X Y : Prop} (h1 : p → X) (h2 : ¬ p → Y) : sel (decide p) X Y := sel_mk (fun h => h1 (of_decide_eq_true h)) (fun h => h2 (of_decide_eq_false h))
theorem sel_tt {X Y : Prop} (h : X) : sel true X Y := h
theorem sel_ff {X Y : Prop} (h : Y) : sel false X Y := h
theorem sel_not {b : Bool} {X Y : Prop} (h1 : b = false → X) (h2 : b = true → Y) : sel (!b) X Y := sel_mk (fun h => h1 (by simpa using h)) (fun h => h2 (by simpa using h))
end Go.V

/- Rows of laws that answer true and change nothing: from a contract to the given form. -/
namespace Go.Proofs.Ytombjgnlpdnclaa.row
open Go.ChangeShapes Go.WideShapes Go.ChangeAt Go.RowKit Go.ChangeMaps
open Go.V
set_option linter.unusedVariables false

theorem run_of {f : FuncId} {args : Array Value} {w : World} (h : ∀ (Q : Value → Heap → Prop) (E : Chain → Heap → Prop), (∀ H', Ext (fun i => w.heap[i]?) H' → Q (.bool true) H') → Does Pr f args (fun i => w.heap[i]?) Q E) :
    Calls Pr f args w fun e w' => e = .returned (.bool true) ∧ Below w.heap.size w w' := by
  have hd := (h (fun v H' => v = .bool true ∧ Ext (fun i => w.heap[i]?) H') (fun _ _ => False) fun H' he => ⟨rfl, he⟩).2 w (fun i o ho => ho)
  refine Calls.mono hd fun e w' hr => ?_
  cases e with
  | returned v =>
    obtain ⟨H', hs, hk, rfl, he⟩ := hr
    refine ⟨rfl, hk.os, hk.tape, hk.output, hk.size, fun k hlt => ?_⟩
    have : w.heap[k]? = some w.heap[k] := Array.getElem?_eq_getElem hlt
    rw [this]; exact hs k _ (he k _ this)
  | panicked ch => obtain ⟨_, _, _, h⟩ := hr; exact h.elim
  | outgrown => exact hr.elim
theorem own : ownKnob Try.prog.godebug = none := by kernel_rfl
theorem laidOut : laidOutB Try.prog = true := by kernel_rfl

variable {H : Type} {enc : TypeId × Value → H} {P : Program}
theorem stays {W W' : World} {sp' : Nat → Bool} (hl : laidOutB P = true) : ∀ {ts : List TypeId} {vs : List Value} {ds : List (DataW H)} {ps : List MemPlace}, (∀ t ∈ ts, P.readableRec t = true ∧ t < P.types.size) →
    DataW.TrodAll enc P W 0 (fun _ => true) true ts vs ds ps → (∀ p ∈ ps, W.sameAt W' p) → (∀ p ∈ ps, sp' p.block = true) → DataW.TrodAll enc P W' 0 sp' true ts vs ds ps
  | [], [], [], _, _, h, _, _ => h
  | t :: ts, v :: vs, d :: ds, _, ht, ⟨p, q, h1, h2, e⟩, hs, hp => by
    subst e
    exact ⟨p, q, WideElems.Trod_stays hl (ht t (by simp)).1 (ht t (by simp)).2 h1 (fun x hx => hs x (by simp [hx])) (fun x hx => hp x (by simp [hx])),
      stays hl (fun u hu => ht u (by simp [hu])) h2 (fun x hx => hs x (by simp [hx])) (fun x hx => hp x (by simp [hx])), rfl⟩
theorem post_true {f : Func} {s : ChangeSpec} {W W' : World} {args : Array Value} {ds gs : List (DataW H)} {before : List MemPlace} (hl : laidOutB P = true) (hs : s.vars = [])
    (hr : ∀ t ∈ f.params.toList, P.readableRec t = true ∧ t < P.types.size) (hrt : f.resultTypes = #[4]) (h4 : P.underlying 4 = some .bool)
    (hW : DataW.Whole enc P f.params.toList s.vars false W args.toList ds gs before) (hfn : s.fn H (ds ++ gs) = { results := [.lit (.bool true)], args := ds }) (hB : Below W.heap.size W W') :
    s.post enc P f false true false false W args (.bool true) W' := by
  have hW' := hW
  obtain ⟨p, q, hA, hV, rfl, hfz, hnd⟩ := hW
  rw [hs] at hV
  obtain ⟨rfl, rfl⟩ := trodVars_none hV
  have hlt : ∀ x ∈ p, x.block < W.heap.size := fun x hx => hW'.lt x (List.mem_append_left _ hx)
  have ha : ∀ sp : Nat → Bool, (∀ x ∈ p, sp x.block = true) → DataW.TrodAll enc P W' 0 sp true f.params.toList args.toList (s.fn H (ds ++ [])).args p := fun sp hsp => by
    rw [hfn]; exact stays hl hr hA (fun x hx => hB.same (hlt x hx)) hsp
  have hv : ∀ sp : Nat → Bool, DataW.TrodVars enc P W' sp s.vars (s.fn H (ds ++ [])).vars [] := fun sp => by rw [hs, hfn]; rfl
  have hres : ∀ (b : Nat) (sp : Nat → Bool) (hd : Bool), DataW.TrodAll enc P W' b sp hd f.resultTypes.toList ((Value.bool true).resultList f.resultTypes.size) (s.fn H (ds ++ [])).results [] := fun b sp hd => by
    rw [hrt, hfn]; exact trodAll_cons_mk (shut_bool h4 _) trodAll_mk0
  refine ⟨ds, [], p ++ [], [], p, [], hW', hres _ _ _, ha _ (fun x hx => by simpa using hlt x hx), hv _, World.keptBut_mono (fun x hx => ⟨hx, .inr (by simpa using hx)⟩) (hB.frame _), fun _ => ?_⟩
  refine ⟨ok_one (by rw [hrt]) rfl (okWide_bool_mk h4 _), _, _, ([] ++ p) ++ [], ⟨[] ++ p, [], trodAll_append (ha _ (fun _ _ => rfl)) (hres _ _ _), hv _, rfl, ?_, ?_⟩, ?_⟩
  · intro b off hp
    have hx : MemPlace.cell b off ∈ p := by simpa using hp
    have hb : b < W.heap.size := hlt _ hx
    have := hfz b off (by simpa using hx)
    simpa [World.frozen?, hB.block b hb] using this
  · intro ha; cases ha
  · intro x hx _; simpa using hx
end Go.Proofs.Ytombjgnlpdnclaa.row

/- For the graph seat: generic lemmas over heaps (most of them from VByt, VPats, VNode, VAuto). -/
namespace Go.Proofs.Ytombjgnlpdnclaa
open Go.V
attribute [local irreducible] app
set_option linter.constructorNameAsVariable false
set_option linter.unusedVariables false

def natV (i : Nat) : Value := .int .i64 (i : Nat)
theorem wr_new {H : Heap} {b o : Nat} {c c' : Array Value} {t : TypeId} {vs : List Value} {K : Heap → Prop} (h : H b = some (.cells c t (0, 0))) (hs : o + vs.length ≤ c.size) (ho : vs.all oneC = true) (hc : over c o vs = c')
    (hk : ∀ H', H' b = some (.cells c' t (0, 0)) → (∀ j, j ≠ b → H' j = H j) → K H') : wr ⟨b, o, none⟩ vs H K :=
  wr_at h hs ho (hk _ (by rw [Heap.set_self, hc]) fun j hj => Heap.set_ne _ _ hj)
theorem ext_but {A B C : Heap} {m : Nat} (he : Ext A B) (hm : A m = none) (hb : ∀ j, j ≠ m → C j = B j) : Ext A C := fun j o hj => by
  rw [hb j (fun e => by rw [e, hm] at hj; cases hj)]; exact he j o hj
theorem ext_app {H0 H H' : Heap} {p : OA} (he : Ext H0 H) (hf : ∀ j, blk p j → H0 j = none) (hs : ∀ j, ¬ blk p j → H j ≠ none → H' j = H j) : Ext H0 H' := fun j o hj => by
  have h1 := he j o hj
  rw [hs j (fun hb => by rw [hf j hb] at hj; cases hj) (by rw [h1]; simp)]; exact h1
theorem fresh_app {H0 H : Heap} {p p' : OA} (he : Ext H0 H) (hf : ∀ j, blk p j → H0 j = none) (hb : ∀ j, blk p' j → blk p j ∨ H j = none) : ∀ j, blk p' j → H0 j = none := fun j hj => by
  rcases hb j hj with h | h
  · exact hf j h
  · exact he.free h
theorem wrap_succ {k : Nat} (h : k ≤ 1048576) : IntKind.wrap .i64 ((k : Int) + 1) = ((k + 1 : Nat) : Int) := by rw [IntWalk.i64_in _ (by omega)]; omega
def NL (H : Heap) (p : OA) (n c : Nat) (L : List Nat) : Prop := L.length = n ∧ n ≤ c ∧ H.rdS p (L.map natV)
theorem Vec.nl {H : Heap} {p : OA} {n c : Nat} {L : List Nat} (h : Vec H 1 p n c (L.map natV)) : NL H p n c L := ⟨by have := h.1; simpa using this, h.2.1, h.rdS⟩
theorem rdS_cell {H : Heap} {p : OA} {vs : List Value} {i : Nat} {v : Value} {K : Addr → Prop} (h : H.rdS p vs) (hx : vs[i]? = some v) (hK : ∀ a, H.cell? a = some v → K a) : ptr p fun a => K (Addr.add a (i * 1)) := by
  cases p with
  | none =>
    have : vs = [] := h
    subst this; simp at hx
  | some a =>
    have hc : ∀ (vs : List Value) (i j : Nat), H.rd a i vs → vs[j]? = some v → H.cell? (a.add (i + j)) = some v := fun vs => by
      induction vs with
      | nil => intro i j _ h; simp at h
      | cons w vs ih =>
        intro i j h hv
        cases j with
        | zero => simp at hv; subst hv; exact h.1
        | succ j =>
          have := ih (i + 1) j h.2 (by simpa using hv)
          rw [show i + (j + 1) = i + 1 + j by omega]; exact this
    have := hc vs 0 i h hx
    rw [Nat.zero_add] at this
    simp only [ptr_some, Nat.mul_one]
    exact hK _ this
theorem NL.get {H : Heap} {p : OA} {n c i m : Nat} {L : List Nat} {K : Int → Prop} (h : NL H p n c L) (hx : L[i]? = some m) (hK : K (m : Nat)) :
    (0 ≤ (i : Int) ∧ (i : Int) < ((n : Nat) : Int)) ∧ ptr p fun q => ldI .i64 (Addr.add q ((i : Int).toNat * 1)) H K := by
  have hi := (List.getElem?_eq_some_iff.1 hx).1
  have hn := h.1
  refine ⟨⟨by omega, by omega⟩, ?_⟩
  rw [Int.toNat_natCast]
  exact rdS_cell (K := fun a => ldI .i64 a H K) (v := natV m) h.2.2 (by rw [List.getElem?_map, hx]; rfl) fun a ha => ⟨_, ha, hK⟩
theorem NL.ext {H H' : Heap} {p : OA} {n c : Nat} {L : List Nat} (h : NL H p n c L) (he : Ext H H') (hr : ∀ {H H' : Heap} {p : OA} {vs : List Value}, Ext H H' → H.rdS p vs → H'.rdS p vs) : NL H' p n c L := ⟨h.1, h.2.1, hr he h.2.2⟩
theorem Vec.put {H : Heap} {p : OA} {n c i : Nat} {vs : List Value} {v : Value} {K : Heap → Prop} (h : Vec H 1 p n c vs) (hi : i < n) (ho : oneC v = true) (hK : ∀ H', Vec H' 1 p n c (vs.set i v) → (∀ j, ¬ blk p j → H' j = H j) → K H') :
    (0 ≤ (i : Int) ∧ (i : Int) < ((n : Nat) : Int)) ∧ ptr p fun q => wr (Addr.add q ((i : Int).toNat * 1)) [v] H K := by
  refine ⟨⟨by omega, by omega⟩, ?_⟩
  obtain ⟨v1, v2, v3⟩ := id h
  cases p with
  | none => simp only [] at v3; omega
  | some a =>
    obtain ⟨b, cs, t, rfl, hb, hcs, hget⟩ := v3
    simp only [ptr_some, add_at, Int.toNat_natCast, Nat.mul_one, Nat.zero_add]
    refine wr_at hb (by simp; omega) (by simp [ho]) (hK _ ⟨by rw [List.length_set]; exact v1, v2, b, _, t, rfl, Heap.set_self _ _ _, ?_, fun j hj => ?_⟩ fun j hj => Heap.set_ne _ _ fun e => hj ⟨_, rfl, e⟩)
    · rw [over_size]; exact hcs
    · rw [over_get _ _ _ _ (by simp; omega)]
      by_cases e : j = i
      · subst e
        rw [if_pos (by simp), Nat.sub_self, List.getElem?_set_self (by omega)]
        rfl
      · rw [if_neg (by simp; omega), hget j hj, List.getElem?_set_ne (fun h => e h.symm)]
theorem callV_func {P : Program} {E : Chain → Heap → Prop} {g : FuncId} {caps : Array Value} {args : List Value} {Q : Value → Heap → Prop} {H : Heap} (h : Does P g (args ++ caps.toList).toArray H Q E) : callV P E (.func (.func g) #[] caps) args Q H := h
end Go.Proofs.Ytombjgnlpdnclaa

/- Contracts of package jobmuxmill: the deck of numbers. -/
namespace Go.Proofs.Ytombjgnlpdnclaa
open Go.V
attribute [local irreducible] app
set_option linter.constructorNameAsVariable false
set_option linter.unusedVariables false

theorem cell_ext {H H' : Heap} (he : Ext H H') {a : Addr} {v : Value} (h : H.cell? a = some v) : H'.cell? a = some v := by
  unfold Heap.cell? at *
  cases hb : H a.block with
  | none => rw [hb] at h; cases h
  | some o => rw [he _ _ hb]; rw [hb] at h; exact h
theorem rd_ext {H H' : Heap} (he : Ext H H') {a : Addr} : ∀ {vs : List Value} {i : Nat}, H.rd a i vs → H'.rd a i vs
  | [], _, _ => trivial
  | v :: vs, i, h => ⟨cell_ext he h.1, rd_ext he h.2⟩
theorem rdS_ext {H H' : Heap} (he : Ext H H') {p : OA} {vs : List Value} (h : H.rdS p vs) : H'.rdS p vs := by
  cases p with
  | none => exact h
  | some a => exact rd_ext he h
theorem rd_get {H : Heap} {a : Addr} : ∀ {vs : List Value} {i j : Nat} {v : Value}, H.rd a i vs → vs[j]? = some v → H.cell? (a.add (i + j)) = some v
  | [], _, _, _, _, h => by simp at h
  | v :: vs, i, 0, w, h, hv => by simp at hv; subst hv; exact h.1
  | v :: vs, i, j + 1, w, h, hv => by
    have := rd_get h.2 (j := j) (v := w) (by simpa using hv)
    rw [show i + (j + 1) = i + 1 + j by omega]; exact this
def Ints (H : Heap) (p : OA) (n : Nat) (xs : List Int) : Prop := xs.length = n ∧ n ≤ 1048576 ∧ H.rdS p (xs.map (Value.int .i64))
theorem Ints.ext {H H' : Heap} {p : OA} {n : Nat} {xs : List Int} (h : Ints H p n xs) (he : Ext H H') : Ints H' p n xs := ⟨h.1, h.2.1, rdS_ext he h.2.2⟩
def Deck (H0 H : Heap) (d : Nat) (xs : List Int) (k : Nat) : Prop := Ext H0 H ∧ H0 d = none ∧ k ≤ xs.length ∧ ∃ p n c t, Ints H0 p n xs ∧ H d = some (.cells #[.slice p n c, .int .i64 (k : Nat)] t (0, 0))
theorem Deck.ext {H0 H H' : Heap} {d : Nat} {xs : List Int} {k : Nat} (h : Deck H0 H d xs k) (he : Ext H H') : Deck H0 H' d xs k := by
  obtain ⟨h1, h2, h3, p, n, c, t, h4, h5⟩ := h
  exact ⟨h1.trans he, h2, h3, p, n, c, t, h4, he _ _ h5⟩
def modOf (a b : Int) : Int := if Int.tmod a b < 0 then IntKind.wrap .i64 (Int.tmod a b + b) else Int.tmod a b
theorem Mod_c {H : Heap} {a b : Int} {Q : QT} {E : ET} (hb : b ≠ 0) (hk : Q (.int .i64 (modOf a b)) H) : Does Pr 12 #[.int .i64 a, .int .i64 b] H Q E := by
  refine mill_Mod_fn _ _ Q E H ?_
  unfold mill_Mod mill_Mod_6 mill_Mod_3 mill_Mod_1
  refine ⟨hb, sel_dec (fun h => ?_) (fun h => ?_)⟩
  · unfold modOf at hk; rw [if_pos h] at hk; exact hk
  · unfold modOf at hk; rw [if_neg h] at hk; exact hk
theorem modOf_bounds {a : Int} {n : Nat} (hn : 0 < n) (hn2 : n ≤ 1048576) : 0 ≤ modOf a n ∧ modOf a n < n := by
  have h1 : Int.tmod a n < n := Int.tmod_lt_of_pos a (by omega)
  have h2 : -(n : Int) < Int.tmod a n := by
    have h : (Int.tmod a n).natAbs < n := by
      rw [Int.natAbs_tmod]; simpa using Nat.mod_lt _ hn
    omega
  unfold modOf
  split
  · rw [IntWalk.i64_in _ (by omega)]; omega
  · omega
theorem Left_c {H0 H : Heap} {d k : Nat} {xs : List Int} {Q : QT} {E : ET} (h : Deck H0 H d xs k)
    (hk : Q (.bool (decide (k < xs.length))) H) : Does Pr 15 #[.pointer (some ⟨d, 0, none⟩)] H Q E := by
  refine mill_Deck_Left_fn _ Q E H ?_
  obtain ⟨h1, h2, h3, p, n, c, t, h4, h5⟩ := h
  unfold mill_Deck_Left
  refine ldI_at (n := (k : Nat)) h5 rfl ?_
  refine ldSl_at (p := p) (l := n) (m := c) h5 rfl ?_
  have e : decide (((k : Nat) : Int) < ((n : Nat) : Int)) = decide (k < xs.length) := by rw [h4.1]; simp
  rw [e]; exact hk
def drawOf (xs : List Int) (k : Nat) (b : Int) : Int := if k < xs.length then modOf (xs.getD k 0) b else 0
theorem Next_c {H0 H : Heap} {d k : Nat} {xs : List Int} {b : Int} {Q : QT} {E : ET} (h : Deck H0 H d xs k) (hb : b ≠ 0)
    (hk : ∀ H', Deck H0 H' d xs (min (k + 1) xs.length) → (∀ i, i ≠ d → H' i = H i) → Q (.int .i64 (drawOf xs k b)) H') : Does Pr 16 #[.pointer (some ⟨d, 0, none⟩), .int .i64 b] H Q E := by
  refine mill_Deck_Next_fn _ _ Q E H ?_
  unfold mill_Deck_Next mill_Deck_Next_3
  refine Left_c h ⟨_, rfl, ?_⟩
  obtain ⟨h1, h2, h3, p, n, c, t, h4, h5⟩ := id h
  refine sel_not (fun hf => ?_) (fun ht => ?_)
  · have hf := of_decide_eq_false hf
    have e : drawOf xs k b = 0 := if_neg hf
    rw [e] at hk
    have : min (k + 1) xs.length = k := by omega
    rw [this] at hk
    exact hk _ h (fun _ _ => rfl)
  · have ht := of_decide_eq_true ht
    obtain ⟨g1, g2, g3⟩ := id h4
    unfold mill_Deck_Next_1
    simp only [ptr_some, add_at, Nat.zero_add]
    refine ldI_at (n := (k : Nat)) h5 rfl ?_
    have hw : IntKind.wrap .i64 (((k : Nat) : Int) + 1) = ((k + 1 : Nat) : Int) := by rw [IntWalk.i64_in _ (by omega)]; omega
    rw [hw]
    refine wr_at h5 (by simp) rfl ?_
    have h6 : (H.set d (.cells #[.slice p n c, .int .i64 ((k + 1 : Nat) : Int)] t (0, 0))) d = some (.cells #[.slice p n c, .int .i64 ((k + 1 : Nat) : Int)] t (0, 0)) := Heap.set_self _ _ _
    have h7 : Ext H0 (H.set d (.cells #[.slice p n c, .int .i64 ((k + 1 : Nat) : Int)] t (0, 0))) := h1.set h2 _
    have ho : over #[Value.slice p n c, Value.int .i64 ((k : Nat) : Int)] 1 [Value.int .i64 ((k + 1 : Nat) : Int)] = #[Value.slice p n c, Value.int .i64 ((k + 1 : Nat) : Int)] := rfl
    rw [ho]
    have h8 : ∀ i, i ≠ d → (H.set d (.cells #[.slice p n c, .int .i64 ((k + 1 : Nat) : Int)] t (0, 0))) i = H i := fun i hi => Heap.set_ne _ _ hi
    revert h6 h7 h8
    generalize H.set d (.cells #[.slice p n c, .int .i64 ((k + 1 : Nat) : Int)] t (0, 0)) = H1
    intro h6 h7 h8
    refine ldSl_at (p := p) (l := n) (m := c) h6 rfl ?_
    refine ldI_at (n := ((k + 1 : Nat) : Int)) h6 rfl ?_
    have hw2 : IntKind.wrap .i64 (((k + 1 : Nat) : Int) - 1) = (k : Nat) := by rw [IntWalk.i64_in _ (by omega)]; omega
    rw [hw2]
    refine ⟨⟨by omega, by omega⟩, ?_⟩
    cases p with
    | none =>
      have : xs.map (Value.int .i64) = [] := g3
      simp at this; subst this; simp at ht
    | some a =>
      simp only [ptr_some, Int.toNat_natCast, Nat.mul_one]
      have hc : H1.cell? (a.add (0 + k)) = some (.int .i64 (xs.getD k 0)) := cell_ext h7 (rd_get g3 (by simp [List.getD_eq_getElem?_getD, ht]))
      rw [Nat.zero_add] at hc
      refine ⟨xs.getD k 0, hc, Mod_c hb ⟨_, rfl, ?_⟩⟩
      have e : drawOf xs k b = modOf (xs.getD k 0) b := if_pos ht
      rw [e] at hk
      have : min (k + 1) xs.length = k + 1 := by omega
      rw [this] at hk
      exact hk _ ⟨h7, h2, by omega, some a, n, c, t, h4, h6⟩ h8
theorem New_c {H : Heap} {p : OA} {n c : Nat} {xs : List Int} {Q : QT} {E : ET} (h : Ints H p n xs)
    (hk : ∀ d H', Deck H H' d xs 0 → Q (.pointer (some ⟨d, 0, none⟩)) H') : Does Pr 14 #[.slice p n c] H Q E := by
  refine mill_New_fn _ _ _ Q E H ?_
  unfold mill_New
  intro d hd
  exact hk d _ ⟨Ext.new hd _, hd, Nat.zero_le _, p, n, c, 54, h, Heap.set_self _ _ _⟩
end Go.Proofs.Ytombjgnlpdnclaa

/- Opening arguments: what the form reads of them, over a heap view. -/
namespace Go.Proofs.Ytombjgnlpdnclaa.row
open Go.ChangeShapes Go.WideShapes Go.ChangeAt Go.RowKit Go.ChangeMaps
open Go.V
set_option linter.unusedVariables false
variable {H : Type} {enc : TypeId × Value → H} {P : Program}

theorem one_le {H : Type} (d : DataW H) : 1 ≤ Rows.uptoBulk d := by
  cases d with
  | lit l => cases l <;> simp [Rows.uptoBulk]
  | nil => simp [Rows.uptoBulk]
  | ptr d => simp [Rows.uptoBulk]
  | slice elems spare => simp [Rows.uptoBulk]
  | agg parts => simp [Rows.uptoBulk]
  | iface t d => simp [Rows.uptoBulk]
  | map entries => simp [Rows.uptoBulk]
  | held h => simp [Rows.uptoBulk]
theorem part_le {H : Type} {d : DataW H} {l : List (DataW H)} (h : d ∈ l) : Rows.uptoBulk d ≤ Rows.uptoBulkAll l := by
  induction l with
  | nil => cases h
  | cons x r ih =>
    simp only [Rows.uptoBulkAll]
    cases List.mem_cons.1 h with
    | inl e => subst e; omega
    | inr e => have := ih e; omega
theorem length_le {H : Type} (l : List (DataW H)) : l.length ≤ Rows.uptoBulkAll l := by
  induction l with
  | nil => simp [Rows.uptoBulkAll]
  | cons x r ih => have := one_le x; simp only [Rows.uptoBulkAll, List.length_cons]; omega
theorem slice_le {H : Type} (elems spare : List (DataW H)) : elems.length + spare.length + 1 ≤ Rows.uptoBulk (.slice elems spare) := by
  have h1 := length_le elems
  have h2 := length_le spare
  simp only [Rows.uptoBulk]
  omega
theorem bound {H : Type} {l : List (DataW H)} (hk : Rows.uptoSmall H l = true) : Rows.uptoBulkAll l ≤ 1048576 := of_decide_eq_true hk

theorem cell_view {w : World} {b o : Nat} {v : Value} (h : w.cell? ⟨b, o, none⟩ = some v) : Heap.cell? (fun i => w.heap[i]?) ⟨b, o, none⟩ = some v := by
  unfold World.cell? at h
  unfold Heap.cell?
  dsimp only at h ⊢
  revert h
  generalize w.heap[b]? = y
  cases y with
  | none => simp
  | some x => cases x <;> simp
theorem rd_of {H : Heap} {b : Nat} : ∀ (vs : List Value) (o i : Nat), (∀ j, j < vs.length → ∃ v, vs[j]? = some v ∧ H.cell? ⟨b, o + i + j, none⟩ = some v) → H.rd ⟨b, o, none⟩ i vs
  | [], _, _, _ => trivial
  | v :: vs, o, i, hv => ⟨by
      rw [add_at]
      obtain ⟨v', h1, h2⟩ := hv 0 (by simp)
      simp at h1; subst h1; exact h2, rd_of vs o (i + 1) fun j hj => by
      obtain ⟨v', h1, h2⟩ := hv (j + 1) (by simp; omega)
      exact ⟨v', by simpa using h1, by rw [← h2]; congr 2; omega⟩⟩
theorem ints_open {k : IntKind} {e t : TypeId} {W : World} {v : Value} {d : DataW H} {p : List MemPlace} {ds : List (DataW H)} (ht : P.underlying t = some (.slice e)) (he : P.underlying e = some (.int k)) (hc : P.cellsOf e = 1)
    {base : Nat} (hok : Value.okWide P W .any base t v) (h : DataW.Trod enc P W 0 (fun _ => true) true t v d p) (hk : Rows.uptoSmall H ds = true) (hd : d ∈ ds) :
    ∃ q n c, v = .slice q n c ∧ n ≤ c ∧ c ≤ 1048576 ∧ ∃ xs : List Int, xs.length = n ∧ Heap.rdS (fun i => W.heap[i]?) q (xs.map (Value.int k)) ∧ ∀ x ∈ xs, (Lit.int k x).wf = true := by
  obtain ⟨fuel, h⟩ := h
  obtain ⟨a0, l0, c0, rfl⟩ := okWide_slice ht hok
  have hb := Nat.le_trans (part_le hd) (bound hk)
  rcases open_ints ht he hc h with ⟨h1, h2⟩ | ⟨a, len, cap, zs, h1, h2, h3, h4, h5, h6, h7, h8⟩
  · simp [Value.cells] at h1
    obtain ⟨rfl, rfl, rfl⟩ := h1
    exact ⟨none, 0, 0, rfl, by omega, by omega, [], rfl, rfl, by simp⟩
  · simp [Value.cells] at h1
    obtain ⟨ha, hb1, hc1⟩ := h1
    subst hb1 hc1 ha
    simp at h5
    have hd' : d = .slice (lits k (zs.take l0)) (lits k (zs.drop l0)) := congrArg (·.1) h6
    rw [hd'] at hb
    have := slice_le (H := H) (lits k (zs.take l0)) (lits k (zs.drop l0))
    have hl1 : ∀ l : List Int, (lits (H := H) k l).length = l.length := fun l => by simp [lits]
    rw [hl1, hl1, List.length_take, List.length_drop] at this
    refine ⟨some a, _, _, rfl, h3, by omega, zs.take l0, by simp; omega, ?_, fun x hx => h8 x (List.mem_of_mem_take hx)⟩
    by_cases hl : zs.length = 0
    · have : zs = [] := List.eq_nil_of_length_eq_zero hl
      subst this
      simp only [List.take_nil, List.map_nil]
      trivial
    · obtain ⟨b, off, rfl, hcell⟩ := ints_at h7 (by omega)
      refine rd_of _ off 0 fun j hj => ?_
      simp at hj
      have hj1 : j < l0 := by omega
      have hj2 : j < zs.length := by omega
      refine ⟨.int k (zs.getD j 0), by simp [hj1, List.getD_eq_getElem?_getD, List.getElem?_eq_getElem hj2], ?_⟩
      rw [Nat.add_zero]
      exact cell_view (hcell j hj2)
theorem Ints_open {t e : TypeId} {W : World} {v : Value} {d : DataW H} {p : List MemPlace} {ds : List (DataW H)} (ht : P.underlying t = some (.slice e)) (he : P.underlying e = some (.int .i64)) (hc : P.cellsOf e = 1)
    {base : Nat} (hok : Value.okWide P W .any base t v) (h : DataW.Trod enc P W 0 (fun _ => true) true t v d p) (hk : Rows.uptoSmall H ds = true) (hd : d ∈ ds) :
    ∃ q n c xs, v = .slice q n c ∧ Ints (fun i => W.heap[i]?) q n xs := by
  obtain ⟨q, n, c, h1, h2, h3, xs, h4, h5, _⟩ := ints_open (k := .i64) ht he hc hok h hk hd
  exact ⟨q, n, c, xs, h1, h4, by omega, h5⟩
end Go.Proofs.Ytombjgnlpdnclaa.row

/- Contracts of package slices (searches, sort and compact of at most two numbers) and of the reference's Has, for the graph seat. -/
namespace Go.Proofs.Ytombjgnlpdnclaa
open Go.V
attribute [local irreducible] app
set_option linter.constructorNameAsVariable false
set_option linter.unusedVariables false

theorem NL.ex {H H' : Heap} {p : OA} {n c : Nat} {L : List Nat} (h : NL H p n c L) (he : Ext H H') : NL H' p n c L := ⟨h.1, h.2.1, rdS_ext he h.2.2⟩
def FindR (n : Nat) (P : Nat → Prop) (r : Int) : Prop := (r = -1 ∧ ∀ i, i < n → ¬ P i) ∨ ∃ k : Nat, k < n ∧ r = (k : Nat) ∧ P k ∧ ∀ i, i < k → ¬ P i
theorem getD_of {L : List Nat} {i m : Nat} (h : L[i]? = some m) : L.getD i 0 = m := by rw [List.getD_eq_getElem?_getD, h]; rfl
section
variable {H : Heap} {p : OA} {n c : Nat} {L : List Nat} {Q : QT} {E : ET}
theorem IdxFn_c (h : NL H p n c L) (hn : n ≤ 1048576) {g : Nat → Bool} {f : Value} (hf : ∀ m ∈ L, ∀ K : Value → Heap → Prop, K (.bool (g m)) H → callV Pr E f [.int .i64 (m : Nat)] K H)
    (hk : ∀ r, FindR n (fun i => g (L.getD i 0) = true) r → Q (.int .i64 r) H) : Does Pr 21 #[.slice p n c, f] H Q E := by
  refine slices_IndexFunc_int_int_fn _ _ _ _ Q E H ?_
  unfold slices_IndexFunc_int_int slices_IndexFunc_int_int_17 slices_IndexFunc_int_int_14
  have hl := h.1
  refine ⟨fun x H' => ∃ k : Nat, x = (k : Nat) ∧ k ≤ n ∧ H' = H ∧ ∀ i, i < k → ¬ g (L.getD i 0) = true, fun x _ => ((n : Int) - x).toNat, ⟨0, rfl, by omega, rfl, fun i hi => by omega⟩, ?_⟩
  rintro x H1 ⟨k, rfl, hkn, rfl, hno⟩
  unfold slices_IndexFunc_int_int_11 slices_IndexFunc_int_int_8
  refine sel_dec (fun hlt => ?_) (fun hge => ?_)
  · have hlt : k < L.length := by omega
    have hx : L[k]? = some L[k] := List.getElem?_eq_getElem hlt
    have hm : L[k] ∈ L := List.getElem_mem hlt
    generalize L[k] = m at hx hm
    unfold slices_IndexFunc_int_int_5
    refine h.get hx (hf m hm _ ⟨_, rfl, ?_⟩)
    refine sel_mk (fun ht => ?_) (fun hff => ?_)
    · exact hk k (.inr ⟨k, by omega, rfl, (by show g (L.getD k 0) = true; rw [getD_of hx]; exact ht), hno⟩)
    · unfold slices_IndexFunc_int_int_3
      rw [wrap_succ (by omega)]
      refine ⟨⟨k + 1, rfl, by omega, rfl, fun i hi => ?_⟩, by dsimp only; omega⟩
      by_cases e : i = k
      · subst e; rw [getD_of hx, hff]; simp
      · exact hno i (by omega)
  · unfold slices_IndexFunc_int_int_1
    exact hk _ (.inl ⟨rfl, fun i hi => hno i (by omega)⟩)
theorem ContFn_c (h : NL H p n c L) (hn : n ≤ 1048576) {g : Nat → Bool} {f : Value} (hf : ∀ m ∈ L, ∀ K : Value → Heap → Prop, K (.bool (g m)) H → callV Pr E f [.int .i64 (m : Nat)] K H)
    (hk : Q (.bool (L.any g)) H) : Does Pr 27 #[.slice p n c, f] H Q E := by
  refine slices_ContainsFunc_int_int_fn _ _ _ _ Q E H ?_
  unfold slices_ContainsFunc_int_int
  refine IdxFn_c h hn hf fun r hr => ⟨_, rfl, ?_⟩
  have hl := h.1
  have e : decide (r ≥ 0) = L.any g := by
    rw [Bool.eq_iff_iff, decide_eq_true_eq, List.any_eq_true]
    rcases hr with ⟨rfl, hno⟩ | ⟨k, hk1, rfl, hk2, _⟩
    · constructor
      · intro h; omega
      · rintro ⟨m, hm, hg⟩
        obtain ⟨i, hi, rfl⟩ := List.mem_iff_getElem.1 hm
        exact absurd (by show g (L.getD i 0) = true; rw [getD_of (List.getElem?_eq_getElem hi)]; exact hg) (hno i (by omega))
    · refine ⟨fun _ => ⟨L.getD k 0, ?_, hk2⟩, fun _ => by omega⟩
      rw [getD_of (List.getElem?_eq_getElem (by omega : k < L.length))]
      exact List.getElem_mem _
  rw [e]; exact hk
theorem Idx_c {m : Nat} (h : NL H p n c L) (hn : n ≤ 1048576) (hk : ∀ r, FindR n (fun i => L.getD i 0 = m) r → Q (.int .i64 r) H) : Does Pr 23 #[.slice p n c, .int .i64 (m : Nat)] H Q E := by
  refine slices_Index_int_int_fn _ _ _ _ Q E H ?_
  unfold slices_Index_int_int slices_Index_int_int_17 slices_Index_int_int_14
  have hl := h.1
  refine ⟨fun x H' => ∃ k : Nat, x = (k : Nat) ∧ k ≤ n ∧ H' = H ∧ ∀ i, i < k → ¬ L.getD i 0 = m, fun x _ => ((n : Int) - x).toNat, ⟨0, rfl, by omega, rfl, fun i hi => by omega⟩, ?_⟩
  rintro x H1 ⟨k, rfl, hkn, rfl, hno⟩
  unfold slices_Index_int_int_11 slices_Index_int_int_8
  refine sel_dec (fun hlt => ?_) (fun hge => ?_)
  · have hlt : k < L.length := by omega
    have hx : L[k]? = some L[k] := List.getElem?_eq_getElem hlt
    generalize L[k] = w at hx
    unfold slices_Index_int_int_5
    refine h.get hx ?_
    refine sel_beq (fun ht => ?_) (fun hff => ?_)
    · exact hk k (.inr ⟨k, by omega, rfl, (by show L.getD k 0 = m; rw [getD_of hx]; omega), hno⟩)
    · unfold slices_Index_int_int_3
      rw [wrap_succ (by omega)]
      refine ⟨⟨k + 1, rfl, by omega, rfl, fun i hi => ?_⟩, by dsimp only; omega⟩
      by_cases e : i = k
      · subst e; rw [getD_of hx]; omega
      · exact hno i (by omega)
  · unfold slices_Index_int_int_1
    exact hk _ (.inl ⟨rfl, fun i hi => hno i (by omega)⟩)
theorem findR_mem {m : Nat} {r : Int} (hl : L.length = n) (hr : FindR n (fun i => L.getD i 0 = m) r) : decide (r ≥ 0) = decide (m ∈ L) := by
  rw [Bool.eq_iff_iff, decide_eq_true_eq, decide_eq_true_eq]
  rcases hr with ⟨rfl, hno⟩ | ⟨k, hk1, rfl, hk2, _⟩
  · constructor
    · intro h; omega
    · intro hm
      obtain ⟨i, hi, rfl⟩ := List.mem_iff_getElem.1 hm
      exact absurd (getD_of (List.getElem?_eq_getElem hi)) (hno i (by omega))
  · refine ⟨fun _ => ?_, fun _ => by omega⟩
    rw [← hk2, getD_of (List.getElem?_eq_getElem (by omega : k < L.length))]
    exact List.getElem_mem _
theorem Cont_c {m : Nat} (h : NL H p n c L) (hn : n ≤ 1048576) (hk : Q (.bool (decide (m ∈ L))) H) : Does Pr 20 #[.slice p n c, .int .i64 (m : Nat)] H Q E := by
  refine slices_Contains_int_int_fn _ _ _ _ Q E H ?_
  unfold slices_Contains_int_int
  refine Idx_c h hn fun r hr => ⟨_, rfl, ?_⟩
  rw [findR_mem h.1 hr]; exact hk
theorem Has_c {m : Nat} (h : NL H p n c L) (hn : n ≤ 1048576) (hk : Q (.bool (decide (m ∈ L))) H) : Does Pr 11 #[.slice p n c, .int .i64 (m : Nat)] H Q E := by
  refine r07_Has_fn _ _ _ _ Q E H ?_
  unfold r07_Has r07_Has_14 r07_Has_11
  have hl := h.1
  refine ⟨fun x H' => ∃ k : Nat, x = (k : Nat) ∧ k ≤ n ∧ H' = H ∧ ∀ i, i < k → ¬ L.getD i 0 = m, fun x _ => ((n : Int) - x).toNat, ⟨0, rfl, by omega, rfl, fun i hi => by omega⟩, ?_⟩
  rintro x H1 ⟨k, rfl, hkn, rfl, hno⟩
  unfold r07_Has_8
  refine sel_dec (fun hlt => ?_) (fun hge => ?_)
  · have hlt : k < L.length := by omega
    have hx : L[k]? = some L[k] := List.getElem?_eq_getElem hlt
    have hmem : L[k] ∈ L := List.getElem_mem hlt
    generalize L[k] = w at hx hmem
    unfold r07_Has_5
    refine h.get hx ?_
    refine sel_beq (fun ht => ?_) (fun hff => ?_)
    · have : w = m := by omega
      subst this
      rw [decide_eq_true hmem] at hk; exact hk
    · unfold r07_Has_3
      rw [wrap_succ (by omega)]
      refine ⟨⟨k + 1, rfl, by omega, rfl, fun i hi => ?_⟩, by dsimp only; omega⟩
      by_cases e : i = k
      · subst e; rw [getD_of hx]; omega
      · exact hno i (by omega)
  · unfold r07_Has_1
    have : ¬ m ∈ L := fun hm => by
      obtain ⟨i, hi, rfl⟩ := List.mem_iff_getElem.1 hm
      exact hno i (by omega) (getD_of (List.getElem?_eq_getElem hi))
    rw [decide_eq_false this] at hk; exact hk
theorem IdxB_c {B : List Bool} (hl : B.length = n) (h : H.rdS p (B.map Value.bool)) (hn : n ≤ 1048576) (hk : ∀ r, FindR n (fun i => B.getD i true = false) r → Q (.int .i64 r) H) : Does Pr 19 #[.slice p n c, .bool false] H Q E := by
  refine slices_Index_bool_bool_fn _ _ _ _ Q E H ?_
  unfold slices_Index_bool_bool slices_Index_bool_bool_17 slices_Index_bool_bool_14
  refine ⟨fun x H' => ∃ k : Nat, x = (k : Nat) ∧ k ≤ n ∧ H' = H ∧ ∀ i, i < k → ¬ B.getD i true = false, fun x _ => ((n : Int) - x).toNat, ⟨0, rfl, by omega, rfl, fun i hi => by omega⟩, ?_⟩
  rintro x H1 ⟨k, rfl, hkn, rfl, hno⟩
  unfold slices_Index_bool_bool_11 slices_Index_bool_bool_8
  refine sel_dec (fun hlt => ?_) (fun hge => ?_)
  · have hlt : k < B.length := by omega
    have hx : B[k]? = some B[k] := List.getElem?_eq_getElem hlt
    have hd : B.getD k true = B[k] := by rw [List.getD_eq_getElem?_getD, hx]; rfl
    generalize B[k] = w at hx hd
    unfold slices_Index_bool_bool_5
    refine ⟨⟨by omega, by omega⟩, ?_⟩
    rw [Int.toNat_natCast]
    refine rdS_cell (K := fun a => ldB a H1 _) (v := .bool w) h (by rw [List.getElem?_map, hx]; rfl) fun a ha => ⟨_, ha, ?_⟩
    cases w with
    | false => exact sel_tt (hk k (.inr ⟨k, by omega, rfl, hd, hno⟩))
    | true =>
      refine sel_ff ?_
      unfold slices_Index_bool_bool_3
      rw [wrap_succ (by omega)]
      refine ⟨⟨k + 1, rfl, by omega, rfl, fun i hi => ?_⟩, by dsimp only; omega⟩
      by_cases e : i = k
      · subst e; rw [hd]; simp
      · exact hno i (by omega)
  · unfold slices_Index_bool_bool_1
    exact hk _ (.inl ⟨rfl, fun i hi => hno i (by omega)⟩)
end
end Go.Proofs.Ytombjgnlpdnclaa

/- Contracts of slices.Sort and slices.Compact for at most two numbers, for the graph seat. -/
namespace Go.Proofs.Ytombjgnlpdnclaa
open Go.V
attribute [local irreducible] app
set_option linter.constructorNameAsVariable false
set_option linter.unusedVariables false

def s2 : List Nat → List Nat
  | [a, b] => if b < a then [b, a] else [a, b]
  | l => l
def d2 : List Nat → List Nat
  | [a, b] => if a = b then [a] else [a, b]
  | l => l
section
variable {H : Heap} {p : OA} {n c : Nat} {L : List Nat} {Q : QT} {E : ET}
theorem NaN_c {a : Int} (hk : Q (.bool false) H) : Does Pr 49 #[.int .i64 a] H Q E := by
  refine cmp_isNaN_int_fn _ Q E H ?_
  unfold cmp_isNaN_int
  have : ((a : Int) != a) = false := by simp
  rw [this]; exact hk
theorem Less_c {a b : Int} (hk : Q (.bool (decide (a < b))) H) : Does Pr 39 #[.int .i64 a, .int .i64 b] H Q E := by
  refine cmp_Less_int_fn _ _ Q E H ?_
  unfold cmp_Less_int
  exact NaN_c ⟨_, rfl, sel_ff hk⟩
set_option maxRecDepth 20000 in
theorem Len_c {x : Int} (h0 : 0 ≤ x) (h1 : x ≤ 255) (hk : ∀ r, Q (.int .i64 r) H) : Does Pr 32 #[.int .u64 x] H Q E := by
  refine math_bits_Len_fn _ Q E H ?_
  unfold math_bits_Len math_bits_Len_3 math_bits_Len_1
  refine math_bits_Len64_fn _ _ E H ?_
  unfold math_bits_Len64 math_bits_Len64_9
  refine sel_dec (fun h => by omega) (fun _ => ?_)
  unfold math_bits_Len64_6
  refine sel_dec (fun h => by omega) (fun _ => ?_)
  unfold math_bits_Len64_3
  refine sel_dec (fun h => by omega) (fun _ => ?_)
  unfold math_bits_Len64_1
  have hw : IntKind.wrap .u8 x = x := IntWalk.u8_in _ ⟨by omega, by omega⟩
  rw [hw]
  refine ⟨⟨h0, ?_⟩, _, rfl, hk _⟩
  refine Int.lt_of_le_of_lt h1 ?_
  decide +kernel
theorem Ins_c (h : Vec H 1 p n c (L.map natV)) (hn : L.length ≤ 2) (hk : ∀ H', Vec H' 1 p n c ((s2 L).map natV) → (∀ j, ¬ blk p j → H' j = H j) → Q (.tuple #[]) H') :
    Does Pr 33 #[.slice p n c, .int .i64 0, .int .i64 (n : Nat)] H Q E := by
  refine slices_insertionSortOrdered_int_fn _ _ _ _ _ Q E H ?_
  unfold slices_insertionSortOrdered_int slices_insertionSortOrdered_int_22
  have hl := (Vec.nl h).1
  have e1 : IntKind.wrap .i64 (0 + 1) = ((1 : Nat) : Int) := rfl
  rw [e1]
  refine ⟨fun x H' => (x = 1 ∧ H' = H) ∨ (x = 2 ∧ n = 2 ∧ Vec H' 1 p n c ((s2 L).map natV) ∧ ∀ j, ¬ blk p j → H' j = H j), fun x _ => (3 - x).toNat, .inl ⟨rfl, rfl⟩, ?_⟩
  rintro x H1 (⟨rfl, rfl⟩ | ⟨rfl, h2, hv, hf⟩)
  · unfold slices_insertionSortOrdered_int_19
    refine sel_dec (fun hlt => ?_) (fun hge => ?_)
    · obtain ⟨a, b, rfl⟩ : ∃ a b, L = [a, b] := by
        match L, hl, hn with
        | [], h1, _ => simp at h1; omega
        | [a], h1, _ => simp at h1; omega
        | [a, b], _, _ => exact ⟨a, b, rfl⟩
        | _ :: _ :: _ :: _, _, h2 => simp at h2
      have hn2 : n = 2 := by simpa using hl.symm
      subst hn2
      unfold slices_insertionSortOrdered_int_14 slices_insertionSortOrdered_int_11
      refine ⟨fun x H' => (x = 1 ∧ H' = H1) ∨ (x = 0 ∧ b < a ∧ Vec H' 1 p 2 c ([b, a].map natV) ∧ ∀ j, ¬ blk p j → H' j = H1 j), fun x _ => x.toNat, .inl ⟨rfl, rfl⟩, ?_⟩
      have w10 : IntKind.wrap .i64 (1 - 1) = ((0 : Nat) : Int) := rfl
      have w11 : (1 : Int) = ((1 : Nat) : Int) := rfl
      have w12 : IntKind.wrap .i64 (1 + 1) = (2 : Int) := rfl
      rintro x H2 (⟨rfl, rfl⟩ | ⟨rfl, hba, hv, hf⟩)
      · unfold slices_insertionSortOrdered_int_7
        refine sel_dec (fun _ => ?_) (fun h => absurd (by omega) h)
        rw [w10]
        refine (Vec.nl h).get (i := 1) (m := b) rfl ?_
        refine (Vec.nl h).get (i := 0) (m := a) rfl ?_
        refine Less_c ⟨_, rfl, ?_⟩
        unfold slices_insertionSortOrdered_int_5
        refine sel_dec (fun hba => ?_) (fun hba => ?_)
        · unfold slices_insertionSortOrdered_int_3
          rw [w10]
          refine (Vec.nl h).get (i := 0) (m := a) rfl ?_
          refine (Vec.nl h).get (i := 1) (m := b) rfl ?_
          refine Vec.put h (i := 1) (v := natV a) (by omega) rfl fun H3 hv3 hf3 => ?_
          refine Vec.put hv3 (i := 0) (v := natV b) (by omega) rfl fun H4 hv4 hf4 => ?_
          exact ⟨.inr ⟨rfl, by omega, hv4, fun j hj => by rw [hf4 j hj, hf3 j hj]⟩, by dsimp only; omega⟩
        · unfold slices_insertionSortOrdered_int_1
          rw [w12]
          refine ⟨.inr ⟨rfl, rfl, ?_, fun _ _ => rfl⟩, by dsimp only; omega⟩
          have : s2 [a, b] = [a, b] := if_neg (by omega)
          rw [this]; exact h
      · unfold slices_insertionSortOrdered_int_7
        refine sel_dec (fun h => absurd h (by omega)) (fun _ => ?_)
        unfold slices_insertionSortOrdered_int_5
        refine sel_ff ?_
        unfold slices_insertionSortOrdered_int_1
        rw [w12]
        refine ⟨.inr ⟨rfl, rfl, ?_, hf⟩, by dsimp only; omega⟩
        have : s2 [a, b] = [b, a] := if_pos hba
        rw [this]; exact hv
    · refine hk H1 ?_ fun _ _ => rfl
      have : s2 L = L := by
        match L, hl with
        | [], _ => rfl
        | [a], _ => rfl
        | [a, b], h1 => simp at h1; omega
        | _ :: _ :: _ :: _, _ => rfl
      rw [this]; exact h
  · unfold slices_insertionSortOrdered_int_19
    refine sel_dec (fun h => absurd h (by omega)) (fun _ => hk H1 hv hf)
theorem Sort_c (h : Vec H 1 p n c (L.map natV)) (hn : L.length ≤ 2) (hk : ∀ H', Vec H' 1 p n c ((s2 L).map natV) → (∀ j, ¬ blk p j → H' j = H j) → Q (.tuple #[]) H') :
    Does Pr 25 #[.slice p n c] H Q E := by
  refine slices_Sort_int_int_fn _ _ _ Q E H ?_
  unfold slices_Sort_int_int
  have hl := (Vec.nl h).1
  have hw : IntKind.wrap .u64 (n : Int) = (n : Nat) := IntWalk.u64_in _ ⟨by omega, by omega⟩
  rw [hw]
  refine Len_c (by omega) (by omega) fun r => ⟨r, rfl, ?_⟩
  refine slices_pdqsortOrdered_int_fn _ _ _ _ _ _ _ E H ?_
  unfold slices_pdqsortOrdered_int slices_pdqsortOrdered_int_37 slices_pdqsortOrdered_int_34
  refine ⟨fun x1 x2 x3 x8 x9 H' => x1 = 0 ∧ x2 = (n : Nat) ∧ H' = H, fun _ _ _ _ _ _ => 0, ⟨rfl, rfl, rfl⟩, ?_⟩
  rintro x1 x2 x3 x8 x9 H1 ⟨rfl, rfl, rfl⟩
  unfold slices_pdqsortOrdered_int_30 slices_pdqsortOrdered_int_27
  have hw2 : IntKind.wrap .i64 ((n : Int) - 0) = (n : Nat) := by rw [IntWalk.i64_in _ (by omega)]; omega
  rw [hw2]
  refine sel_dec (fun _ => ?_) (fun h => absurd (by omega) h)
  exact Ins_c h hn hk
theorem Compact_c (h : Vec H 1 p n c (L.map natV)) (hn : L.length ≤ 2) (hk : ∀ H', Vec H' 1 p (d2 L).length c ((d2 L).map natV) → (∀ j, ¬ blk p j → H' j = H j) → Q (.slice p (d2 L).length c) H') :
    Does Pr 26 #[.slice p n c] H Q E := by
  refine slices_Compact_int_int_fn _ _ _ Q E H ?_
  unfold slices_Compact_int_int slices_Compact_int_int_44
  have hl := (Vec.nl h).1
  refine sel_dec (fun hlt => ?_) (fun hge => ?_)
  · have e : d2 L = L := by
      match L, hl with
      | [], _ => rfl
      | [a], _ => rfl
      | [a, b], h1 => simp at h1; omega
      | _ :: _ :: _ :: _, _ => rfl
    rw [e, hl] at hk
    exact hk H h fun _ _ => rfl
  · obtain ⟨a, b, rfl⟩ : ∃ a b, L = [a, b] := by
      match L, hl, hn with
      | [], h1, _ => simp at h1; omega
      | [a], h1, _ => simp at h1; omega
      | [a, b], _, _ => exact ⟨a, b, rfl⟩
      | _ :: _ :: _ :: _, _, h2 => simp at h2
    have hn2 : n = 2 := by simpa using hl.symm
    subst hn2
    have w10 : IntKind.wrap .i64 (1 - 1) = ((0 : Nat) : Int) := rfl
    have w12 : IntKind.wrap .i64 (1 + 1) = (2 : Int) := rfl
    unfold slices_Compact_int_int_40 slices_Compact_int_int_37
    refine ⟨fun x H' => H' = H ∧ (x = 1 ∨ x = 2 ∧ a ≠ b), fun x _ => (3 - x).toNat, ⟨rfl, .inl rfl⟩, ?_⟩
    rintro x H1 ⟨rfl, rfl | ⟨rfl, hab⟩⟩
    · unfold slices_Compact_int_int_34
      refine sel_dec (fun _ => ?_) (fun h => absurd (by omega) h)
      unfold slices_Compact_int_int_29
      rw [w10]
      refine (Vec.nl h).get (i := 1) (m := b) rfl ?_
      refine (Vec.nl h).get (i := 0) (m := a) rfl ?_
      unfold slices_Compact_int_int_27
      refine sel_beq (fun hba => ?_) (fun hba => ?_)
      · have hba : a = b := by omega
        have e : d2 [a, b] = [a] := if_pos hba
        rw [e] at hk
        obtain ⟨v1, v2, v3⟩ := id h
        cases p with
        | none => simp only [] at v3; omega
        | some ad =>
          obtain ⟨bl, cs, t, rfl, hb, hcs, hget⟩ := v3
          unfold slices_Compact_int_int_22
          refine ⟨⟨by omega, by omega⟩, ?_⟩
          unfold slices_Compact_int_int_18 slices_Compact_int_int_15
          refine ⟨fun x3 x5 H' => x3 = 1 ∧ x5 = 1 ∧ H' = H1, fun _ _ _ => 0, ⟨rfl, rfl, rfl⟩, ?_⟩
          rintro x3 x5 H2 ⟨rfl, rfl, rfl⟩
          unfold slices_Compact_int_int_12
          refine sel_dec (fun h => absurd h (by simp)) (fun _ => ?_)
          unfold slices_Compact_int_int_5
          refine ⟨⟨by omega, by omega⟩, ?_⟩
          have e1 : (1 : Int).toNat = 1 := rfl
          rw [e1, if_neg (show ¬ c = 1 by omega)]
          have er : rep (2 - 1) [Value.int .i64 0] = [Value.int .i64 0] := rfl
          rw [er]
          unfold wrS
          simp only [Option.map_some, ptr_some, add_at]
          refine wr_new hb (by simp; omega) rfl rfl fun H3 hc3 hb3 => ⟨⟨by omega, by omega⟩, ?_⟩
          have ep : (if c = 0 then some (⟨bl, 0, none⟩ : Addr) else some (Addr.add ⟨bl, 0, none⟩ (0 * 1))) = some ⟨bl, 0, none⟩ := by
            split <;> simp [add_at]
          have hres := hk H3 ⟨by simp, by show 1 ≤ c; omega, bl, _, t, rfl, hc3, by rw [over_size]; exact hcs, fun j hj => by
            have hj0 : j = 0 := by simp at hj; omega
            subst hj0
            rw [over_get _ _ _ _ (by simp; omega), if_neg (by omega), hget 0 (by omega)]; rfl⟩ fun j hj => hb3 j fun e => hj ⟨_, rfl, e⟩
          simpa [Addr.add] using hres
      · have hba : ¬ a = b := fun e => hba (by rw [e])
        unfold slices_Compact_int_int_25 slices_Compact_int_int_3
        rw [w12]
        exact ⟨⟨rfl, .inr ⟨rfl, hba⟩⟩, by dsimp only; omega⟩
    · unfold slices_Compact_int_int_34
      refine sel_dec (fun h => absurd h (by simp)) (fun _ => ?_)
      unfold slices_Compact_int_int_1
      have e : d2 [a, b] = [a, b] := if_neg hab
      rw [e] at hk
      exact hk _ h fun _ _ => rfl
end
end Go.Proofs.Ytombjgnlpdnclaa
