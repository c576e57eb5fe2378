import Derived.Test.YtaffcoiomggpfaaVText
import Derived.IntWalk
import Derived.Laws.Append
import Derived.Test.YtaffcoiomggpfaaRows
import Derived.WalkKit
import Derived.ProofKit
import Derived.OpenShut
import Derived.JoinedCond
import Derived.Below
import Derived.ChangeSlices
import Derived.ChangeMaps5
import Derived.WideKeyArgs
import Derived.Test.YtaffcoiomggpfaaVPr
import Derived.Test.YtaffcoiomggpfaaFmill
import Derived.Test.YtaffcoiomggpfaaFregex
/- Words for contracts: views that grow, cells that are known, vectors. -/
namespace Go.V
set_option linter.constructorNameAsVariable false
set_option linter.unusedVariables false
variable {P : Program}

def Ext (H0 H : Heap) : Prop := ∀ i o, H0 i = some o → H i = some o
theorem Ext.refl (H : Heap) : Ext H H := fun _ _ h => h
theorem Ext.trans {A B C : Heap} (h : Ext A B) (g : Ext B C) : Ext A C := fun i o x => g i o (h i o x)
theorem Ext.set {H0 H : Heap} (h : Ext H0 H) {i : Nat} (hi : H0 i = none) (o : Obj) : Ext H0 (H.set i o) := fun j x hx => by
  rw [Heap.set_ne _ _ (fun e => by rw [e, hi] at hx; cases hx)]; exact h j x hx
theorem Ext.base {H0 H : Heap} (h : Ext H0 H) {i : Nat} {o : Obj} (hi : H i = some o) : Ext (H0.set i o) H := fun j x hx => by
  by_cases e : j = i
  · subst e; rw [Heap.set_self] at hx; rw [hi]; exact hx
  · rw [Heap.set_ne _ _ e] at hx; exact h j x hx
theorem Ext.of_set {H0 H : Heap} {i : Nat} {o : Obj} (hi : H0 i = none) (h : Ext (H0.set i o) H) : Ext H0 H := fun j x hx =>
  h j x (by rw [Heap.set_ne _ _ (fun e => by rw [e, hi] at hx; cases hx)]; exact hx)
theorem Ext.get {H0 H : Heap} {i : Nat} {o : Obj} (h : Ext (H0.set i o) H) : H i = some o := h i o (Heap.set_self _ _ _)
theorem Ext.free {H0 H : Heap} (h : Ext H0 H) {i : Nat} (hi : H i = none) : H0 i = none := by
  cases h0 : H0 i with
  | none => rfl
  | some o => rw [h i o h0] at hi; cases hi
theorem ne_of {H : Heap} {i j : Nat} {o : Obj} (h : H i = some o) (g : H j = none) : i ≠ j := fun e => by rw [e, g] at h; cases h

/-! Reads and writes in a block that is known. -/
theorem cell_at {H : Heap} {b o : Nat} {c : Array Value} {t : TypeId} {fr : Nat × Nat} {v : Value} (h : H b = some (.cells c t fr)) (hv : c[o]? = some v) : H.cell? ⟨b, o, none⟩ = some v := by
  simp [Heap.cell?, h, hv]
theorem add_at (b o n : Nat) : Addr.add ⟨b, o, none⟩ n = ⟨b, o + n, none⟩ := by simp [Addr.add]
theorem ldI_at {H : Heap} {b o : Nat} {c : Array Value} {t : TypeId} {fr : Nat × Nat} {k : IntKind} {n : Int} {K : Int → Prop} (h : H b = some (.cells c t fr)) (hv : c[o]? = some (.int k n)) (hk : K n) :
    ldI k ⟨b, o, none⟩ H K := ⟨n, cell_at h hv, hk⟩
theorem ldB_at {H : Heap} {b o : Nat} {c : Array Value} {t : TypeId} {fr : Nat × Nat} {n : Bool} {K : Bool → Prop} (h : H b = some (.cells c t fr)) (hv : c[o]? = some (.bool n)) (hk : K n) :
    ldB ⟨b, o, none⟩ H K := ⟨n, cell_at h hv, hk⟩
theorem ldS_at {H : Heap} {b o : Nat} {c : Array Value} {t : TypeId} {fr : Nat × Nat} {n : ByteArray} {K : ByteArray → Prop} (h : H b = some (.cells c t fr)) (hv : c[o]? = some (.string n)) (hk : K n) :
    ldS ⟨b, o, none⟩ H K := ⟨n, cell_at h hv, hk⟩
theorem ldP_at {H : Heap} {b o : Nat} {c : Array Value} {t : TypeId} {fr : Nat × Nat} {n : OA} {K : OA → Prop} (h : H b = some (.cells c t fr)) (hv : c[o]? = some (.pointer n)) (hk : K n) :
    ldP ⟨b, o, none⟩ H K := ⟨n, cell_at h hv, hk⟩
theorem ldSl_at {H : Heap} {b o : Nat} {c : Array Value} {t : TypeId} {fr : Nat × Nat} {p : OA} {l m : Nat} {K : OA → Nat → Nat → Prop} (h : H b = some (.cells c t fr))
    (hv : c[o]? = some (.slice p l m)) (hk : K p l m) : ldSl ⟨b, o, none⟩ H K := ⟨p, l, m, cell_at h hv, hk⟩
theorem wr_at {H : Heap} {b o : Nat} {c : Array Value} {t : TypeId} {vs : List Value} {K : Heap → Prop} (h : H b = some (.cells c t (0, 0))) (hs : o + vs.length ≤ c.size) (ho : vs.all oneC = true)
    (hk : K (H.set b (.cells (over c o vs) t (0, 0)))) : wr ⟨b, o, none⟩ vs H K := ⟨c, t, (0, 0), h, rfl, hs, .inr (Nat.zero_le _), ho, hk⟩
theorem rd_at {H : Heap} {b : Nat} {c : Array Value} {t : TypeId} {fr : Nat × Nat} (h : H b = some (.cells c t fr)) : ∀ (vs : List Value) (o i : Nat), (∀ j, j < vs.length → c[o + i + j]? = vs[j]?) → H.rd ⟨b, o, none⟩ i vs
  | [], _, _, _ => trivial
  | v :: vs, o, i, hv => ⟨by rw [add_at]; exact cell_at h (hv 0 (by simp)), rd_at h vs o (i + 1) fun j hj => by
      have := hv (j + 1) (by simp; omega)
      simpa [Nat.add_assoc, Nat.add_comm 1 j] using this⟩

/-! ### Vectors: a slice that owns its block -/
def blk (p : OA) (i : Nat) : Prop := ∃ a, p = some a ∧ i = a.block
def Vec (H : Heap) (sz : Nat) (p : OA) (l c : Nat) (vs : List Value) : Prop :=
  vs.length = l * sz ∧ l ≤ c ∧ match p with
  | none => c = 0
  | some a => ∃ b cs t, a = ⟨b, 0, none⟩ ∧ H b = some (.cells cs t (0, 0)) ∧ cs.size = c * sz ∧ ∀ j, j < l * sz → cs[j]? = vs[j]?
theorem Vec.nil (H : Heap) (sz : Nat) : Vec H sz none 0 0 [] := ⟨by simp, Nat.le_refl _, rfl⟩
theorem Vec.keep {H H' : Heap} {sz : Nat} {p : OA} {l c : Nat} {vs : List Value} (h : Vec H sz p l c vs) (hk : ∀ i, blk p i → H i ≠ none → H' i = H i) : Vec H' sz p l c vs := by
  obtain ⟨h1, h2, h3⟩ := h
  refine ⟨h1, h2, ?_⟩
  cases p with
  | none => exact h3
  | some a =>
    obtain ⟨b, cs, t, rfl, h4, h5⟩ := h3
    exact ⟨b, cs, t, rfl, by rw [hk b ⟨_, rfl, rfl⟩ (by simp [h4])]; exact h4, h5⟩
theorem Vec.known {H : Heap} {sz : Nat} {p : OA} {l c : Nat} {vs : List Value} (h : Vec H sz p l c vs) {i : Nat} (hi : blk p i) : H i ≠ none := by
  obtain ⟨a, rfl, rfl⟩ := hi
  obtain ⟨_, _, b, cs, t, rfl, h4, _⟩ := h
  simp [h4]
theorem Vec.rdS {H : Heap} {sz : Nat} {p : OA} {l c : Nat} {vs : List Value} (h : Vec H sz p l c vs) : H.rdS p vs := by
  obtain ⟨h1, h2, h3⟩ := h
  cases p with
  | none =>
    have : l = 0 := by omega
    subst this
    exact List.eq_nil_of_length_eq_zero (by simpa using h1)
  | some a =>
    obtain ⟨b, cs, t, rfl, h4, h5, h6⟩ := h3
    exact rd_at h4 vs 0 0 fun j hj => by simpa using h6 j (by omega)
theorem over_get : ∀ (vs : List Value) (c : Array Value) (o j : Nat), o + vs.length ≤ c.size → (over c o vs)[j]? = if o ≤ j ∧ j < o + vs.length then vs[j - o]? else c[j]?
  | [], c, o, j, h => by simp [over]; intro h1 h2; omega
  | v :: vs, c, o, j, h => by
    rw [over, over_get vs _ _ _ (by simp at h ⊢; omega)]
    simp only [List.length_cons] at h ⊢
    by_cases h1 : j = o
    · subst h1
      rw [if_neg (by omega), if_pos (by omega)]
      simp [Array.getElem?_setIfInBounds]; omega
    · by_cases h2 : o + 1 ≤ j ∧ j < o + 1 + vs.length
      · rw [if_pos h2, if_pos (by omega)]
        rw [show j - o = (j - (o + 1)) + 1 by omega]; simp
      · rw [if_neg h2, if_neg (by omega)]
        rw [Array.getElem?_setIfInBounds_ne (by omega)]
structure SlT (P : Program) (t : TypeId) (sz : Nat) : Prop where
  has : ∃ e i z, P.underlying t = some (.slice e) ∧ P.info? e = some i ∧ i.zero = some z ∧ z.cells.size = i.size ∧ i.size = sz ∧ 0 < i.bytes ∧ i.bytes ≤ 65536
theorem app_vec {t : TypeId} {sz : Nat} {p : OA} {l c n : Nat} {vs ws : List Value} {x : Value} {H : Heap} {K : OA → Nat → Nat → Heap → Prop} (ht : SlT P t sz)
    (hv : Vec H sz p l c vs) (hx : ∀ K : Nat → List Value → Prop, K n ws → srcOf sz x H K) (hws : ws.length = n * sz) (ho : ws.all oneC = true) (hcap : l + n ≤ 1048576) (hsz : 0 < sz)
    (hk : ∀ p' c' H', Vec H' sz p' (l + n) c' (vs ++ ws) → (∀ j, ¬ blk p j → H j ≠ none → H' j = H j) → (∀ j, blk p' j → blk p j ∨ H j = none) → K p' (l + n) c' H') :
    app P t p l c x H K := by
  obtain ⟨e, i, z, h1, h2, h3, h4, h5, h6, h7⟩ := ht.has
  subst h5
  unfold app tyD
  rw [h1]
  simp only [tyI, tyZ, h2, h3]
  have hb : Nat.beq z.cells.size i.size = true := by rw [h4]; exact Nat.beq_refl _
  rw [hb]
  simp only []
  refine hx _ ⟨fun hle => ?_, fun hlt => ⟨?_, h6, vs, hv.1, hv.rdS, fun c' hc' id hid => ?_⟩⟩
  · cases ws with
    | nil =>
      have hn : n = 0 := by
        rcases Nat.mul_eq_zero.1 (by simpa using hws.symm : n * i.size = 0) with h | h
        · exact h
        · omega
      subst hn
      exact hk _ _ _ (by simpa using hv) (fun j _ _ => rfl) (fun j h => .inl h)
    | cons w ws =>
      obtain ⟨v1, v2, v3⟩ := hv
      cases p with
      | none => simp only [] at v3; subst v3; simp only [List.length_cons] at hws; have : n = 0 := by omega
                subst this; simp at hws
      | some a =>
        obtain ⟨b, cs, t', rfl, h8, h9, h10⟩ := v3
        simp only [wrS, ptr_some, add_at]
        have hbd : l * i.size + (w :: ws).length ≤ cs.size := by
          rw [hws, h9, ← Nat.add_mul]; exact Nat.mul_le_mul_right _ hle
        refine wr_at h8 (by omega) ho ?_
        refine hk _ _ _ ⟨by rw [List.length_append, v1, hws, Nat.add_mul], hle, b, _, t', rfl, Heap.set_self _ _ _, by rw [over_size]; exact h9, fun j hj => ?_⟩ (fun j hj _ => Heap.set_ne _ _ fun e => hj ⟨_, rfl, e⟩) (fun j h => .inl h)
        rw [over_get _ _ _ _ (by omega)]
        by_cases hjl : j < l * i.size
        · rw [if_neg (by omega), List.getElem?_append_left (by omega)]; exact h10 j hjl
        · rw [Nat.add_mul] at hj
          rw [if_pos (by omega), List.getElem?_append_right (by omega), v1]; congr 1; omega
  · refine growslice_fits hlt ?_
    have := Nat.mul_le_mul hcap h7
    omega
  · refine hk _ _ _ ⟨by rw [List.length_append, hv.1, hws, Nat.add_mul], hc', id, _, e, rfl, Heap.set_self _ _ _, ?_, fun j hj => ?_⟩ (fun j _ hj => Heap.set_ne _ _ fun e => hj (e ▸ hid)) (fun j h => by obtain ⟨a, ha, rfl⟩ := h; cases ha; exact .inr hid)
    · have hl : ∀ (n : Nat) (zs : List Value), (rep n zs).length = n * zs.length := fun n zs => by
        induction n with
        | zero => simp [rep]
        | succ n ih => simp [rep, ih, Nat.add_mul]; omega
      simp only [List.size_toArray, List.length_append, hl, hv.1, hws, Array.length_toList, h4]
      rw [← Nat.add_mul, ← Nat.add_mul]; congr 1; omega
    · rw [List.getElem?_toArray, List.getElem?_append_left]
      simp only [List.length_append, hv.1, hws]; rw [← Nat.add_mul]; exact hj
def slB (P : Program) (t : TypeId) (sz : Nat) : Bool := match P.underlying t with
  | some (.slice e) => match P.info? e with
    | some i => match i.zero with
      | some z => Nat.beq z.cells.size i.size && Nat.beq i.size sz && Nat.blt 0 i.bytes && Nat.ble i.bytes 65536
      | none => false
    | none => false
  | _ => false
theorem SlT.of {t : TypeId} {sz : Nat} (h : slB P t sz = true) : SlT P t sz := by
  unfold slB at h
  split at h
  · rename_i e h1
    split at h
    · rename_i i h2
      split at h
      · rename_i z h3
        simp only [Bool.and_eq_true] at h
        exact ⟨e, i, z, h1, h2, h3, Nat.eq_of_beq_eq_true h.1.1.1, Nat.eq_of_beq_eq_true h.1.1.2, Nat.le_of_ble_eq_true h.1.2, Nat.le_of_ble_eq_true h.2⟩
      · cases h
    · cases h
  · cases h
theorem app_one {t : TypeId} {sz : Nat} {p : OA} {l c i m : Nat} {vs ws : List Value} {t' : TypeId} {fr : Nat × Nat} {H : Heap} {K : OA → Nat → Nat → Heap → Prop} (ht : SlT P t sz)
    (hv : Vec H sz p l c vs) (hx : H i = some (.cells ws.toArray t' fr)) (hws : ws.length = sz) (ho : ws.all oneC = true) (hcap : l < 1048576) (hsz : 0 < sz)
    (hk : ∀ p' c' H', Vec H' sz p' (l + 1) c' (vs ++ ws) → (∀ j, ¬ blk p j → H j ≠ none → H' j = H j) → (∀ j, blk p' j → blk p j ∨ H j = none) → K p' (l + 1) c' H') :
    app P t p l c (.slice (some ⟨i, 0, none⟩) 1 m) H K :=
  app_vec ht hv (fun K hK => ⟨ws, by omega, rd_at hx ws 0 0 fun j hj => by simp, hK⟩) (by omega) ho hcap hsz hk
theorem Ext.new {H : Heap} {i : Nat} (h : H i = none) (o : Obj) : Ext H (H.set i o) := (Ext.refl H).set h o
theorem Vec.ext {H H' : Heap} {sz : Nat} {p : OA} {l c : Nat} {vs : List Value} (h : Vec H sz p l c vs) (he : Ext H H') : Vec H' sz p l c vs :=
  h.keep fun i _ hi => by
    cases hh : H i with
    | none => exact absurd hh hi
    | some o => exact he i o hh
theorem nw_ext {o : Obj} {H : Heap} {K : Nat → Heap → Prop} (h : ∀ i H', H i = none → Ext H H' → H' i = some o → K i H') : nw o H K :=
  fun i hi => h i _ hi (Ext.new hi o) (Heap.set_self _ _ _)
theorem sel_mk {b : Bool} {X Y : Prop} (h1 : b = true → X) (h2 : b = false → Y) : sel b X Y := (sel_iff b X Y).2 ⟨h1, h2⟩
theorem sel_beq {x y : Int} {X Y : Prop} (h1 : x = y → X) (h2 : x ≠ y → Y) : sel (x == y) X Y := sel_mk (fun h => h1 (by simpa using h)) (fun h => h2 (by simpa using h))
theorem sel_bne {x y : Int} {X Y : Prop} (h1 : x ≠ y → X) (h2 : x = y → Y) : sel (x != y) X Y := sel_mk (fun h => h1 (by simpa using h)) (fun h => h2 (by simpa using h))
theorem sel_dec {p : Prop} [Decidable p] {X Y : Prop} (h1 : p → X) (h2 : ¬ p → Y) : sel (decide p) X Y := sel_mk (fun h => h1 (of_decide_eq_true h)) (fun h => h2 (of_decide_eq_false h))
theorem sel_tt {X Y : Prop} (h : X) : sel true X Y := h
theorem sel_ff {X Y : Prop} (h : Y) : sel false X Y := h
theorem sel_not {b : Bool} {X Y : Prop} (h1 : b = false → X) (h2 : b = true → Y) : sel (!b) X Y := sel_mk (fun h => h1 (by simpa using h)) (fun h => h2 (by simpa using h))
end Go.V

/- Rows of laws that answer true and change nothing: from a contract to the given form. -/
namespace Go.Proofs.Ytaffcoiomggpfaa.row
open Go.ChangeShapes Go.WideShapes Go.ChangeAt Go.RowKit Go.ChangeMaps
open Go.V
set_option linter.unusedVariables false

theorem run_of {f : FuncId} {args : Array Value} {w : World} (h : ∀ (Q : Value → Heap → Prop) (E : Chain → Heap → Prop), (∀ H', Ext (fun i => w.heap[i]?) H' → Q (.bool true) H') → Does Pr f args (fun i => w.heap[i]?) Q E) :
    Calls Pr f args w fun e w' => e = .returned (.bool true) ∧ Below w.heap.size w w' := by
  have hd := (h (fun v H' => v = .bool true ∧ Ext (fun i => w.heap[i]?) H') (fun _ _ => False) fun H' he => ⟨rfl, he⟩).2 w (fun i o ho => ho)
  refine Calls.mono hd fun e w' hr => ?_
  cases e with
  | returned v =>
    obtain ⟨H', hs, hk, rfl, he⟩ := hr
    refine ⟨rfl, hk.os, hk.tape, hk.output, hk.size, fun k hlt => ?_⟩
    have : w.heap[k]? = some w.heap[k] := Array.getElem?_eq_getElem hlt
    rw [this]; exact hs k _ (he k _ this)
  | panicked ch => obtain ⟨_, _, _, h⟩ := hr; exact h.elim
  | outgrown => exact hr.elim
theorem own : ownKnob Try.prog.godebug = none := by kernel_rfl
theorem laidOut : laidOutB Try.prog = true := by kernel_rfl

variable {H : Type} {enc : TypeId × Value → H} {P : Program}
theorem stays {W W' : World} {sp' : Nat → Bool} (hl : laidOutB P = true) : ∀ {ts : List TypeId} {vs : List Value} {ds : List (DataW H)} {ps : List MemPlace}, (∀ t ∈ ts, P.readableRec t = true ∧ t < P.types.size) →
    DataW.TrodAll enc P W 0 (fun _ => true) true ts vs ds ps → (∀ p ∈ ps, W.sameAt W' p) → (∀ p ∈ ps, sp' p.block = true) → DataW.TrodAll enc P W' 0 sp' true ts vs ds ps
  | [], [], [], _, _, h, _, _ => h
  | t :: ts, v :: vs, d :: ds, _, ht, ⟨p, q, h1, h2, e⟩, hs, hp => by
    subst e
    exact ⟨p, q, WideElems.Trod_stays hl (ht t (by simp)).1 (ht t (by simp)).2 h1 (fun x hx => hs x (by simp [hx])) (fun x hx => hp x (by simp [hx])),
      stays hl (fun u hu => ht u (by simp [hu])) h2 (fun x hx => hs x (by simp [hx])) (fun x hx => hp x (by simp [hx])), rfl⟩
theorem post_true {f : Func} {s : ChangeSpec} {W W' : World} {args : Array Value} {ds gs : List (DataW H)} {before : List MemPlace} (hl : laidOutB P = true) (hs : s.vars = [])
    (hr : ∀ t ∈ f.params.toList, P.readableRec t = true ∧ t < P.types.size) (hrt : f.resultTypes = #[4]) (h4 : P.underlying 4 = some .bool)
    (hW : DataW.Whole enc P f.params.toList s.vars false W args.toList ds gs before) (hfn : s.fn H (ds ++ gs) = { results := [.lit (.bool true)], args := ds }) (hB : Below W.heap.size W W') :
    s.post enc P f false true false false W args (.bool true) W' := by
  have hW' := hW
  obtain ⟨p, q, hA, hV, rfl, hfz, hnd⟩ := hW
  rw [hs] at hV
  obtain ⟨rfl, rfl⟩ := trodVars_none hV
  have hlt : ∀ x ∈ p, x.block < W.heap.size := fun x hx => hW'.lt x (List.mem_append_left _ hx)
  have ha : ∀ sp : Nat → Bool, (∀ x ∈ p, sp x.block = true) → DataW.TrodAll enc P W' 0 sp true f.params.toList args.toList (s.fn H (ds ++ [])).args p := fun sp hsp => by
    rw [hfn]; exact stays hl hr hA (fun x hx => hB.same (hlt x hx)) hsp
  have hv : ∀ sp : Nat → Bool, DataW.TrodVars enc P W' sp s.vars (s.fn H (ds ++ [])).vars [] := fun sp => by rw [hs, hfn]; rfl
  have hres : ∀ (b : Nat) (sp : Nat → Bool) (hd : Bool), DataW.TrodAll enc P W' b sp hd f.resultTypes.toList ((Value.bool true).resultList f.resultTypes.size) (s.fn H (ds ++ [])).results [] := fun b sp hd => by
    rw [hrt, hfn]; exact trodAll_cons_mk (shut_bool h4 _) trodAll_mk0
  refine ⟨ds, [], p ++ [], [], p, [], hW', hres _ _ _, ha _ (fun x hx => by simpa using hlt x hx), hv _, World.keptBut_mono (fun x hx => ⟨hx, .inr (by simpa using hx)⟩) (hB.frame _), fun _ => ?_⟩
  refine ⟨ok_one (by rw [hrt]) rfl (okWide_bool_mk h4 _), _, _, ([] ++ p) ++ [], ⟨[] ++ p, [], trodAll_append (ha _ (fun _ _ => rfl)) (hres _ _ _), hv _, rfl, ?_, ?_⟩, ?_⟩
  · intro b off hp
    have hx : MemPlace.cell b off ∈ p := by simpa using hp
    have hb : b < W.heap.size := hlt _ hx
    have := hfz b off (by simpa using hx)
    simpa [World.frozen?, hB.block b hb] using this
  · intro ha; cases ha
  · intro x hx _; simpa using hx
end Go.Proofs.Ytaffcoiomggpfaa.row

/- Byte sets: four numbers, as the program has them. -/
namespace Go.V
set_option linter.constructorNameAsVariable false
set_option linter.unusedVariables false

structure S4 where
  a : Int
  b : Int
  c : Int
  d : Int
  deriving DecidableEq, Inhabited
namespace S4
def cells (s : S4) : Array Value := #[.int .u64 s.a, .int .u64 s.b, .int .u64 s.c, .int .u64 s.d]
def zero : S4 := ⟨0, 0, 0, 0⟩
def get (s : S4) : Nat → Int
  | 0 => s.a
  | 1 => s.b
  | 2 => s.c
  | _ => s.d
def put (s : S4) (k : Nat) (v : Int) : S4 := match k with
  | 0 => { s with a := v }
  | 1 => { s with b := v }
  | 2 => { s with c := v }
  | _ => { s with d := v }
theorem cells_get (s : S4) {k : Nat} (h : k < 4) : s.cells[k]? = some (.int .u64 (s.get k)) := by
  match k, h with
  | 0, _ => rfl
  | 1, _ => rfl
  | 2, _ => rfl
  | 3, _ => rfl
theorem cells_put (s : S4) {k : Nat} (h : k < 4) (v : Int) : over s.cells k [.int .u64 v] = (s.put k v).cells := by
  match k, h with
  | 0, _ => rfl
  | 1, _ => rfl
  | 2, _ => rfl
  | 3, _ => rfl
def or64 (x y : Int) : Int := IntKind.wrap .u64 (BitVec.ofInt (IntKind.bits .u64) x ||| BitVec.ofInt (IntKind.bits .u64) y).toNat
def not64 (x : Int) : Int := IntKind.wrap .u64 (BitVec.ofInt (IntKind.bits .u64) (if IntKind.signed .u64 then -1 else IntKind.max .u64) ^^^ BitVec.ofInt (IntKind.bits .u64) x).toNat
def bit (j : Nat) : Int := IntKind.wrap .u64 (1 * 2 ^ min j (IntKind.bits .u64))
def with1 (s : S4) (x : Nat) : S4 := s.put (x / 64) (or64 (s.get (x / 64)) (bit (x % 64)))
def withN (s : S4) (lo : Nat) : Nat → S4
  | 0 => s
  | n + 1 => (withN s lo n).with1 (lo + n)
def with_ (s : S4) (lo hi : Nat) : S4 := withN s lo (hi + 1 - lo)
def not (s : S4) : S4 := ⟨not64 s.a, not64 s.b, not64 s.c, not64 s.d⟩
def or (s t : S4) : S4 := ⟨or64 s.a t.a, or64 s.b t.b, or64 s.c t.c, or64 s.d t.d⟩
end S4
theorem S4.rd {H : Heap} {i : Nat} {s : S4} {t : TypeId} {fr : Nat × Nat} (h : H i = some (.cells s.cells t fr)) : H.rd ⟨i, 0, none⟩ 0 [.int .u64 s.a, .int .u64 s.b, .int .u64 s.c, .int .u64 s.d] :=
  rd_at h _ 0 0 fun j hj => by simp [S4.cells]
def byteAt (s : ByteArray) (i : Nat) : Nat := (s.data.getD i 0).toNat
theorem byteAt_le (s : ByteArray) (i : Nat) : byteAt s i ≤ 255 := by have := (s.data.getD i 0).toNat_lt; unfold byteAt; omega
theorem sAt_nat (s : ByteArray) (i : Nat) : sAt s (i : Int) = (byteAt s i : Nat) := rfl
namespace S4
def notN (s : S4) : Nat → S4
  | 0 => s
  | n + 1 => (notN s n).put n (not64 ((notN s n).get n))
def orN (s t : S4) : Nat → S4
  | 0 => s
  | n + 1 => (orN s t n).put n (or64 ((orN s t n).get n) (t.get n))
end S4
theorem S4.wr {H : Heap} {i : Nat} {s : S4} (t : S4) {ty : TypeId} {K : Heap → Prop} (h : H i = some (.cells s.cells ty (0, 0))) (hk : K (H.set i (.cells t.cells ty (0, 0)))) :
    wr ⟨i, 0, none⟩ [.int .u64 t.a, .int .u64 t.b, .int .u64 t.c, .int .u64 t.d] H K := wr_at h (by simp [S4.cells]) rfl hk
end Go.V

/- Contracts of package jobmuxmill: the deck of numbers. -/
namespace Go.Proofs.Ytaffcoiomggpfaa
open Go.V
attribute [local irreducible] app
set_option linter.constructorNameAsVariable false
set_option linter.unusedVariables false

theorem cell_ext {H H' : Heap} (he : Ext H H') {a : Addr} {v : Value} (h : H.cell? a = some v) : H'.cell? a = some v := by
  unfold Heap.cell? at *
  cases hb : H a.block with
  | none => rw [hb] at h; cases h
  | some o => rw [he _ _ hb]; rw [hb] at h; exact h
theorem rd_ext {H H' : Heap} (he : Ext H H') {a : Addr} : ∀ {vs : List Value} {i : Nat}, H.rd a i vs → H'.rd a i vs
  | [], _, _ => trivial
  | v :: vs, i, h => ⟨cell_ext he h.1, rd_ext he h.2⟩
theorem rdS_ext {H H' : Heap} (he : Ext H H') {p : OA} {vs : List Value} (h : H.rdS p vs) : H'.rdS p vs := by
  cases p with
  | none => exact h
  | some a => exact rd_ext he h
theorem rd_get {H : Heap} {a : Addr} : ∀ {vs : List Value} {i j : Nat} {v : Value}, H.rd a i vs → vs[j]? = some v → H.cell? (a.add (i + j)) = some v
  | [], _, _, _, _, h => by simp at h
  | v :: vs, i, 0, w, h, hv => by simp at hv; subst hv; exact h.1
  | v :: vs, i, j + 1, w, h, hv => by
    have := rd_get h.2 (j := j) (v := w) (by simpa using hv)
    rw [show i + (j + 1) = i + 1 + j by omega]; exact this
def Ints (H : Heap) (p : OA) (n : Nat) (xs : List Int) : Prop := xs.length = n ∧ n ≤ 1048576 ∧ H.rdS p (xs.map (Value.int .i64))
theorem Ints.ext {H H' : Heap} {p : OA} {n : Nat} {xs : List Int} (h : Ints H p n xs) (he : Ext H H') : Ints H' p n xs := ⟨h.1, h.2.1, rdS_ext he h.2.2⟩
def Deck (H0 H : Heap) (d : Nat) (xs : List Int) (k : Nat) : Prop := Ext H0 H ∧ H0 d = none ∧ k ≤ xs.length ∧ ∃ p n c t, Ints H0 p n xs ∧ H d = some (.cells #[.slice p n c, .int .i64 (k : Nat)] t (0, 0))
theorem Deck.ext {H0 H H' : Heap} {d : Nat} {xs : List Int} {k : Nat} (h : Deck H0 H d xs k) (he : Ext H H') : Deck H0 H' d xs k := by
  obtain ⟨h1, h2, h3, p, n, c, t, h4, h5⟩ := h
  exact ⟨h1.trans he, h2, h3, p, n, c, t, h4, he _ _ h5⟩
def modOf (a b : Int) : Int := if Int.tmod a b < 0 then IntKind.wrap .i64 (Int.tmod a b + b) else Int.tmod a b
theorem Mod_c {H : Heap} {a b : Int} {Q : QT} {E : ET} (hb : b ≠ 0) (hk : Q (.int .i64 (modOf a b)) H) : Does Pr 22 #[.int .i64 a, .int .i64 b] H Q E := by
  refine zqi1_fn _ _ Q E H ?_
  unfold zqi1 zqi1_6 zqi1_3 zqi1_1
  refine ⟨hb, sel_dec (fun h => ?_) (fun h => ?_)⟩
  · unfold modOf at hk; rw [if_pos h] at hk; exact hk
  · unfold modOf at hk; rw [if_neg h] at hk; exact hk
theorem modOf_bounds {a : Int} {n : Nat} (hn : 0 < n) (hn2 : n ≤ 1048576) : 0 ≤ modOf a n ∧ modOf a n < n := by
  have h1 : Int.tmod a n < n := Int.tmod_lt_of_pos a (by omega)
  have h2 : -(n : Int) < Int.tmod a n := by
    have h : (Int.tmod a n).natAbs < n := by
      rw [Int.natAbs_tmod]; simpa using Nat.mod_lt _ hn
    omega
  unfold modOf
  split
  · rw [IntWalk.i64_in _ (by omega)]; omega
  · omega
end Go.Proofs.Ytaffcoiomggpfaa

/- Opening arguments: what the form reads of them, over a heap view. -/
namespace Go.Proofs.Ytaffcoiomggpfaa.row
open Go.ChangeShapes Go.WideShapes Go.ChangeAt Go.RowKit Go.ChangeMaps
open Go.V
set_option linter.unusedVariables false
variable {H : Type} {enc : TypeId × Value → H} {P : Program}

theorem one_le {H : Type} (d : DataW H) : 1 ≤ Rows.uptoBulk d := by
  cases d with
  | lit l => cases l <;> simp [Rows.uptoBulk]
  | nil => simp [Rows.uptoBulk]
  | ptr d => simp [Rows.uptoBulk]
  | slice elems spare => simp [Rows.uptoBulk]
  | agg parts => simp [Rows.uptoBulk]
  | iface t d => simp [Rows.uptoBulk]
  | map entries => simp [Rows.uptoBulk]
  | held h => simp [Rows.uptoBulk]
theorem part_le {H : Type} {d : DataW H} {l : List (DataW H)} (h : d ∈ l) : Rows.uptoBulk d ≤ Rows.uptoBulkAll l := by
  induction l with
  | nil => cases h
  | cons x r ih =>
    simp only [Rows.uptoBulkAll]
    cases List.mem_cons.1 h with
    | inl e => subst e; omega
    | inr e => have := ih e; omega
theorem length_le {H : Type} (l : List (DataW H)) : l.length ≤ Rows.uptoBulkAll l := by
  induction l with
  | nil => simp [Rows.uptoBulkAll]
  | cons x r ih => have := one_le x; simp only [Rows.uptoBulkAll, List.length_cons]; omega
theorem slice_le {H : Type} (elems spare : List (DataW H)) : elems.length + spare.length + 1 ≤ Rows.uptoBulk (.slice elems spare) := by
  have h1 := length_le elems
  have h2 := length_le spare
  simp only [Rows.uptoBulk]
  omega
theorem bound {H : Type} {l : List (DataW H)} (hk : Rows.uptoSmall H l = true) : Rows.uptoBulkAll l ≤ 1048576 := of_decide_eq_true hk

theorem cell_view {w : World} {b o : Nat} {v : Value} (h : w.cell? ⟨b, o, none⟩ = some v) : Heap.cell? (fun i => w.heap[i]?) ⟨b, o, none⟩ = some v := by
  unfold World.cell? at h
  unfold Heap.cell?
  dsimp only at h ⊢
  revert h
  generalize w.heap[b]? = y
  cases y with
  | none => simp
  | some x => cases x <;> simp
theorem rd_of {H : Heap} {b : Nat} : ∀ (vs : List Value) (o i : Nat), (∀ j, j < vs.length → ∃ v, vs[j]? = some v ∧ H.cell? ⟨b, o + i + j, none⟩ = some v) → H.rd ⟨b, o, none⟩ i vs
  | [], _, _, _ => trivial
  | v :: vs, o, i, hv => ⟨by
      rw [add_at]
      obtain ⟨v', h1, h2⟩ := hv 0 (by simp)
      simp at h1; subst h1; exact h2, rd_of vs o (i + 1) fun j hj => by
      obtain ⟨v', h1, h2⟩ := hv (j + 1) (by simp; omega)
      exact ⟨v', by simpa using h1, by rw [← h2]; congr 2; omega⟩⟩
theorem ints_open {k : IntKind} {e t : TypeId} {W : World} {v : Value} {d : DataW H} {p : List MemPlace} {ds : List (DataW H)} (ht : P.underlying t = some (.slice e)) (he : P.underlying e = some (.int k)) (hc : P.cellsOf e = 1)
    {base : Nat} (hok : Value.okWide P W .any base t v) (h : DataW.Trod enc P W 0 (fun _ => true) true t v d p) (hk : Rows.uptoSmall H ds = true) (hd : d ∈ ds) :
    ∃ q n c, v = .slice q n c ∧ n ≤ c ∧ c ≤ 1048576 ∧ ∃ xs : List Int, xs.length = n ∧ Heap.rdS (fun i => W.heap[i]?) q (xs.map (Value.int k)) ∧ ∀ x ∈ xs, (Lit.int k x).wf = true := by
  obtain ⟨fuel, h⟩ := h
  obtain ⟨a0, l0, c0, rfl⟩ := okWide_slice ht hok
  have hb := Nat.le_trans (part_le hd) (bound hk)
  rcases open_ints ht he hc h with ⟨h1, h2⟩ | ⟨a, len, cap, zs, h1, h2, h3, h4, h5, h6, h7, h8⟩
  · simp [Value.cells] at h1
    obtain ⟨rfl, rfl, rfl⟩ := h1
    exact ⟨none, 0, 0, rfl, by omega, by omega, [], rfl, rfl, by simp⟩
  · simp [Value.cells] at h1
    obtain ⟨ha, hb1, hc1⟩ := h1
    subst hb1 hc1 ha
    simp at h5
    have hd' : d = .slice (lits k (zs.take l0)) (lits k (zs.drop l0)) := congrArg (·.1) h6
    rw [hd'] at hb
    have := slice_le (H := H) (lits k (zs.take l0)) (lits k (zs.drop l0))
    have hl1 : ∀ l : List Int, (lits (H := H) k l).length = l.length := fun l => by simp [lits]
    rw [hl1, hl1, List.length_take, List.length_drop] at this
    refine ⟨some a, _, _, rfl, h3, by omega, zs.take l0, by simp; omega, ?_, fun x hx => h8 x (List.mem_of_mem_take hx)⟩
    by_cases hl : zs.length = 0
    · have : zs = [] := List.eq_nil_of_length_eq_zero hl
      subst this
      simp only [List.take_nil, List.map_nil]
      trivial
    · obtain ⟨b, off, rfl, hcell⟩ := ints_at h7 (by omega)
      refine rd_of _ off 0 fun j hj => ?_
      simp at hj
      have hj1 : j < l0 := by omega
      have hj2 : j < zs.length := by omega
      refine ⟨.int k (zs.getD j 0), by simp [hj1, List.getD_eq_getElem?_getD, List.getElem?_eq_getElem hj2], ?_⟩
      rw [Nat.add_zero]
      exact cell_view (hcell j hj2)
end Go.Proofs.Ytaffcoiomggpfaa.row

/- Bytes that are only read. -/
namespace Go.Proofs.Ytaffcoiomggpfaa
open Go.V
attribute [local irreducible] app
set_option linter.constructorNameAsVariable false
set_option linter.unusedVariables false

def Byt (H : Heap) (p : OA) (n c : Nat) (bs : List UInt8) : Prop := bs.length = n ∧ n ≤ c ∧ H.rdS p (bs.map byteV)
theorem Byt.ext {H H' : Heap} {p : OA} {n c : Nat} {bs : List UInt8} (h : Byt H p n c bs) (he : Ext H H') : Byt H' p n c bs := ⟨h.1, h.2.1, rdS_ext he h.2.2⟩
theorem add_add (a : Addr) (i j : Nat) : (a.add i).add j = a.add (i + j) := by
  unfold Addr.add
  by_cases hi : i = 0
  · subst hi; simp
  · by_cases hj : j = 0
    · subst hj; simp [hi]
    · simp [hi, hj, Nat.add_assoc]
theorem rd_from {H : Heap} {a : Addr} (k : Nat) : ∀ (vs : List Value) (i : Nat), H.rd a (k + i) vs → H.rd (a.add k) i vs
  | [], _, _ => trivial
  | v :: vs, i, h => ⟨by rw [add_add]; exact h.1, rd_from k vs (i + 1) (by have := h.2; rw [Nat.add_assoc] at this; exact this)⟩
theorem rd_skip {H : Heap} {a : Addr} : ∀ (k : Nat) (vs : List Value) (i : Nat), H.rd a i vs → H.rd a (i + k) (vs.drop k)
  | 0, vs, i, h => by simpa using h
  | k + 1, [], i, h => by simp; trivial
  | k + 1, v :: vs, i, h => by
    have := rd_skip k vs (i + 1) h.2
    rw [List.drop_succ_cons, show i + (k + 1) = i + 1 + k by omega]; exact this
theorem Byt.from {H : Heap} {p : OA} {n c : Nat} {bs : List UInt8} (h : Byt H p n c bs) (k : Nat) (hk : k ≤ n) :
    Byt H (if c = k then p else Option.map (fun a => Addr.add a (k * 1)) p) (n - k) (c - k) (bs.drop k) := by
  obtain ⟨h1, h2, h3⟩ := h
  refine ⟨by rw [List.length_drop, h1], by omega, ?_⟩
  split
  · have : bs.drop k = [] := List.drop_eq_nil_of_le (by omega)
    rw [this]
    cases p with
    | none => rfl
    | some a => trivial
  · cases p with
    | none =>
      have : bs.map byteV = [] := h3
      simp at this; subst this
      simp; rfl
    | some a =>
      have h3 : H.rd a 0 (bs.map byteV) := h3
      have := rd_skip k _ 0 h3
      rw [Nat.zero_add, ← List.map_drop] at this
      simp only [Option.map_some, Nat.mul_one]
      exact rd_from k _ 0 (by simpa using this)
def beside (H0 H H' : Heap) : Heap := fun j => match H0 j, H j with
  | none, some _ => none
  | _, _ => H' j
theorem beside_some {H0 H H' : Heap} {j : Nat} (h : H0 j ≠ none) : beside H0 H H' j = H' j := by
  unfold beside
  cases h0 : H0 j with
  | none => exact absurd h0 h
  | some o => rfl
theorem beside_free {H0 H H' : Heap} {j : Nat} (h : H j = none) : beside H0 H H' j = H' j := by
  unfold beside
  cases h0 : H0 j <;> simp [h]
theorem beside_priv {H0 H H' : Heap} {j : Nat} (h0 : H0 j = none) (h : H j ≠ none) : beside H0 H H' j = none := by
  unfold beside
  cases hh : H j with
  | none => exact absurd hh h
  | some o => simp [h0]
theorem beside_ext (H0 H H' : Heap) : Ext (beside H0 H H') H' := fun j o hj => by
  unfold beside at hj
  cases h0 : H0 j with
  | none =>
    cases h : H j with
    | none => simp [h0, h] at hj; exact hj
    | some x => simp [h0, h] at hj
  | some x => simp [h0] at hj; exact hj
end Go.Proofs.Ytaffcoiomggpfaa

/- Opening arguments: bytes. -/
namespace Go.Proofs.Ytaffcoiomggpfaa.row
open Go.ChangeShapes Go.WideShapes Go.ChangeAt Go.RowKit Go.ChangeMaps
open Go.V
set_option linter.unusedVariables false
variable {H : Type} {enc : TypeId × Value → H} {P : Program}
theorem byte_back {x : Int} (h : (Lit.int .u8 x).wf = true) : byteV (UInt8.ofNat x.toNat) = Value.int .u8 x := by
  have hb : 0 ≤ x ∧ x ≤ 255 := by
    simp only [Lit.wf, Bool.and_eq_true, decide_eq_true_eq] at h
    simpa [IntKind.min, IntKind.max, IntKind.signed, IntKind.bits] using h
  unfold byteV
  congr 1
  rw [UInt8.toNat_ofNat']
  omega
theorem Byt_open {t e : TypeId} {W : World} {v : Value} {d : DataW H} {p : List MemPlace} {ds : List (DataW H)} (ht : P.underlying t = some (.slice e)) (he : P.underlying e = some (.int .u8)) (hc : P.cellsOf e = 1)
    {base : Nat} (hok : Value.okWide P W .any base t v) (h : DataW.Trod enc P W 0 (fun _ => true) true t v d p) (hk : Rows.uptoSmall H ds = true) (hd : d ∈ ds) :
    ∃ q n c bs, v = .slice q n c ∧ n ≤ 1048576 ∧ Byt (fun i => W.heap[i]?) q n c bs := by
  obtain ⟨q, n, c, h1, h2, h3, xs, h4, h5, h6⟩ := ints_open (k := .u8) ht he hc hok h hk hd
  refine ⟨q, n, c, xs.map fun x => UInt8.ofNat x.toNat, h1, by omega, by simpa using h4, h2, ?_⟩
  have : (xs.map fun x => UInt8.ofNat x.toNat).map byteV = xs.map (Value.int .u8) := by
    rw [List.map_map]
    exact List.map_congr_left fun x hx => byte_back (h6 x hx)
  rw [this]; exact h5
end Go.Proofs.Ytaffcoiomggpfaa.row

/- Nodes of a pattern, small words. -/
namespace Go.Proofs.Ytaffcoiomggpfaa
open Go.V
attribute [local irreducible] app
set_option linter.constructorNameAsVariable false
set_option linter.unusedVariables false

theorem sl23 : SlT Pr 23 7 := .of (by kernel_rfl)

structure Nd where
  k : Int
  l : Int
  r : Int
  a : Int
  b : Int
  c : Int
  d : Int
  deriving DecidableEq, Inhabited
def Nd.cells (x : Nd) : List Value := [.int .i64 x.k, .int .i64 x.l, .int .i64 x.r, .int .u64 x.a, .int .u64 x.b, .int .u64 x.c, .int .u64 x.d]
def flat (l : List Nd) : List Value := l.flatMap Nd.cells
theorem flat_length (l : List Nd) : (flat l).length = l.length * 7 := by
  induction l with
  | nil => rfl
  | cons x l ih => simp [flat, Nd.cells] at ih ⊢; omega
def atOf (b : Nat) (H : Heap) : Nat := match H b with
  | some (Obj.cells c _ _) => match c[1]? with
    | some (Value.int _ n) => n.toNat
    | _ => 0
  | _ => 0
def cs (s : S4) : Obj := .cells s.cells 46 (0, 0)
def signOf (c : Nat) : Nat := if c = 42 then 5 else if c = 43 then 6 else if c = 63 then 7 else 0
theorem getD_app_left (a b : List Int) (i : Nat) (h : i < a.length) : (a ++ b).getD i 0 = a.getD i 0 := by
  rw [List.getD_eq_getElem?_getD, List.getD_eq_getElem?_getD, List.getElem?_append_left h]
theorem getD_app_right (a b : List Int) (i : Nat) (h : a.length ≤ i) : (a ++ b).getD i 0 = b.getD (i - a.length) 0 := by
  rw [List.getD_eq_getElem?_getD, List.getD_eq_getElem?_getD, List.getElem?_append_right h]
def kids2 (k : Int) : Int := if k = 3 ∨ k = 4 then 2 else if k = 5 ∨ k = 6 ∨ k = 7 then 1 else 0
theorem sl24 : SlT Pr 24 1 := .of (by kernel_rfl)
theorem wr_new {H : Heap} {b o : Nat} {c c' : Array Value} {t : TypeId} {vs : List Value} {K : Heap → Prop} (h : H b = some (.cells c t (0, 0))) (hs : o + vs.length ≤ c.size) (ho : vs.all oneC = true) (hc : over c o vs = c')
    (hk : ∀ H', H' b = some (.cells c' t (0, 0)) → (∀ j, j ≠ b → H' j = H j) → K H') : wr ⟨b, o, none⟩ vs H K :=
  wr_at h hs ho (hk _ (by rw [Heap.set_self, hc]) fun j hj => Heap.set_ne _ _ hj)
theorem ext_but {A B C : Heap} {m : Nat} (he : Ext A B) (hm : A m = none) (hb : ∀ j, j ≠ m → C j = B j) : Ext A C := fun j o hj => by
  rw [hb j (fun e => by rw [e, hm] at hj; cases hj)]; exact he j o hj
theorem flat_snoc (l : List Nd) (x : Nd) : flat l ++ x.cells = flat (l ++ [x]) := by simp [flat]
theorem u8_nat (n : Nat) (h : n ≤ 255) : IntKind.wrap .u8 (n : Int) = (n : Nat) := IntWalk.u8_in _ ⟨by omega, by omega⟩
def _root_.Go.V.S4.has (s : S4) (b : Nat) : Bool :=
  (IntKind.wrap .u64 (BitVec.ofInt (IntKind.bits .u64) (Int.fdiv (s.get (b / 64)) (2 ^ min (b % 64) (IntKind.bits .u64))) &&& BitVec.ofInt (IntKind.bits .u64) 1).toNat : Int) == 1
end Go.Proofs.Ytaffcoiomggpfaa

/- Contracts of regex.Kids and regex.Valid. -/
namespace Go.Proofs.Ytaffcoiomggpfaa
open Go.V
attribute [local irreducible] app
set_option linter.constructorNameAsVariable false
set_option linter.unusedVariables false

def kidsOf (k : Int) : Int := if k = 1 ∨ k = 2 ∨ k = 8 ∨ k = 9 then 0 else if k = 5 ∨ k = 6 ∨ k = 7 then 1 else if k = 3 ∨ k = 4 then 2 else -1
theorem Kids_c {H : Heap} {k : Int} {Q : QT} {E : ET} (hk : Q (.int .i64 (kidsOf k)) H) : Does Pr 74 #[.int .i64 k] H Q E := by
  refine zqu_fn _ Q E H ?_
  unfold zqu zqu_23 zqu_19 zqu_17
  have k0 : (k = 1 ∨ k = 2 ∨ k = 8 ∨ k = 9) → zqu_3 Q E H := fun h => by
    unfold zqu_3; unfold kidsOf at hk; rw [if_pos h] at hk; exact hk
  have k1 : ¬ (k = 1 ∨ k = 2 ∨ k = 8 ∨ k = 9) → (k = 5 ∨ k = 6 ∨ k = 7) → zqu_5 Q E H := fun h h' => by
    unfold zqu_5; unfold kidsOf at hk; rw [if_neg h, if_pos h'] at hk; exact hk
  have k2 : ¬ (k = 1 ∨ k = 2 ∨ k = 8 ∨ k = 9) → ¬ (k = 5 ∨ k = 6 ∨ k = 7) → (k = 3 ∨ k = 4) → Q (.int .i64 2) H := fun h h' h'' => by
    unfold kidsOf at hk; rw [if_neg h, if_neg h', if_pos h''] at hk; exact hk
  have k3 : ¬ (k = 1 ∨ k = 2 ∨ k = 8 ∨ k = 9) → ¬ (k = 5 ∨ k = 6 ∨ k = 7) → ¬ (k = 3 ∨ k = 4) → zqu_1 Q E H := fun h h' h'' => by
    unfold zqu_1; unfold kidsOf at hk; rw [if_neg h, if_neg h', if_neg h''] at hk; exact hk
  unfold zqu_14 zqu_12 zqu_9 zqu_7
  repeat' (refine sel_beq (fun _ => ?_) (fun _ => ?_))
  all_goals first | exact k0 (by omega) | exact k1 (by omega) (by omega) | exact k2 (by omega) (by omega) (by omega) | exact k3 (by omega) (by omega) (by omega) | (exfalso; omega)
def vstep (sz : List Int) (x : Nd) : Option (List Int) :=
  let i : Int := sz.length
  if x.k ≠ 2 ∧ ¬ (x.a = 0 ∧ x.b = 0 ∧ x.c = 0 ∧ x.d = 0) then none else
  if kidsOf x.k = 0 then (if x.l = 0 ∧ x.r = 0 then some (sz ++ [1]) else none)
  else if kidsOf x.k = 2 then
    if i - 1 < 0 then none else
    let s1 := 1 + sz.getD (i - 1).toNat 0
    if i - s1 < 0 then none else
    if x.l = i - s1 ∧ x.r = i - 1 then some (sz ++ [s1 + sz.getD (i - s1).toNat 0]) else none
  else if kidsOf x.k = 1 then
    if i - 1 < 0 then none else
    if x.l = i - 1 ∧ x.r = 0 then some (sz ++ [1 + sz.getD (i - 1).toNat 0]) else none
  else none
def vsteps : List Int → List Nd → Option (List Int)
  | sz, [] => some sz
  | sz, x :: l => match vstep sz x with
    | none => none
    | some sz' => vsteps sz' l
def validOf (l : List Nd) : Bool := match l with
  | [] => false
  | _ => if 256 < l.length then false else match vsteps [] l with
    | none => false
    | some sz => decide (sz.getD (l.length - 1) 0 = l.length)
def szc (n : Nat) (sz : List Int) : Array Value := (sz.map (Value.int .i64) ++ List.replicate (n - sz.length) (Value.int .i64 0)).toArray
theorem szc_size {n : Nat} {sz : List Int} (h : sz.length ≤ n) : (szc n sz).size = n := by simp [szc]; omega
theorem szc_get {n : Nat} {sz : List Int} {j : Nat} (h : j < sz.length) : (szc n sz)[j]? = some (Value.int .i64 (sz.getD j 0)) := by
  simp [szc, List.getElem?_append_left, h]
theorem szc_push {n : Nat} {sz : List Int} (h : sz.length < n) (v : Int) : over (szc n sz) sz.length [Value.int .i64 v] = szc n (sz ++ [v]) := by
  apply Array.ext
  · simp [over, szc]; omega
  · intro j h1 h2
    have e : ∀ (a b : Array Value) (g1 : j < a.size) (g2 : j < b.size), a[j]? = b[j]? → a[j] = b[j] := fun a b g1 g2 h => by simpa [g1, g2] using h
    refine e _ _ h1 h2 ?_
    rw [over_get _ _ _ _ (by rw [szc_size (by omega)]; simp; omega)]
    by_cases hj : sz.length ≤ j ∧ j < sz.length + 1
    · have : j = sz.length := by omega
      subst this
      rw [if_pos (by simp), szc_get (by simp)]; simp
    · rw [if_neg (by simpa using hj)]
      simp only [szc, List.getElem?_toArray, List.map_append, List.map_cons, List.map_nil]
      by_cases hl : j < sz.length
      · rw [List.getElem?_append_left (by simpa using hl), List.getElem?_append_left (by simp; omega), List.getElem?_append_left (by simpa using hl)]
      · rw [List.getElem?_append_right (by simp; omega), List.getElem?_append_right (by simp; omega)]
        simp only [List.length_append, List.length_map, List.length_cons, List.length_nil]
        rw [List.getElem?_replicate, List.getElem?_replicate]
        have : (j - sz.length < n - sz.length) ↔ (j - (sz.length + (0 + 1)) < n - (sz.length + (0 + 1))) := by omega
        simp only [this]
theorem szc_again {n : Nat} {sz : List Int} (h : sz.length < n) (a v : Int) : over (szc n (sz ++ [a])) sz.length [Value.int .i64 v] = szc n (sz ++ [v]) := by
  rw [← szc_push h a, ← szc_push h v]
  have hs : sz.length < (szc n sz).size := by rw [szc_size (by omega)]; exact h
  simp [over, Array.setIfInBounds, hs]
theorem flat_get {l : List Nd} {i j : Nat} {x : Nd} (h : l[i]? = some x) (hj : j < 7) : (flat l)[i * 7 + j]? = x.cells[j]? := by
  induction l generalizing i with
  | nil => simp at h
  | cons y l ih =>
    cases i with
    | zero =>
      simp only [List.getElem?_cons_zero, Option.some.injEq] at h
      subst h
      simp only [flat, List.flatMap_cons]
      rw [List.getElem?_append_left (by simp [Nd.cells]; omega)]; simp
    | succ i =>
      simp only [List.getElem?_cons_succ] at h
      have := ih h
      simp only [flat, List.flatMap_cons] at this ⊢
      rw [List.getElem?_append_right (by simp [Nd.cells]; omega)]
      rw [← this]; congr 1; simp [Nd.cells]; omega
theorem rep_zeros (n : Nat) : rep n [Value.int .i64 0] = List.replicate n (Value.int .i64 0) := by
  induction n with
  | zero => rfl
  | succ n ih => simp [rep, ih, List.replicate_succ]
def VI (sz : List Int) : Prop := ∀ j, j < sz.length → 1 ≤ sz.getD j 0 ∧ sz.getD j 0 ≤ j + 1
theorem VI.push {sz : List Int} {v : Int} (h : VI sz) (h1 : 1 ≤ v) (h2 : v ≤ sz.length + 1) : VI (sz ++ [v]) := fun j hj => by
  by_cases e : j < sz.length
  · have := h j e
    simpa [List.getD_eq_getElem?_getD, List.getElem?_append_left e] using this
  · have : j = sz.length := by simp at hj; omega
    subst this
    simp [List.getD_eq_getElem?_getD]; omega
theorem vstep_ok {sz sz' : List Int} {x : Nd} (h : VI sz) (hs : vstep sz x = some sz') : VI sz' ∧ sz'.length = sz.length + 1 := by
  unfold vstep at hs
  simp only [] at hs
  split at hs
  · cases hs
  split at hs
  · split at hs
    · cases hs; exact ⟨h.push (by omega) (by omega), by simp⟩
    · cases hs
  split at hs
  · split at hs
    · cases hs
    split at hs
    · cases hs
    split at hs
    · cases hs
      have h1 := h ((sz.length : Int) - 1).toNat (by omega)
      have h2 := h ((sz.length : Int) - (1 + sz.getD ((sz.length : Int) - 1).toNat 0)).toNat (by omega)
      exact ⟨h.push (by omega) (by omega), by simp⟩
    · cases hs
  split at hs
  · split at hs
    · cases hs
    split at hs
    · cases hs
      have h1 := h ((sz.length : Int) - 1).toNat (by omega)
      exact ⟨h.push (by omega) (by omega), by simp⟩
    · cases hs
  · cases hs
def Nds (H : Heap) (p : OA) (L : List Nd) : Prop := ∀ (n : Nat) (x : Nd), L[n]? = some x →
  ∃ a, p = some a ∧ Heap.rd H (Addr.add a (n * 7)) 0 [.int .i64 x.k, .int .i64 x.l, .int .i64 x.r, .int .u64 x.a, .int .u64 x.b, .int .u64 x.c, .int .u64 x.d]
theorem rd_kept {H H' : Heap} (he : Ext H H') {a : Addr} : ∀ {vs : List Value} {i : Nat}, H.rd a i vs → H'.rd a i vs
  | [], _, _ => trivial
  | v :: vs, i, h => ⟨by
      have h1 := h.1
      unfold Heap.cell? at h1 ⊢
      cases hb : H (a.add i).block with
      | none => rw [hb] at h1; simp at h1
      | some o => rw [he _ _ hb]; rw [hb] at h1; exact h1, rd_kept he h.2⟩
theorem Nds.ext {H H' : Heap} {p : OA} {L : List Nd} (h : Nds H p L) (he : Ext H H') : Nds H' p L := fun n x hx => by
  obtain ⟨a, e, hr⟩ := h n x hx
  exact ⟨a, e, rd_kept he hr⟩
theorem Valid_n {H : Heap} {p : OA} {c : Nat} {l : List Nd} {Q : QT} {E : ET} (hv : Nds H p l)
    (hk : ∀ H', Ext H H' → Q (.bool (validOf l)) H') : Does Pr 40 #[.slice p l.length c] H Q E := by
  refine zqt_fn _ _ _ Q E H ?_
  unfold zqt zqt_86 zqt_84
  refine sel_beq (fun h0 => ?_) (fun h0 => ?_)
  · have : l = [] := List.eq_nil_of_length_eq_zero (by omega)
    subst this
    exact sel_tt (hk H (.refl H))
  have hne : l ≠ [] := fun e => by subst e; exact h0 rfl
  have hval : validOf l = if 256 < l.length then false else match vsteps [] l with
      | none => false
      | some sz => decide (sz.getD (l.length - 1) 0 = l.length) := by
    cases l with
    | nil => exact absurd rfl hne
    | cons x l => rfl
  refine sel_dec (fun hd => ?_) (fun hd => ?_)
  · rw [hval, if_pos (by omega)] at hk; exact hk H (.refl H)
  rw [hval, if_neg (by omega)] at hk
  generalize hV : vsteps [] l = V at hk
  unfold zqt_81
  refine ⟨⟨by omega, by omega, by omega, by omega⟩, ?_⟩
  refine nw_ext fun k H1 hk0 he1 hk1 => ?_
  simp only [Int.toNat_natCast] at hk1 ⊢
  have hk1 : H1 k = some (.cells (szc l.length []) 3 (0, 0)) := by rw [hk1, rep_zeros]; simp [szc]
  unfold zqt_77 zqt_74
  refine ⟨fun x Hc => ∃ (sz : List Int) (done rest : List Nd), l = done ++ rest ∧ sz.length = done.length ∧ x = (done.length : Nat) ∧ vsteps sz rest = V ∧ VI sz ∧ Ext H Hc ∧ Hc k = some (.cells (szc l.length sz) 3 (0, 0)),
    fun x _ => (l.length - x).toNat, ⟨[], [], l, rfl, rfl, rfl, hV, fun j hj => by simp at hj, he1, hk1⟩, ?_⟩
  rintro x Hc ⟨sz, done, rest, hl, hsl, rfl, hV', hI, he, hkc⟩
  have hlen : l.length = done.length + rest.length := by rw [hl]; simp
  unfold zqt_71 zqt_68
  refine sel_dec (fun hd' => ?_) (fun hd' => ?_)
  · cases rest with
    | nil => simp at hlen; omega
    | cons x rest =>
      have hx : l[done.length]? = some x := by rw [hl]; simp
      obtain ⟨a, rfl, hrd⟩ := hv.ext he _ _ hx
      · unfold zqt_63
        simp only [ptr_some, Int.toNat_natCast]
        refine ⟨⟨by omega, by omega⟩, x.k, x.l, x.r, x.a, x.b, x.c, x.d, hrd, ?_⟩
        refine nw_ext fun m H3 hm he3 hm3 => ?_
        have hkm : k ≠ m := ne_of hkc hm
        have hm0 : H m = none := he.free hm
        refine wr_at hm3 (by simp) rfl ?_
        have hm4 : (H3.set m (.cells x.cells.toArray 48 (0, 0))) m = some (.cells x.cells.toArray 48 (0, 0)) := Heap.set_self _ _ _
        have hk4 : (H3.set m (.cells x.cells.toArray 48 (0, 0))) k = some (.cells (szc l.length sz) 3 (0, 0)) := by rw [Heap.set_ne _ _ hkm]; exact he3 _ _ hkc
        have he4 : Ext H (H3.set m (.cells x.cells.toArray 48 (0, 0))) := (he.trans he3).set hm0 _
        change zqt_59 _ Q E _ _ _ _ _ _ _ _ _ _ _ _ _ (H3.set m (.cells x.cells.toArray 48 (0, 0)))
        revert hm4 hk4 he4
        generalize H3.set m (.cells x.cells.toArray 48 (0, 0)) = H4
        intro hm4 hk4 he4
        have hst : vsteps sz (x :: rest) = V := hV'
        have stop : vstep sz x = none → ∀ H5, Ext H H5 → Q (.bool false) H5 := fun hn H5 he5 => by
          unfold vsteps at hst
          rw [hn] at hst
          simp only [] at hst
          subst hst
          exact hk H5 he5
        generalize hNX : (fun (x21' : Int) (H1 : Heap) => (∃ (sz : List Int) (done rest : List Nd), l = done ++ rest ∧ sz.length = done.length ∧ x21' = (done.length : Nat) ∧ vsteps sz rest = V ∧ VI sz ∧ Ext H H1 ∧ H1 k = some (.cells (szc l.length sz) 3 (0, 0))) ∧
          (l.length - x21').toNat < (l.length - (done.length : Nat) : Int).toNat) = nx
        -- the last comparison
        have c7 : ∀ (v left right : Int) (H5 : Heap), vstep sz x = (if x.l = left ∧ x.r = right then some (sz ++ [v]) else none) → Ext H H5 → H5 m = some (.cells x.cells.toArray 48 (0, 0)) →
            H5 k = some (.cells (szc l.length (sz ++ [v])) 3 (0, 0)) →
            zqt_7 nx Q E (some a) l.length c (some ⟨k, 0, none⟩) l.length l.length (some ⟨m, 0, none⟩) left right (some a) l.length c (l.length : Nat) (done.length : Nat) H5 := by
          intro v left right H5 hvs he5 hm5 hk5
          unfold zqt_7
          simp only [ptr_some, add_at, Nat.zero_add]
          refine ldI_at (n := x.l) hm5 rfl ?_
          unfold zqt_5
          refine sel_bne (fun hne => ?_) (fun heq => ?_)
          · exact sel_tt (stop (by rw [hvs, if_neg (fun h => hne h.1)]) H5 he5)
          refine ldI_at (n := x.r) hm5 rfl ?_
          refine sel_bne (fun hne => ?_) (fun heq2 => ?_)
          · exact stop (by rw [hvs, if_neg (fun h => hne h.2)]) H5 he5
          have hvs : vstep sz x = some (sz ++ [v]) := by rw [hvs, if_pos ⟨heq, heq2⟩]
          obtain ⟨hI', _⟩ := vstep_ok hI hvs
          unfold vsteps at hst
          rw [hvs] at hst
          unfold zqt_3
          have hw : IntKind.wrap .i64 (((done.length : Nat) : Int) + 1) = ((done ++ [x]).length : Nat) := by rw [IntWalk.i64_in _ (by omega)]; simp
          rw [hw]
          subst hNX
          exact ⟨⟨sz ++ [v], done ++ [x], rest, by rw [hl]; simp, by simp [hsl], rfl, hst, hI', he5, hk5⟩, by simp at hlen ⊢; omega⟩
        have c17 : ∀ (s1 right : Int) (H5 : Heap), 1 ≤ s1 → s1 ≤ sz.length + 1 →
            vstep sz x = (if (sz.length : Int) - s1 < 0 then none else if x.l = sz.length - s1 ∧ x.r = right then some (sz ++ [s1 + sz.getD ((sz.length : Int) - s1).toNat 0]) else none) → Ext H H5 →
            H5 m = some (.cells x.cells.toArray 48 (0, 0)) → H5 k = some (.cells (szc l.length (sz ++ [s1])) 3 (0, 0)) →
            zqt_17 nx Q E (some a) l.length c (some ⟨k, 0, none⟩) l.length l.length (done.length : Nat) (some ⟨m, 0, none⟩) right (some a) l.length c (l.length : Nat) (done.length : Nat) H5 := by
          intro s1 right H5 h1 h2 hvs he5 hm5 hk5
          unfold zqt_17
          simp only [ptr_some, add_at, Int.toNat_natCast, Nat.mul_one, Nat.zero_add]
          refine ⟨⟨by omega, by omega⟩, ldI_at (n := s1) hk5 ?_ ?_⟩
          · rw [szc_get (by simp; omega), ← hsl]; simp [List.getD_eq_getElem?_getD]
          have hw : IntKind.wrap .i64 (((done.length : Nat) : Int) - s1) = (sz.length : Int) - s1 := by rw [IntWalk.i64_in _ (by omega)]; omega
          rw [hw]
          unfold zqt_14
          refine sel_dec (fun hneg => ?_) (fun hpos => ?_)
          · exact stop (by rw [hvs, if_pos hneg]) H5 he5
          rw [if_neg hpos] at hvs
          unfold zqt_12
          simp only [ptr_some, add_at, Int.toNat_natCast, Nat.mul_one, Nat.zero_add]
          have hb1 := hI ((sz.length : Int) - s1).toNat (by omega)
          refine ⟨⟨by omega, by omega⟩, ldI_at (n := s1) hk5 ?_ ⟨⟨by omega, by omega⟩, ldI_at (n := sz.getD ((sz.length : Int) - s1).toNat 0) hk5 ?_ ⟨⟨by omega, by omega⟩, ?_⟩⟩⟩
          · rw [szc_get (by simp; omega), ← hsl]; simp [List.getD_eq_getElem?_getD]
          · rw [szc_get (by simp; omega)]; simp [List.getD_eq_getElem?_getD, List.getElem?_append_left (show ((sz.length : Int) - s1).toNat < sz.length by omega)]
          refine wr_at hk5 (by rw [szc_size (by simp; omega)]; simp; omega) rfl ?_
          have hw2 : IntKind.wrap .i64 (s1 + sz.getD ((sz.length : Int) - s1).toNat 0) = s1 + sz.getD ((sz.length : Int) - s1).toNat 0 := IntWalk.i64_in _ (by omega)
          rw [hw2, ← hsl, szc_again (by omega)]
          have := c7 (s1 + sz.getD ((sz.length : Int) - s1).toNat 0) (sz.length - s1) right (H5.set k (.cells (szc l.length (sz ++ [s1 + sz.getD ((sz.length : Int) - s1).toNat 0])) 3 (0, 0))) hvs (he5.set hk0 _)
            (by rw [Heap.set_ne _ _ (Ne.symm hkm)]; exact hm5) (Heap.set_self _ _ _)
          rw [← hsl] at this
          exact this
        have c54 : ¬ (x.k ≠ 2 ∧ ¬ (x.a = 0 ∧ x.b = 0 ∧ x.c = 0 ∧ x.d = 0)) →
            zqt_54 nx Q E (some a) l.length c (some ⟨k, 0, none⟩) l.length l.length (done.length : Nat) (some ⟨m, 0, none⟩) (some a) l.length c (l.length : Nat) (done.length : Nat) H4 := by
          intro hok
          have hvs0 : vstep sz x = vstep sz x := rfl
          conv at hvs0 => rhs; unfold vstep
          simp only [] at hvs0
          rw [if_neg hok] at hvs0
          unfold zqt_54 zqt_51
          simp only [ptr_some, add_at, Int.toNat_natCast, Nat.mul_one, Nat.zero_add]
          refine ⟨⟨by omega, by omega⟩, ?_⟩
          refine wr_at hk4 (by rw [szc_size (by omega)]; simp; omega) rfl ?_
          rw [← hsl, szc_push (by omega), hsl]
          have hm5 : (H4.set k (.cells (szc l.length (sz ++ [1])) 3 (0, 0))) m = some (.cells x.cells.toArray 48 (0, 0)) := by rw [Heap.set_ne _ _ (Ne.symm hkm)]; exact hm4
          have hk5 : (H4.set k (.cells (szc l.length (sz ++ [1])) 3 (0, 0))) k = some (.cells (szc l.length (sz ++ [1])) 3 (0, 0)) := Heap.set_self _ _ _
          have he5 : Ext H (H4.set k (.cells (szc l.length (sz ++ [1])) 3 (0, 0))) := he4.set hk0 _
          revert hm5 hk5 he5
          generalize H4.set k (.cells (szc l.length (sz ++ [1])) 3 (0, 0)) = H5
          intro hm5 hk5 he5
          unfold zqt_47
          simp only [ptr_some]
          refine ldI_at (n := x.k) hm5 rfl (Kids_c ⟨_, rfl, ?_⟩)
          unfold zqt_34
          refine sel_beq (fun hk0' => ?_) (fun hk0' => ?_)
          · rw [if_pos hk0'] at hvs0
            exact c7 1 0 0 H5 hvs0 he5 hm5 hk5
          rw [if_neg hk0'] at hvs0
          unfold zqt_31
          refine sel_beq (fun hk2 => ?_) (fun hk2 => ?_)
          · rw [if_pos hk2] at hvs0
            unfold zqt_26 zqt_23
            have hw : IntKind.wrap .i64 (((done.length : Nat) : Int) - 1) = (sz.length : Int) - 1 := by rw [IntWalk.i64_in _ (by omega)]; omega
            rw [hw]
            refine sel_dec (fun hneg => ?_) (fun hpos => ?_)
            · exact stop (by rw [hvs0, if_pos hneg]) H5 he5
            rw [if_neg hpos] at hvs0
            unfold zqt_21
            simp only [ptr_some, add_at, Int.toNat_natCast, Nat.mul_one, Nat.zero_add]
            have hb1 := hI ((sz.length : Int) - 1).toNat (by omega)
            refine ⟨⟨by omega, by omega⟩, ldI_at (n := 1) hk5 ?_ ⟨⟨by omega, by omega⟩, ldI_at (n := sz.getD ((sz.length : Int) - 1).toNat 0) hk5 ?_ ⟨⟨by omega, by omega⟩, ?_⟩⟩⟩
            · rw [szc_get (by simp; omega), ← hsl]; simp [List.getD_eq_getElem?_getD]
            · rw [szc_get (by simp; omega), List.getD_eq_getElem?_getD, List.getElem?_append_left (show ((sz.length : Int) - 1).toNat < sz.length by omega), List.getD_eq_getElem?_getD]
            refine wr_at hk5 (by rw [szc_size (by simp; omega)]; simp; omega) rfl ?_
            have hw2 : IntKind.wrap .i64 (1 + sz.getD ((sz.length : Int) - 1).toNat 0) = 1 + sz.getD ((sz.length : Int) - 1).toNat 0 := IntWalk.i64_in _ (by omega)
            rw [hw2, ← hsl, szc_again (by omega)]
            have := c17 (1 + sz.getD ((sz.length : Int) - 1).toNat 0) (sz.length - 1) (H5.set k (.cells (szc l.length (sz ++ [1 + sz.getD ((sz.length : Int) - 1).toNat 0])) 3 (0, 0))) (by omega) (by omega) hvs0 (he5.set hk0 _)
              (by rw [Heap.set_ne _ _ (Ne.symm hkm)]; exact hm5) (Heap.set_self _ _ _)
            rw [← hsl] at this
            exact this
          rw [if_neg hk2] at hvs0
          unfold zqt_29
          refine sel_beq (fun hk1' => ?_) (fun hk1' => ?_)
          · rw [if_pos hk1'] at hvs0
            exact c17 1 0 H5 (by omega) (by omega) hvs0 he5 hm5 hk5
          · rw [if_neg hk1'] at hvs0
            unfold zqt_10
            exact stop hvs0 H5 he5
        unfold zqt_59
        simp only [ptr_some, add_at]
        refine ldI_at (n := x.k) hm4 rfl ?_
        unfold zqt_57
        refine sel_bne (fun hk2 => ?_) (fun hk2 => ?_)
        · refine ⟨x.a, x.b, x.c, x.d, rd_at hm4 _ _ 0 fun j hj => ?_, ?_⟩
          · match j, hj with
            | 0, _ => rfl
            | 1, _ => rfl
            | 2, _ => rfl
            | 3, _ => rfl
          · refine sel_not (fun hf => ?_) (fun ht => ?_)
            · refine stop ?_ H4 he4
              unfold vstep
              simp only []
              rw [if_pos ⟨hk2, fun h => by simp [eqVs, eqV, h] at hf⟩]
            · exact c54 (fun h => h.2 (by simp [eqVs, eqV] at ht; omega))
        · exact sel_ff (c54 (fun h => h.1 hk2))
  · have : rest = [] := List.eq_nil_of_length_eq_zero (by omega)
    subst this
    simp only [List.append_nil] at hl
    subst hl
    have hV' : some sz = V := hV'
    subst hV'
    unfold zqt_1
    have hw : IntKind.wrap .i64 (((l.length : Nat) : Int) - 1) = ((l.length - 1 : Nat) : Int) := by rw [IntWalk.i64_in _ (by omega)]; omega
    rw [hw]
    simp only [ptr_some, add_at, Int.toNat_natCast, Nat.mul_one, Nat.zero_add]
    refine ⟨⟨by omega, by omega⟩, ldI_at hkc (szc_get (by omega)) ?_⟩
    have := hk Hc he
    have e : ((sz.getD (l.length - 1) 0 : Int) == ((l.length : Nat) : Int)) = decide (sz.getD (l.length - 1) 0 = (l.length : Int)) := rfl
    rw [e]; exact this
theorem vec_at7 {H : Heap} {p : OA} {l c : Nat} {L : List Nd} (h : Vec H 7 p l c (flat L)) {n : Nat} {x : Nd} (hx : L[n]? = some x) :
    ∃ a, p = some a ∧ Heap.rd H (Addr.add a (n * 7)) 0 [.int .i64 x.k, .int .i64 x.l, .int .i64 x.r, .int .u64 x.a, .int .u64 x.b, .int .u64 x.c, .int .u64 x.d] := by
  obtain ⟨v1, v2, v3⟩ := h
  have hn : n < L.length := (List.getElem?_eq_some_iff.1 hx).1
  rw [flat_length] at v1
  cases p with
  | none => simp only [] at v3; omega
  | some a =>
    obtain ⟨b, cs, t, rfl, hb, hcs, hget⟩ := v3
    refine ⟨_, rfl, ?_⟩
    rw [add_at]
    refine rd_at hb _ _ 0 fun j hj => ?_
    have hj : j < 7 := hj
    rw [Nat.add_zero, Nat.zero_add, hget _ (by omega), flat_get hx hj]; rfl
theorem Vec.nds {H : Heap} {p : OA} {l c : Nat} {L : List Nd} (h : Vec H 7 p l c (flat L)) : Nds H p L := fun n x hx => vec_at7 h hx
theorem Valid_c {H : Heap} {p : OA} {c : Nat} {l : List Nd} {Q : QT} {E : ET} (hv : Vec H 7 p l.length c (flat l))
    (hk : ∀ H', Ext H H' → Q (.bool (validOf l)) H') : Does Pr 40 #[.slice p l.length c] H Q E := Valid_n (Vec.nds hv) hk
end Go.Proofs.Ytaffcoiomggpfaa
