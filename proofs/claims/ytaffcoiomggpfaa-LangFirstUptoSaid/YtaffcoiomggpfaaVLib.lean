/- Words for contracts: views that grow, cells that are known, vectors. -/
import Derived.Test.YtaffcoiomggpfaaVText
import Derived.IntWalk
import Derived.Laws.Append
namespace Go.V
set_option linter.constructorNameAsVariable false
set_option linter.unusedVariables false
variable {P : Program}

/-- All that H0 knows is so in H. -/
def Ext (H0 H : Heap) : Prop := ∀ i o, H0 i = some o → H i = some o
theorem Ext.refl (H : Heap) : Ext H H := fun _ _ h => h
theorem Ext.trans {A B C : Heap} (h : Ext A B) (g : Ext B C) : Ext A C := fun i o x => g i o (h i o x)
theorem Ext.set {H0 H : Heap} (h : Ext H0 H) {i : Nat} (hi : H0 i = none) (o : Obj) : Ext H0 (H.set i o) := fun j x hx => by
  rw [Heap.set_ne _ _ (fun e => by rw [e, hi] at hx; cases hx)]; exact h j x hx
theorem Ext.base {H0 H : Heap} (h : Ext H0 H) {i : Nat} {o : Obj} (hi : H i = some o) : Ext (H0.set i o) H := fun j x hx => by
  by_cases e : j = i
  · subst e; rw [Heap.set_self] at hx; rw [hi]; exact hx
  · rw [Heap.set_ne _ _ e] at hx; exact h j x hx
theorem Ext.of_set {H0 H : Heap} {i : Nat} {o : Obj} (hi : H0 i = none) (h : Ext (H0.set i o) H) : Ext H0 H := fun j x hx =>
  h j x (by rw [Heap.set_ne _ _ (fun e => by rw [e, hi] at hx; cases hx)]; exact hx)
theorem Ext.get {H0 H : Heap} {i : Nat} {o : Obj} (h : Ext (H0.set i o) H) : H i = some o := h i o (Heap.set_self _ _ _)
theorem Ext.free {H0 H : Heap} (h : Ext H0 H) {i : Nat} (hi : H i = none) : H0 i = none := by
  cases h0 : H0 i with
  | none => rfl
  | some o => rw [h i o h0] at hi; cases hi
theorem ne_of {H : Heap} {i j : Nat} {o : Obj} (h : H i = some o) (g : H j = none) : i ≠ j := fun e => by rw [e, g] at h; cases h

/-! Reads and writes in a block that is known. -/
theorem cell_at {H : Heap} {b o : Nat} {c : Array Value} {t : TypeId} {fr : Nat × Nat} {v : Value} (h : H b = some (.cells c t fr)) (hv : c[o]? = some v) : H.cell? ⟨b, o, none⟩ = some v := by
  simp [Heap.cell?, h, hv]
theorem add_at (b o n : Nat) : Addr.add ⟨b, o, none⟩ n = ⟨b, o + n, none⟩ := by simp [Addr.add]
theorem ldI_at {H : Heap} {b o : Nat} {c : Array Value} {t : TypeId} {fr : Nat × Nat} {k : IntKind} {n : Int} {K : Int → Prop} (h : H b = some (.cells c t fr)) (hv : c[o]? = some (.int k n)) (hk : K n) :
    ldI k ⟨b, o, none⟩ H K := ⟨n, cell_at h hv, hk⟩
theorem ldB_at {H : Heap} {b o : Nat} {c : Array Value} {t : TypeId} {fr : Nat × Nat} {n : Bool} {K : Bool → Prop} (h : H b = some (.cells c t fr)) (hv : c[o]? = some (.bool n)) (hk : K n) :
    ldB ⟨b, o, none⟩ H K := ⟨n, cell_at h hv, hk⟩
theorem ldS_at {H : Heap} {b o : Nat} {c : Array Value} {t : TypeId} {fr : Nat × Nat} {n : ByteArray} {K : ByteArray → Prop} (h : H b = some (.cells c t fr)) (hv : c[o]? = some (.string n)) (hk : K n) :
    ldS ⟨b, o, none⟩ H K := ⟨n, cell_at h hv, hk⟩
theorem ldP_at {H : Heap} {b o : Nat} {c : Array Value} {t : TypeId} {fr : Nat × Nat} {n : Option Addr} {K : Option Addr → Prop} (h : H b = some (.cells c t fr)) (hv : c[o]? = some (.pointer n)) (hk : K n) :
    ldP ⟨b, o, none⟩ H K := ⟨n, cell_at h hv, hk⟩
theorem ldSl_at {H : Heap} {b o : Nat} {c : Array Value} {t : TypeId} {fr : Nat × Nat} {p : Option Addr} {l m : Nat} {K : Option Addr → Nat → Nat → Prop} (h : H b = some (.cells c t fr))
    (hv : c[o]? = some (.slice p l m)) (hk : K p l m) : ldSl ⟨b, o, none⟩ H K := ⟨p, l, m, cell_at h hv, hk⟩
theorem wr_at {H : Heap} {b o : Nat} {c : Array Value} {t : TypeId} {vs : List Value} {K : Heap → Prop} (h : H b = some (.cells c t (0, 0))) (hs : o + vs.length ≤ c.size) (ho : vs.all oneC = true)
    (hk : K (H.set b (.cells (over c o vs) t (0, 0)))) : wr ⟨b, o, none⟩ vs H K := ⟨c, t, (0, 0), h, rfl, hs, .inr (Nat.zero_le _), ho, hk⟩
theorem rd_at {H : Heap} {b : Nat} {c : Array Value} {t : TypeId} {fr : Nat × Nat} (h : H b = some (.cells c t fr)) : ∀ (vs : List Value) (o i : Nat), (∀ j, j < vs.length → c[o + i + j]? = vs[j]?) → H.rd ⟨b, o, none⟩ i vs
  | [], _, _, _ => trivial
  | v :: vs, o, i, hv => ⟨by rw [add_at]; exact cell_at h (hv 0 (by simp)), rd_at h vs o (i + 1) fun j hj => by
      have := hv (j + 1) (by simp; omega)
      simpa [Nat.add_assoc, Nat.add_comm 1 j] using this⟩

/-! ### Vectors: a slice that owns its block -/
def blk (p : Option Addr) (i : Nat) : Prop := ∃ a, p = some a ∧ i = a.block
/-- A slice of l elements of so many cells: its first cells are vs. -/
def Vec (H : Heap) (sz : Nat) (p : Option Addr) (l c : Nat) (vs : List Value) : Prop :=
  vs.length = l * sz ∧ l ≤ c ∧ match p with
  | none => c = 0
  | some a => ∃ b cs t, a = ⟨b, 0, none⟩ ∧ H b = some (.cells cs t (0, 0)) ∧ cs.size = c * sz ∧ ∀ j, j < l * sz → cs[j]? = vs[j]?
theorem Vec.nil (H : Heap) (sz : Nat) : Vec H sz none 0 0 [] := ⟨by simp, Nat.le_refl _, rfl⟩
theorem Vec.keep {H H' : Heap} {sz : Nat} {p : Option Addr} {l c : Nat} {vs : List Value} (h : Vec H sz p l c vs) (hk : ∀ i, blk p i → H i ≠ none → H' i = H i) : Vec H' sz p l c vs := by
  obtain ⟨h1, h2, h3⟩ := h
  refine ⟨h1, h2, ?_⟩
  cases p with
  | none => exact h3
  | some a =>
    obtain ⟨b, cs, t, rfl, h4, h5⟩ := h3
    exact ⟨b, cs, t, rfl, by rw [hk b ⟨_, rfl, rfl⟩ (by simp [h4])]; exact h4, h5⟩
theorem Vec.known {H : Heap} {sz : Nat} {p : Option Addr} {l c : Nat} {vs : List Value} (h : Vec H sz p l c vs) {i : Nat} (hi : blk p i) : H i ≠ none := by
  obtain ⟨a, rfl, rfl⟩ := hi
  obtain ⟨_, _, b, cs, t, rfl, h4, _⟩ := h
  simp [h4]
theorem Vec.rdS {H : Heap} {sz : Nat} {p : Option Addr} {l c : Nat} {vs : List Value} (h : Vec H sz p l c vs) : H.rdS p vs := by
  obtain ⟨h1, h2, h3⟩ := h
  cases p with
  | none =>
    have : l = 0 := by omega
    subst this
    exact List.eq_nil_of_length_eq_zero (by simpa using h1)
  | some a =>
    obtain ⟨b, cs, t, rfl, h4, h5, h6⟩ := h3
    exact rd_at h4 vs 0 0 fun j hj => by simpa using h6 j (by omega)
theorem over_get : ∀ (vs : List Value) (c : Array Value) (o j : Nat), o + vs.length ≤ c.size → (over c o vs)[j]? = if o ≤ j ∧ j < o + vs.length then vs[j - o]? else c[j]?
  | [], c, o, j, h => by simp [over]; intro h1 h2; omega
  | v :: vs, c, o, j, h => by
    rw [over, over_get vs _ _ _ (by simp at h ⊢; omega)]
    simp only [List.length_cons] at h ⊢
    by_cases h1 : j = o
    · subst h1
      rw [if_neg (by omega), if_pos (by omega)]
      simp [Array.getElem?_setIfInBounds]; omega
    · by_cases h2 : o + 1 ≤ j ∧ j < o + 1 + vs.length
      · rw [if_pos h2, if_pos (by omega)]
        rw [show j - o = (j - (o + 1)) + 1 by omega]; simp
      · rw [if_neg h2, if_neg (by omega)]
        rw [Array.getElem?_setIfInBounds_ne (by omega)]
structure SlT (P : Program) (t : TypeId) (sz : Nat) : Prop where
  has : ∃ e i z, P.underlying t = some (.slice e) ∧ P.info? e = some i ∧ i.zero = some z ∧ z.cells.size = i.size ∧ i.size = sz ∧ 0 < i.bytes ∧ i.bytes ≤ 65536
/-- append to a vector. -/
theorem app_vec {t : TypeId} {sz : Nat} {p : Option Addr} {l c n : Nat} {vs ws : List Value} {x : Value} {H : Heap} {K : Option Addr → Nat → Nat → Heap → Prop} (ht : SlT P t sz)
    (hv : Vec H sz p l c vs) (hx : ∀ K : Nat → List Value → Prop, K n ws → srcOf sz x H K) (hws : ws.length = n * sz) (ho : ws.all oneC = true) (hcap : l + n ≤ 1048576) (hsz : 0 < sz)
    (hk : ∀ p' c' H', Vec H' sz p' (l + n) c' (vs ++ ws) → (∀ j, ¬ blk p j → H j ≠ none → H' j = H j) → (∀ j, blk p' j → blk p j ∨ H j = none) → K p' (l + n) c' H') :
    app P t p l c x H K := by
  obtain ⟨e, i, z, h1, h2, h3, h4, h5, h6, h7⟩ := ht.has
  subst h5
  unfold app tyD
  rw [h1]
  simp only [tyI, tyZ, h2, h3]
  have hb : Nat.beq z.cells.size i.size = true := by rw [h4]; exact Nat.beq_refl _
  rw [hb]
  simp only []
  refine hx _ ⟨fun hle => ?_, fun hlt => ⟨?_, h6, vs, hv.1, hv.rdS, fun c' hc' id hid => ?_⟩⟩
  · cases ws with
    | nil =>
      have hn : n = 0 := by
        rcases Nat.mul_eq_zero.1 (by simpa using hws.symm : n * i.size = 0) with h | h
        · exact h
        · omega
      subst hn
      exact hk _ _ _ (by simpa using hv) (fun j _ _ => rfl) (fun j h => .inl h)
    | cons w ws =>
      obtain ⟨v1, v2, v3⟩ := hv
      cases p with
      | none => simp only [] at v3; subst v3; simp only [List.length_cons] at hws; have : n = 0 := by omega
                subst this; simp at hws
      | some a =>
        obtain ⟨b, cs, t', rfl, h8, h9, h10⟩ := v3
        simp only [wrS, ptr_some, add_at]
        have hbd : l * i.size + (w :: ws).length ≤ cs.size := by
          rw [hws, h9, ← Nat.add_mul]; exact Nat.mul_le_mul_right _ hle
        refine wr_at h8 (by omega) ho ?_
        refine hk _ _ _ ⟨by rw [List.length_append, v1, hws, Nat.add_mul], hle, b, _, t', rfl, Heap.set_self _ _ _, by rw [over_size]; exact h9, fun j hj => ?_⟩ (fun j hj _ => Heap.set_ne _ _ fun e => hj ⟨_, rfl, e⟩) (fun j h => .inl h)
        rw [over_get _ _ _ _ (by omega)]
        by_cases hjl : j < l * i.size
        · rw [if_neg (by omega), List.getElem?_append_left (by omega)]; exact h10 j hjl
        · rw [Nat.add_mul] at hj
          rw [if_pos (by omega), List.getElem?_append_right (by omega), v1]; congr 1; omega
  · refine growslice_fits hlt ?_
    have := Nat.mul_le_mul hcap h7
    omega
  · refine hk _ _ _ ⟨by rw [List.length_append, hv.1, hws, Nat.add_mul], hc', id, _, e, rfl, Heap.set_self _ _ _, ?_, fun j hj => ?_⟩ (fun j _ hj => Heap.set_ne _ _ fun e => hj (e ▸ hid)) (fun j h => by obtain ⟨a, ha, rfl⟩ := h; cases ha; exact .inr hid)
    · have hl : ∀ (n : Nat) (zs : List Value), (rep n zs).length = n * zs.length := fun n zs => by
        induction n with
        | zero => simp [rep]
        | succ n ih => simp [rep, ih, Nat.add_mul]; omega
      simp only [List.size_toArray, List.length_append, hl, hv.1, hws, Array.length_toList, h4]
      rw [← Nat.add_mul, ← Nat.add_mul]; congr 1; omega
    · rw [List.getElem?_toArray, List.getElem?_append_left]
      simp only [List.length_append, hv.1, hws]; rw [← Nat.add_mul]; exact hj
def slB (P : Program) (t : TypeId) (sz : Nat) : Bool := match P.underlying t with
  | some (.slice e) => match P.info? e with
    | some i => match i.zero with
      | some z => Nat.beq z.cells.size i.size && Nat.beq i.size sz && Nat.blt 0 i.bytes && Nat.ble i.bytes 65536
      | none => false
    | none => false
  | _ => false
theorem SlT.of {t : TypeId} {sz : Nat} (h : slB P t sz = true) : SlT P t sz := by
  unfold slB at h
  split at h
  · rename_i e h1
    split at h
    · rename_i i h2
      split at h
      · rename_i z h3
        simp only [Bool.and_eq_true] at h
        exact ⟨e, i, z, h1, h2, h3, Nat.eq_of_beq_eq_true h.1.1.1, Nat.eq_of_beq_eq_true h.1.1.2, Nat.le_of_ble_eq_true h.1.2, Nat.le_of_ble_eq_true h.2⟩
      · cases h
    · cases h
  · cases h
theorem app_one {t : TypeId} {sz : Nat} {p : Option Addr} {l c i m : Nat} {vs ws : List Value} {t' : TypeId} {fr : Nat × Nat} {H : Heap} {K : Option Addr → Nat → Nat → Heap → Prop} (ht : SlT P t sz)
    (hv : Vec H sz p l c vs) (hx : H i = some (.cells ws.toArray t' fr)) (hws : ws.length = sz) (ho : ws.all oneC = true) (hcap : l < 1048576) (hsz : 0 < sz)
    (hk : ∀ p' c' H', Vec H' sz p' (l + 1) c' (vs ++ ws) → (∀ j, ¬ blk p j → H j ≠ none → H' j = H j) → (∀ j, blk p' j → blk p j ∨ H j = none) → K p' (l + 1) c' H') :
    app P t p l c (.slice (some ⟨i, 0, none⟩) 1 m) H K :=
  app_vec ht hv (fun K hK => ⟨ws, by omega, rd_at hx ws 0 0 fun j hj => by simp, hK⟩) (by omega) ho hcap hsz hk
theorem Ext.new {H : Heap} {i : Nat} (h : H i = none) (o : Obj) : Ext H (H.set i o) := (Ext.refl H).set h o
theorem Vec.ext {H H' : Heap} {sz : Nat} {p : Option Addr} {l c : Nat} {vs : List Value} (h : Vec H sz p l c vs) (he : Ext H H') : Vec H' sz p l c vs :=
  h.keep fun i _ hi => by
    cases hh : H i with
    | none => exact absurd hh hi
    | some o => exact he i o hh
theorem nw_ext {o : Obj} {H : Heap} {K : Nat → Heap → Prop} (h : ∀ i H', H i = none → Ext H H' → H' i = some o → K i H') : nw o H K :=
  fun i hi => h i _ hi (Ext.new hi o) (Heap.set_self _ _ _)
theorem sel_mk {b : Bool} {X Y : Prop} (h1 : b = true → X) (h2 : b = false → Y) : sel b X Y := (sel_iff b X Y).2 ⟨h1, h2⟩
theorem sel_beq {x y : Int} {X Y : Prop} (h1 : x = y → X) (h2 : x ≠ y → Y) : sel (x == y) X Y := sel_mk (fun h => h1 (by simpa using h)) (fun h => h2 (by simpa using h))
theorem sel_bne {x y : Int} {X Y : Prop} (h1 : x ≠ y → X) (h2 : x = y → Y) : sel (x != y) X Y := sel_mk (fun h => h1 (by simpa using h)) (fun h => h2 (by simpa using h))
theorem sel_dec {p : Prop} [Decidable p] {X Y : Prop} (h1 : p → X) (h2 : ¬ p → Y) : sel (decide p) X Y := sel_mk (fun h => h1 (of_decide_eq_true h)) (fun h => h2 (of_decide_eq_false h))
theorem sel_tt {X Y : Prop} (h : X) : sel true X Y := h
theorem sel_ff {X Y : Prop} (h : Y) : sel false X Y := h
theorem sel_not {b : Bool} {X Y : Prop} (h1 : b = false → X) (h2 : b = true → Y) : sel (!b) X Y := sel_mk (fun h => h1 (by simpa using h)) (fun h => h2 (by simpa using h))
end Go.V
