/- Contracts of regex.Kids and regex.Valid. -/
import Derived.Test.YtaffcoiomggpfaaVNode
import Derived.Test.YtaffcoiomggpfaaFregex
namespace Go.Proofs.Ytaffcoiomggpfaa
open Go.V
attribute [local irreducible] app
set_option linter.constructorNameAsVariable false
set_option linter.unusedVariables false

def kidsOf (k : Int) : Int := if k = 1 ∨ k = 2 ∨ k = 8 ∨ k = 9 then 0 else if k = 5 ∨ k = 6 ∨ k = 7 then 1 else if k = 3 ∨ k = 4 then 2 else -1
theorem Kids_c {H : Heap} {k : Int} {Q : Value → Heap → Prop} {E : Chain → Heap → Prop} (hk : Q (.int .i64 (kidsOf k)) H) : Does Pr 74 #[.int .i64 k] H Q E := by
  refine zqw_fn _ Q E H ?_
  unfold zqw zqw_23 zqw_19 zqw_17
  have k0 : (k = 1 ∨ k = 2 ∨ k = 8 ∨ k = 9) → zqw_3 Q E H := fun h => by
    unfold zqw_3; unfold kidsOf at hk; rw [if_pos h] at hk; exact hk
  have k1 : ¬ (k = 1 ∨ k = 2 ∨ k = 8 ∨ k = 9) → (k = 5 ∨ k = 6 ∨ k = 7) → zqw_5 Q E H := fun h h' => by
    unfold zqw_5; unfold kidsOf at hk; rw [if_neg h, if_pos h'] at hk; exact hk
  have k2 : ¬ (k = 1 ∨ k = 2 ∨ k = 8 ∨ k = 9) → ¬ (k = 5 ∨ k = 6 ∨ k = 7) → (k = 3 ∨ k = 4) → Q (.int .i64 2) H := fun h h' h'' => by
    unfold kidsOf at hk; rw [if_neg h, if_neg h', if_pos h''] at hk; exact hk
  have k3 : ¬ (k = 1 ∨ k = 2 ∨ k = 8 ∨ k = 9) → ¬ (k = 5 ∨ k = 6 ∨ k = 7) → ¬ (k = 3 ∨ k = 4) → zqw_1 Q E H := fun h h' h'' => by
    unfold zqw_1; unfold kidsOf at hk; rw [if_neg h, if_neg h', if_neg h''] at hk; exact hk
  unfold zqw_14 zqw_12 zqw_9 zqw_7
  repeat' (refine sel_beq (fun _ => ?_) (fun _ => ?_))
  all_goals first | exact k0 (by omega) | exact k1 (by omega) (by omega) | exact k2 (by omega) (by omega) (by omega) | exact k3 (by omega) (by omega) (by omega) | (exfalso; omega)
/-- One step of Valid: the sizes so far, the node; none if it is refused. -/
def vstep (sz : List Int) (x : Nd) : Option (List Int) :=
  let i : Int := sz.length
  if x.k ≠ 2 ∧ ¬ (x.a = 0 ∧ x.b = 0 ∧ x.c = 0 ∧ x.d = 0) then none else
  if kidsOf x.k = 0 then (if x.l = 0 ∧ x.r = 0 then some (sz ++ [1]) else none)
  else if kidsOf x.k = 2 then
    if i - 1 < 0 then none else
    let s1 := 1 + sz.getD (i - 1).toNat 0
    if i - s1 < 0 then none else
    if x.l = i - s1 ∧ x.r = i - 1 then some (sz ++ [s1 + sz.getD (i - s1).toNat 0]) else none
  else if kidsOf x.k = 1 then
    if i - 1 < 0 then none else
    if x.l = i - 1 ∧ x.r = 0 then some (sz ++ [1 + sz.getD (i - 1).toNat 0]) else none
  else none
def vsteps : List Int → List Nd → Option (List Int)
  | sz, [] => some sz
  | sz, x :: l => match vstep sz x with
    | none => none
    | some sz' => vsteps sz' l
def validOf (l : List Nd) : Bool := match l with
  | [] => false
  | _ => if 256 < l.length then false else match vsteps [] l with
    | none => false
    | some sz => decide (sz.getD (l.length - 1) 0 = l.length)
/-- The cells of the sizes. -/
def szc (n : Nat) (sz : List Int) : Array Value := (sz.map (Value.int .i64) ++ List.replicate (n - sz.length) (Value.int .i64 0)).toArray
theorem szc_size {n : Nat} {sz : List Int} (h : sz.length ≤ n) : (szc n sz).size = n := by simp [szc]; omega
theorem szc_get {n : Nat} {sz : List Int} {j : Nat} (h : j < sz.length) : (szc n sz)[j]? = some (Value.int .i64 (sz.getD j 0)) := by
  simp [szc, List.getElem?_append_left, h]
theorem szc_push {n : Nat} {sz : List Int} (h : sz.length < n) (v : Int) : over (szc n sz) sz.length [Value.int .i64 v] = szc n (sz ++ [v]) := by
  apply Array.ext
  · simp [over, szc]; omega
  · intro j h1 h2
    have e : ∀ (a b : Array Value) (g1 : j < a.size) (g2 : j < b.size), a[j]? = b[j]? → a[j] = b[j] := fun a b g1 g2 h => by simpa [g1, g2] using h
    refine e _ _ h1 h2 ?_
    rw [over_get _ _ _ _ (by rw [szc_size (by omega)]; simp; omega)]
    by_cases hj : sz.length ≤ j ∧ j < sz.length + 1
    · have : j = sz.length := by omega
      subst this
      rw [if_pos (by simp), szc_get (by simp)]; simp
    · rw [if_neg (by simpa using hj)]
      simp only [szc, List.getElem?_toArray, List.map_append, List.map_cons, List.map_nil]
      by_cases hl : j < sz.length
      · rw [List.getElem?_append_left (by simpa using hl), List.getElem?_append_left (by simp; omega), List.getElem?_append_left (by simpa using hl)]
      · rw [List.getElem?_append_right (by simp; omega), List.getElem?_append_right (by simp; omega)]
        simp only [List.length_append, List.length_map, List.length_cons, List.length_nil]
        rw [List.getElem?_replicate, List.getElem?_replicate]
        have : (j - sz.length < n - sz.length) ↔ (j - (sz.length + (0 + 1)) < n - (sz.length + (0 + 1))) := by omega
        simp only [this]
theorem szc_again {n : Nat} {sz : List Int} (h : sz.length < n) (a v : Int) : over (szc n (sz ++ [a])) sz.length [Value.int .i64 v] = szc n (sz ++ [v]) := by
  rw [← szc_push h a, ← szc_push h v]
  have hs : sz.length < (szc n sz).size := by rw [szc_size (by omega)]; exact h
  simp [over, Array.setIfInBounds, hs]
theorem flat_get {l : List Nd} {i j : Nat} {x : Nd} (h : l[i]? = some x) (hj : j < 7) : (flat l)[i * 7 + j]? = x.cells[j]? := by
  induction l generalizing i with
  | nil => simp at h
  | cons y l ih =>
    cases i with
    | zero =>
      simp only [List.getElem?_cons_zero, Option.some.injEq] at h
      subst h
      simp only [flat, List.flatMap_cons]
      rw [List.getElem?_append_left (by simp [Nd.cells]; omega)]; simp
    | succ i =>
      simp only [List.getElem?_cons_succ] at h
      have := ih h
      simp only [flat, List.flatMap_cons] at this ⊢
      rw [List.getElem?_append_right (by simp [Nd.cells]; omega)]
      rw [← this]; congr 1; simp [Nd.cells]; omega
theorem rep_zeros (n : Nat) : rep n [Value.int .i64 0] = List.replicate n (Value.int .i64 0) := by
  induction n with
  | zero => rfl
  | succ n ih => simp [rep, ih, List.replicate_succ]
def VI (sz : List Int) : Prop := ∀ j, j < sz.length → 1 ≤ sz.getD j 0 ∧ sz.getD j 0 ≤ j + 1
theorem VI.push {sz : List Int} {v : Int} (h : VI sz) (h1 : 1 ≤ v) (h2 : v ≤ sz.length + 1) : VI (sz ++ [v]) := fun j hj => by
  by_cases e : j < sz.length
  · have := h j e
    simpa [List.getD_eq_getElem?_getD, List.getElem?_append_left e] using this
  · have : j = sz.length := by simp at hj; omega
    subst this
    simp [List.getD_eq_getElem?_getD]; omega
theorem vstep_ok {sz sz' : List Int} {x : Nd} (h : VI sz) (hs : vstep sz x = some sz') : VI sz' ∧ sz'.length = sz.length + 1 := by
  unfold vstep at hs
  simp only [] at hs
  split at hs
  · cases hs
  split at hs
  · split at hs
    · cases hs; exact ⟨h.push (by omega) (by omega), by simp⟩
    · cases hs
  split at hs
  · split at hs
    · cases hs
    split at hs
    · cases hs
    split at hs
    · cases hs
      have h1 := h ((sz.length : Int) - 1).toNat (by omega)
      have h2 := h ((sz.length : Int) - (1 + sz.getD ((sz.length : Int) - 1).toNat 0)).toNat (by omega)
      exact ⟨h.push (by omega) (by omega), by simp⟩
    · cases hs
  split at hs
  · split at hs
    · cases hs
    split at hs
    · cases hs
      have h1 := h ((sz.length : Int) - 1).toNat (by omega)
      exact ⟨h.push (by omega) (by omega), by simp⟩
    · cases hs
  · cases hs
/-- A list of nodes that is only read. -/
def Nds (H : Heap) (p : Option Addr) (L : List Nd) : Prop := ∀ (n : Nat) (x : Nd), L[n]? = some x →
  ∃ a, p = some a ∧ Heap.rd H (Addr.add a (n * 7)) 0 [.int .i64 x.k, .int .i64 x.l, .int .i64 x.r, .int .u64 x.a, .int .u64 x.b, .int .u64 x.c, .int .u64 x.d]
theorem rd_kept {H H' : Heap} (he : Ext H H') {a : Addr} : ∀ {vs : List Value} {i : Nat}, H.rd a i vs → H'.rd a i vs
  | [], _, _ => trivial
  | v :: vs, i, h => ⟨by
      have h1 := h.1
      unfold Heap.cell? at h1 ⊢
      cases hb : H (a.add i).block with
      | none => rw [hb] at h1; simp at h1
      | some o => rw [he _ _ hb]; rw [hb] at h1; exact h1, rd_kept he h.2⟩
theorem Nds.ext {H H' : Heap} {p : Option Addr} {L : List Nd} (h : Nds H p L) (he : Ext H H') : Nds H' p L := fun n x hx => by
  obtain ⟨a, e, hr⟩ := h n x hx
  exact ⟨a, e, rd_kept he hr⟩
theorem Valid_n {H : Heap} {p : Option Addr} {c : Nat} {l : List Nd} {Q : Value → Heap → Prop} {E : Chain → Heap → Prop} (hv : Nds H p l)
    (hk : ∀ H', Ext H H' → Q (.bool (validOf l)) H') : Does Pr 40 #[.slice p l.length c] H Q E := by
  refine zqv_fn _ _ _ Q E H ?_
  unfold zqv zqv_86 zqv_84
  refine sel_beq (fun h0 => ?_) (fun h0 => ?_)
  · have : l = [] := List.eq_nil_of_length_eq_zero (by omega)
    subst this
    exact sel_tt (hk H (.refl H))
  have hne : l ≠ [] := fun e => by subst e; exact h0 rfl
  have hval : validOf l = if 256 < l.length then false else match vsteps [] l with
      | none => false
      | some sz => decide (sz.getD (l.length - 1) 0 = l.length) := by
    cases l with
    | nil => exact absurd rfl hne
    | cons x l => rfl
  refine sel_dec (fun hd => ?_) (fun hd => ?_)
  · rw [hval, if_pos (by omega)] at hk; exact hk H (.refl H)
  rw [hval, if_neg (by omega)] at hk
  generalize hV : vsteps [] l = V at hk
  unfold zqv_81
  refine ⟨⟨by omega, by omega, by omega, by omega⟩, ?_⟩
  refine nw_ext fun k H1 hk0 he1 hk1 => ?_
  simp only [Int.toNat_natCast] at hk1 ⊢
  have hk1 : H1 k = some (.cells (szc l.length []) 3 (0, 0)) := by rw [hk1, rep_zeros]; simp [szc]
  unfold zqv_77 zqv_74
  refine ⟨fun x Hc => ∃ (sz : List Int) (done rest : List Nd), l = done ++ rest ∧ sz.length = done.length ∧ x = (done.length : Nat) ∧ vsteps sz rest = V ∧ VI sz ∧ Ext H Hc ∧ Hc k = some (.cells (szc l.length sz) 3 (0, 0)),
    fun x _ => (l.length - x).toNat, ⟨[], [], l, rfl, rfl, rfl, hV, fun j hj => by simp at hj, he1, hk1⟩, ?_⟩
  rintro x Hc ⟨sz, done, rest, hl, hsl, rfl, hV', hI, he, hkc⟩
  have hlen : l.length = done.length + rest.length := by rw [hl]; simp
  unfold zqv_71 zqv_68
  refine sel_dec (fun hd' => ?_) (fun hd' => ?_)
  · cases rest with
    | nil => simp at hlen; omega
    | cons x rest =>
      have hx : l[done.length]? = some x := by rw [hl]; simp
      obtain ⟨a, rfl, hrd⟩ := hv.ext he _ _ hx
      · unfold zqv_63
        simp only [ptr_some, Int.toNat_natCast]
        refine ⟨⟨by omega, by omega⟩, x.k, x.l, x.r, x.a, x.b, x.c, x.d, hrd, ?_⟩
        refine nw_ext fun m H3 hm he3 hm3 => ?_
        have hkm : k ≠ m := ne_of hkc hm
        have hm0 : H m = none := he.free hm
        refine wr_at hm3 (by simp) rfl ?_
        have hm4 : (H3.set m (.cells x.cells.toArray 48 (0, 0))) m = some (.cells x.cells.toArray 48 (0, 0)) := Heap.set_self _ _ _
        have hk4 : (H3.set m (.cells x.cells.toArray 48 (0, 0))) k = some (.cells (szc l.length sz) 3 (0, 0)) := by rw [Heap.set_ne _ _ hkm]; exact he3 _ _ hkc
        have he4 : Ext H (H3.set m (.cells x.cells.toArray 48 (0, 0))) := (he.trans he3).set hm0 _
        change zqv_59 _ Q E _ _ _ _ _ _ _ _ _ _ _ _ _ (H3.set m (.cells x.cells.toArray 48 (0, 0)))
        revert hm4 hk4 he4
        generalize H3.set m (.cells x.cells.toArray 48 (0, 0)) = H4
        intro hm4 hk4 he4
        have hst : vsteps sz (x :: rest) = V := hV'
        have stop : vstep sz x = none → ∀ H5, Ext H H5 → Q (.bool false) H5 := fun hn H5 he5 => by
          unfold vsteps at hst
          rw [hn] at hst
          simp only [] at hst
          subst hst
          exact hk H5 he5
        generalize hNX : (fun (x21' : Int) (H1 : Heap) => (∃ (sz : List Int) (done rest : List Nd), l = done ++ rest ∧ sz.length = done.length ∧ x21' = (done.length : Nat) ∧ vsteps sz rest = V ∧ VI sz ∧ Ext H H1 ∧ H1 k = some (.cells (szc l.length sz) 3 (0, 0))) ∧
          (l.length - x21').toNat < (l.length - (done.length : Nat) : Int).toNat) = nx
        -- the last comparison
        have c7 : ∀ (v left right : Int) (H5 : Heap), vstep sz x = (if x.l = left ∧ x.r = right then some (sz ++ [v]) else none) → Ext H H5 → H5 m = some (.cells x.cells.toArray 48 (0, 0)) →
            H5 k = some (.cells (szc l.length (sz ++ [v])) 3 (0, 0)) →
            zqv_7 nx Q E (some a) l.length c (some ⟨k, 0, none⟩) l.length l.length (some ⟨m, 0, none⟩) left right (some a) l.length c (l.length : Nat) (done.length : Nat) H5 := by
          intro v left right H5 hvs he5 hm5 hk5
          unfold zqv_7
          simp only [ptr_some, add_at, Nat.zero_add]
          refine ldI_at (n := x.l) hm5 rfl ?_
          unfold zqv_5
          refine sel_bne (fun hne => ?_) (fun heq => ?_)
          · exact sel_tt (stop (by rw [hvs, if_neg (fun h => hne h.1)]) H5 he5)
          refine ldI_at (n := x.r) hm5 rfl ?_
          refine sel_bne (fun hne => ?_) (fun heq2 => ?_)
          · exact stop (by rw [hvs, if_neg (fun h => hne h.2)]) H5 he5
          have hvs : vstep sz x = some (sz ++ [v]) := by rw [hvs, if_pos ⟨heq, heq2⟩]
          obtain ⟨hI', _⟩ := vstep_ok hI hvs
          unfold vsteps at hst
          rw [hvs] at hst
          unfold zqv_3
          have hw : IntKind.wrap .i64 (((done.length : Nat) : Int) + 1) = ((done ++ [x]).length : Nat) := by rw [IntWalk.i64_in _ (by omega)]; simp
          rw [hw]
          subst hNX
          exact ⟨⟨sz ++ [v], done ++ [x], rest, by rw [hl]; simp, by simp [hsl], rfl, hst, hI', he5, hk5⟩, by simp at hlen ⊢; omega⟩
        have c17 : ∀ (s1 right : Int) (H5 : Heap), 1 ≤ s1 → s1 ≤ sz.length + 1 →
            vstep sz x = (if (sz.length : Int) - s1 < 0 then none else if x.l = sz.length - s1 ∧ x.r = right then some (sz ++ [s1 + sz.getD ((sz.length : Int) - s1).toNat 0]) else none) → Ext H H5 →
            H5 m = some (.cells x.cells.toArray 48 (0, 0)) → H5 k = some (.cells (szc l.length (sz ++ [s1])) 3 (0, 0)) →
            zqv_17 nx Q E (some a) l.length c (some ⟨k, 0, none⟩) l.length l.length (done.length : Nat) (some ⟨m, 0, none⟩) right (some a) l.length c (l.length : Nat) (done.length : Nat) H5 := by
          intro s1 right H5 h1 h2 hvs he5 hm5 hk5
          unfold zqv_17
          simp only [ptr_some, add_at, Int.toNat_natCast, Nat.mul_one, Nat.zero_add]
          refine ⟨⟨by omega, by omega⟩, ldI_at (n := s1) hk5 ?_ ?_⟩
          · rw [szc_get (by simp; omega), ← hsl]; simp [List.getD_eq_getElem?_getD]
          have hw : IntKind.wrap .i64 (((done.length : Nat) : Int) - s1) = (sz.length : Int) - s1 := by rw [IntWalk.i64_in _ (by omega)]; omega
          rw [hw]
          unfold zqv_14
          refine sel_dec (fun hneg => ?_) (fun hpos => ?_)
          · exact stop (by rw [hvs, if_pos hneg]) H5 he5
          rw [if_neg hpos] at hvs
          unfold zqv_12
          simp only [ptr_some, add_at, Int.toNat_natCast, Nat.mul_one, Nat.zero_add]
          have hb1 := hI ((sz.length : Int) - s1).toNat (by omega)
          refine ⟨⟨by omega, by omega⟩, ldI_at (n := s1) hk5 ?_ ⟨⟨by omega, by omega⟩, ldI_at (n := sz.getD ((sz.length : Int) - s1).toNat 0) hk5 ?_ ⟨⟨by omega, by omega⟩, ?_⟩⟩⟩
          · rw [szc_get (by simp; omega), ← hsl]; simp [List.getD_eq_getElem?_getD]
          · rw [szc_get (by simp; omega)]; simp [List.getD_eq_getElem?_getD, List.getElem?_append_left (show ((sz.length : Int) - s1).toNat < sz.length by omega)]
          refine wr_at hk5 (by rw [szc_size (by simp; omega)]; simp; omega) rfl ?_
          have hw2 : IntKind.wrap .i64 (s1 + sz.getD ((sz.length : Int) - s1).toNat 0) = s1 + sz.getD ((sz.length : Int) - s1).toNat 0 := IntWalk.i64_in _ (by omega)
          rw [hw2, ← hsl, szc_again (by omega)]
          have := c7 (s1 + sz.getD ((sz.length : Int) - s1).toNat 0) (sz.length - s1) right (H5.set k (.cells (szc l.length (sz ++ [s1 + sz.getD ((sz.length : Int) - s1).toNat 0])) 3 (0, 0))) hvs (he5.set hk0 _)
            (by rw [Heap.set_ne _ _ (Ne.symm hkm)]; exact hm5) (Heap.set_self _ _ _)
          rw [← hsl] at this
          exact this
        have c54 : ¬ (x.k ≠ 2 ∧ ¬ (x.a = 0 ∧ x.b = 0 ∧ x.c = 0 ∧ x.d = 0)) →
            zqv_54 nx Q E (some a) l.length c (some ⟨k, 0, none⟩) l.length l.length (done.length : Nat) (some ⟨m, 0, none⟩) (some a) l.length c (l.length : Nat) (done.length : Nat) H4 := by
          intro hok
          have hvs0 : vstep sz x = vstep sz x := rfl
          conv at hvs0 => rhs; unfold vstep
          simp only [] at hvs0
          rw [if_neg hok] at hvs0
          unfold zqv_54 zqv_51
          simp only [ptr_some, add_at, Int.toNat_natCast, Nat.mul_one, Nat.zero_add]
          refine ⟨⟨by omega, by omega⟩, ?_⟩
          refine wr_at hk4 (by rw [szc_size (by omega)]; simp; omega) rfl ?_
          rw [← hsl, szc_push (by omega), hsl]
          have hm5 : (H4.set k (.cells (szc l.length (sz ++ [1])) 3 (0, 0))) m = some (.cells x.cells.toArray 48 (0, 0)) := by rw [Heap.set_ne _ _ (Ne.symm hkm)]; exact hm4
          have hk5 : (H4.set k (.cells (szc l.length (sz ++ [1])) 3 (0, 0))) k = some (.cells (szc l.length (sz ++ [1])) 3 (0, 0)) := Heap.set_self _ _ _
          have he5 : Ext H (H4.set k (.cells (szc l.length (sz ++ [1])) 3 (0, 0))) := he4.set hk0 _
          revert hm5 hk5 he5
          generalize H4.set k (.cells (szc l.length (sz ++ [1])) 3 (0, 0)) = H5
          intro hm5 hk5 he5
          unfold zqv_47
          simp only [ptr_some]
          refine ldI_at (n := x.k) hm5 rfl (Kids_c ⟨_, rfl, ?_⟩)
          unfold zqv_34
          refine sel_beq (fun hk0' => ?_) (fun hk0' => ?_)
          · rw [if_pos hk0'] at hvs0
            exact c7 1 0 0 H5 hvs0 he5 hm5 hk5
          rw [if_neg hk0'] at hvs0
          unfold zqv_31
          refine sel_beq (fun hk2 => ?_) (fun hk2 => ?_)
          · rw [if_pos hk2] at hvs0
            unfold zqv_26 zqv_23
            have hw : IntKind.wrap .i64 (((done.length : Nat) : Int) - 1) = (sz.length : Int) - 1 := by rw [IntWalk.i64_in _ (by omega)]; omega
            rw [hw]
            refine sel_dec (fun hneg => ?_) (fun hpos => ?_)
            · exact stop (by rw [hvs0, if_pos hneg]) H5 he5
            rw [if_neg hpos] at hvs0
            unfold zqv_21
            simp only [ptr_some, add_at, Int.toNat_natCast, Nat.mul_one, Nat.zero_add]
            have hb1 := hI ((sz.length : Int) - 1).toNat (by omega)
            refine ⟨⟨by omega, by omega⟩, ldI_at (n := 1) hk5 ?_ ⟨⟨by omega, by omega⟩, ldI_at (n := sz.getD ((sz.length : Int) - 1).toNat 0) hk5 ?_ ⟨⟨by omega, by omega⟩, ?_⟩⟩⟩
            · rw [szc_get (by simp; omega), ← hsl]; simp [List.getD_eq_getElem?_getD]
            · rw [szc_get (by simp; omega), List.getD_eq_getElem?_getD, List.getElem?_append_left (show ((sz.length : Int) - 1).toNat < sz.length by omega), List.getD_eq_getElem?_getD]
            refine wr_at hk5 (by rw [szc_size (by simp; omega)]; simp; omega) rfl ?_
            have hw2 : IntKind.wrap .i64 (1 + sz.getD ((sz.length : Int) - 1).toNat 0) = 1 + sz.getD ((sz.length : Int) - 1).toNat 0 := IntWalk.i64_in _ (by omega)
            rw [hw2, ← hsl, szc_again (by omega)]
            have := c17 (1 + sz.getD ((sz.length : Int) - 1).toNat 0) (sz.length - 1) (H5.set k (.cells (szc l.length (sz ++ [1 + sz.getD ((sz.length : Int) - 1).toNat 0])) 3 (0, 0))) (by omega) (by omega) hvs0 (he5.set hk0 _)
              (by rw [Heap.set_ne _ _ (Ne.symm hkm)]; exact hm5) (Heap.set_self _ _ _)
            rw [← hsl] at this
            exact this
          rw [if_neg hk2] at hvs0
          unfold zqv_29
          refine sel_beq (fun hk1' => ?_) (fun hk1' => ?_)
          · rw [if_pos hk1'] at hvs0
            exact c17 1 0 H5 (by omega) (by omega) hvs0 he5 hm5 hk5
          · rw [if_neg hk1'] at hvs0
            unfold zqv_10
            exact stop hvs0 H5 he5
        unfold zqv_59
        simp only [ptr_some, add_at]
        refine ldI_at (n := x.k) hm4 rfl ?_
        unfold zqv_57
        refine sel_bne (fun hk2 => ?_) (fun hk2 => ?_)
        · refine ⟨x.a, x.b, x.c, x.d, rd_at hm4 _ _ 0 fun j hj => ?_, ?_⟩
          · match j, hj with
            | 0, _ => rfl
            | 1, _ => rfl
            | 2, _ => rfl
            | 3, _ => rfl
          · refine sel_not (fun hf => ?_) (fun ht => ?_)
            · refine stop ?_ H4 he4
              unfold vstep
              simp only []
              rw [if_pos ⟨hk2, fun h => by simp [eqVs, eqV, h] at hf⟩]
            · exact c54 (fun h => h.2 (by simp [eqVs, eqV] at ht; omega))
        · exact sel_ff (c54 (fun h => h.1 hk2))
  · have : rest = [] := List.eq_nil_of_length_eq_zero (by omega)
    subst this
    simp only [List.append_nil] at hl
    subst hl
    have hV' : some sz = V := hV'
    subst hV'
    unfold zqv_1
    have hw : IntKind.wrap .i64 (((l.length : Nat) : Int) - 1) = ((l.length - 1 : Nat) : Int) := by rw [IntWalk.i64_in _ (by omega)]; omega
    rw [hw]
    simp only [ptr_some, add_at, Int.toNat_natCast, Nat.mul_one, Nat.zero_add]
    refine ⟨⟨by omega, by omega⟩, ldI_at hkc (szc_get (by omega)) ?_⟩
    have := hk Hc he
    have e : ((sz.getD (l.length - 1) 0 : Int) == ((l.length : Nat) : Int)) = decide (sz.getD (l.length - 1) 0 = (l.length : Int)) := rfl
    rw [e]; exact this
theorem vec_at7 {H : Heap} {p : Option Addr} {l c : Nat} {L : List Nd} (h : Vec H 7 p l c (flat L)) {n : Nat} {x : Nd} (hx : L[n]? = some x) :
    ∃ a, p = some a ∧ Heap.rd H (Addr.add a (n * 7)) 0 [.int .i64 x.k, .int .i64 x.l, .int .i64 x.r, .int .u64 x.a, .int .u64 x.b, .int .u64 x.c, .int .u64 x.d] := by
  obtain ⟨v1, v2, v3⟩ := h
  have hn : n < L.length := (List.getElem?_eq_some_iff.1 hx).1
  rw [flat_length] at v1
  cases p with
  | none => simp only [] at v3; omega
  | some a =>
    obtain ⟨b, cs, t, rfl, hb, hcs, hget⟩ := v3
    refine ⟨_, rfl, ?_⟩
    rw [add_at]
    refine rd_at hb _ _ 0 fun j hj => ?_
    have hj : j < 7 := hj
    rw [Nat.add_zero, Nat.zero_add, hget _ (by omega), flat_get hx hj]; rfl
theorem Vec.nds {H : Heap} {p : Option Addr} {l c : Nat} {L : List Nd} (h : Vec H 7 p l c (flat L)) : Nds H p L := fun n x hx => vec_at7 h hx
theorem Valid_c {H : Heap} {p : Option Addr} {c : Nat} {l : List Nd} {Q : Value → Heap → Prop} {E : Chain → Heap → Prop} (hv : Vec H 7 p l.length c (flat l))
    (hk : ∀ H', Ext H H' → Q (.bool (validOf l)) H') : Does Pr 40 #[.slice p l.length c] H Q E := Valid_n (Vec.nds hv) hk
end Go.Proofs.Ytaffcoiomggpfaa
