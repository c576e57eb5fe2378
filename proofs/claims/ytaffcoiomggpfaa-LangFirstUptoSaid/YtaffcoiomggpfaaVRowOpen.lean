/- Opening arguments: what the form reads of them, over a heap view. -/
import Derived.Test.YtaffcoiomggpfaaVRow
import Derived.Test.YtaffcoiomggpfaaVMill
namespace Go.Proofs.Ytaffcoiomggpfaa.row
open Go.ChangeShapes Go.WideShapes Go.ChangeAt Go.RowKit Go.ChangeMaps
open Go.V
set_option linter.unusedVariables false
variable {H : Type} {enc : TypeId × Value → H} {P : Program}

theorem one_le {H : Type} (d : DataW H) : 1 ≤ Rows.uptoBulk d := by
  cases d with
  | lit l => cases l <;> simp [Rows.uptoBulk]
  | nil => simp [Rows.uptoBulk]
  | ptr d => simp [Rows.uptoBulk]
  | slice elems spare => simp [Rows.uptoBulk]
  | agg parts => simp [Rows.uptoBulk]
  | iface t d => simp [Rows.uptoBulk]
  | map entries => simp [Rows.uptoBulk]
  | held h => simp [Rows.uptoBulk]
theorem part_le {H : Type} {d : DataW H} {l : List (DataW H)} (h : d ∈ l) : Rows.uptoBulk d ≤ Rows.uptoBulkAll l := by
  induction l with
  | nil => cases h
  | cons x r ih =>
    simp only [Rows.uptoBulkAll]
    cases List.mem_cons.1 h with
    | inl e => subst e; omega
    | inr e => have := ih e; omega
theorem length_le {H : Type} (l : List (DataW H)) : l.length ≤ Rows.uptoBulkAll l := by
  induction l with
  | nil => simp [Rows.uptoBulkAll]
  | cons x r ih => have := one_le x; simp only [Rows.uptoBulkAll, List.length_cons]; omega
theorem slice_le {H : Type} (elems spare : List (DataW H)) : elems.length + spare.length + 1 ≤ Rows.uptoBulk (.slice elems spare) := by
  have h1 := length_le elems
  have h2 := length_le spare
  simp only [Rows.uptoBulk]
  omega
theorem bound {H : Type} {l : List (DataW H)} (hk : Rows.uptoSmall H l = true) : Rows.uptoBulkAll l ≤ 1048576 := of_decide_eq_true hk

theorem cell_view {w : World} {b o : Nat} {v : Value} (h : w.cell? ⟨b, o, none⟩ = some v) : Heap.cell? (fun i => w.heap[i]?) ⟨b, o, none⟩ = some v := by
  unfold World.cell? at h
  unfold Heap.cell?
  dsimp only at h ⊢
  revert h
  generalize w.heap[b]? = y
  cases y with
  | none => simp
  | some x => cases x <;> simp
theorem rd_of {H : Heap} {b : Nat} : ∀ (vs : List Value) (o i : Nat), (∀ j, j < vs.length → ∃ v, vs[j]? = some v ∧ H.cell? ⟨b, o + i + j, none⟩ = some v) → H.rd ⟨b, o, none⟩ i vs
  | [], _, _, _ => trivial
  | v :: vs, o, i, hv => ⟨by
      rw [add_at]
      obtain ⟨v', h1, h2⟩ := hv 0 (by simp)
      simp at h1; subst h1; exact h2, rd_of vs o (i + 1) fun j hj => by
      obtain ⟨v', h1, h2⟩ := hv (j + 1) (by simp; omega)
      exact ⟨v', by simpa using h1, by rw [← h2]; congr 2; omega⟩⟩
/-- A slice of integers: what it holds. -/
theorem ints_open {k : IntKind} {e t : TypeId} {W : World} {v : Value} {d : DataW H} {p : List MemPlace} {ds : List (DataW H)} (ht : P.underlying t = some (.slice e)) (he : P.underlying e = some (.int k)) (hc : P.cellsOf e = 1)
    {base : Nat} (hok : Value.okWide P W .any base t v) (h : DataW.Trod enc P W 0 (fun _ => true) true t v d p) (hk : Rows.uptoSmall H ds = true) (hd : d ∈ ds) :
    ∃ q n c, v = .slice q n c ∧ n ≤ c ∧ c ≤ 1048576 ∧ ∃ xs : List Int, xs.length = n ∧ Heap.rdS (fun i => W.heap[i]?) q (xs.map (Value.int k)) ∧ ∀ x ∈ xs, (Lit.int k x).wf = true := by
  obtain ⟨fuel, h⟩ := h
  obtain ⟨a0, l0, c0, rfl⟩ := okWide_slice ht hok
  have hb := Nat.le_trans (part_le hd) (bound hk)
  rcases open_ints ht he hc h with ⟨h1, h2⟩ | ⟨a, len, cap, zs, h1, h2, h3, h4, h5, h6, h7, h8⟩
  · simp [Value.cells] at h1
    obtain ⟨rfl, rfl, rfl⟩ := h1
    exact ⟨none, 0, 0, rfl, by omega, by omega, [], rfl, rfl, by simp⟩
  · simp [Value.cells] at h1
    obtain ⟨ha, hb1, hc1⟩ := h1
    subst hb1 hc1 ha
    simp at h5
    have hd' : d = .slice (lits k (zs.take l0)) (lits k (zs.drop l0)) := congrArg (·.1) h6
    rw [hd'] at hb
    have := slice_le (H := H) (lits k (zs.take l0)) (lits k (zs.drop l0))
    have hl1 : ∀ l : List Int, (lits (H := H) k l).length = l.length := fun l => by simp [lits]
    rw [hl1, hl1, List.length_take, List.length_drop] at this
    refine ⟨some a, _, _, rfl, h3, by omega, zs.take l0, by simp; omega, ?_, fun x hx => h8 x (List.mem_of_mem_take hx)⟩
    by_cases hl : zs.length = 0
    · have : zs = [] := List.eq_nil_of_length_eq_zero hl
      subst this
      simp only [List.take_nil, List.map_nil]
      trivial
    · obtain ⟨b, off, rfl, hcell⟩ := ints_at h7 (by omega)
      refine rd_of _ off 0 fun j hj => ?_
      simp at hj
      have hj1 : j < l0 := by omega
      have hj2 : j < zs.length := by omega
      refine ⟨.int k (zs.getD j 0), by simp [hj1, List.getD_eq_getElem?_getD, List.getElem?_eq_getElem hj2], ?_⟩
      rw [Nat.add_zero]
      exact cell_view (hcell j hj2)
theorem Ints_open {t e : TypeId} {W : World} {v : Value} {d : DataW H} {p : List MemPlace} {ds : List (DataW H)} (ht : P.underlying t = some (.slice e)) (he : P.underlying e = some (.int .i64)) (hc : P.cellsOf e = 1)
    {base : Nat} (hok : Value.okWide P W .any base t v) (h : DataW.Trod enc P W 0 (fun _ => true) true t v d p) (hk : Rows.uptoSmall H ds = true) (hd : d ∈ ds) :
    ∃ q n c xs, v = .slice q n c ∧ Ints (fun i => W.heap[i]?) q n xs := by
  obtain ⟨q, n, c, h1, h2, h3, xs, h4, h5, _⟩ := ints_open (k := .i64) ht he hc hok h hk hd
  exact ⟨q, n, c, xs, h1, h4, by omega, h5⟩
end Go.Proofs.Ytaffcoiomggpfaa.row
