/- Opening arguments: nodes. -/
import Derived.Test.YtaffcoiomggpfaaVRowOpen
import Derived.Test.YtaffcoiomggpfaaVValid
import Derived.Deep.Slices
import Derived.Laws.IdiomArrays
namespace Go.Proofs.Ytaffcoiomggpfaa.row
open Go.ChangeShapes Go.WideShapes Go.ChangeAt Go.RowKit Go.ChangeMaps
open Go.V
set_option linter.unusedVariables false
variable {H : Type} {enc : TypeId × Value → H} {P : Program}

theorem cell_view' {w : World} {a : Addr} {v : Value} (h : w.cell? a = some v) : Heap.cell? (fun i => w.heap[i]?) a = some v := by
  obtain ⟨b, o, s⟩ := a
  cases s with
  | none => exact cell_view h
  | some s =>
    unfold World.cell? at h
    split at h
    · simp at h
    · cases h
theorem Nds_open {t e u : TypeId} {f0 f1 f2 f3 : Field} {W : World} {v : Value} {d : DataW H} {p : List MemPlace} {ds : List (DataW H)} (ht : P.underlying t = some (.slice e)) (he : P.underlying e = some (.struct #[f0, f1, f2, f3]))
    (hc : P.cellsOf e = 7) (ho : f0.offset = 0 ∧ f1.offset = 1 ∧ f2.offset = 2 ∧ f3.offset = 3) (hi0 : P.underlying f0.type = some (.int .i64)) (hi1 : P.underlying f1.type = some (.int .i64)) (hi2 : P.underlying f2.type = some (.int .i64))
    (hcs : P.cellsOf f0.type = 1 ∧ P.cellsOf f1.type = 1 ∧ P.cellsOf f2.type = 1 ∧ P.cellsOf f3.type = 4) (ha : P.underlying f3.type = some (.array 4 u)) (hu : P.underlying u = some (.int .u64)) (hcu : P.cellsOf u = 1)
    {base : Nat} (hok : Value.okWide P W .any base t v) (h : DataW.Trod enc P W 0 (fun _ => true) true t v d p) (hk : Rows.uptoSmall H ds = true) (hd : d ∈ ds) :
    ∃ (q : Option Addr) (c : Nat) (L : List Nd), v = .slice q L.length c ∧ Nds (fun i => W.heap[i]?) q L ∧ L.length ≤ 1048576 := by
  obtain ⟨fuel, h⟩ := h
  obtain ⟨a0, l0, c0, rfl⟩ := okWide_slice ht hok
  have hb := Nat.le_trans (part_le hd) (bound hk)
  obtain ⟨o0, o1, o2, o3⟩ := ho
  obtain ⟨k0, k1, k2, k3⟩ := hcs
  rcases Go.Deep.open_slice ht h with ⟨h1, h2⟩ | ⟨a, len, cap, m, n, D, Pl, h1, h2, h3, h4, h5, h6, h7⟩
  · simp [Value.cells] at h1
    obtain ⟨rfl, rfl, rfl⟩ := h1
    exact ⟨none, 0, [], rfl, fun n x hx => by simp at hx, by simp⟩
  · simp [Value.cells] at h1
    obtain ⟨ha0, hb1, hc1⟩ := h1
    subst hb1 hc1 ha0
    simp at h5
    subst h5
    have hd' : d = .slice ((List.range l0).map D) ((List.range (m - l0)).map fun j => D (l0 + j)) := congrArg (·.1) h6
    rw [hd'] at hb
    have hlen := slice_le (H := H) ((List.range l0).map D) ((List.range (m - l0)).map fun j => D (l0 + j))
    rw [List.length_map, List.length_map, List.length_range, List.length_range] at hlen
    have each : ∀ i, i < l0 → ∃ x : Nd, Heap.rd (fun i => W.heap[i]?) (Addr.add a (i * 7)) 0 [.int .i64 x.k, .int .i64 x.l, .int .i64 x.r, .int .u64 x.a, .int .u64 x.b, .int .u64 x.c, .int .u64 x.d] := by
      intro i hi
      obtain ⟨cs', g1, g2⟩ := h7 i (by omega)
      rw [hc] at g1
      obtain ⟨_, hl, hcell⟩ := World.cells?_some g1
      obtain ⟨xs, k, hk', hxy, _, hxl, hf⟩ := DataW.trod_struct he g2
      match xs, hxl, cs', hl with
      | [y0, y1, y2, y3], _, [v0, v1, v2, v3, v4, v5, v6], _ =>
        have e0 := hf 0 f0 rfl
        have e1 := hf 1 f1 rfl
        have e2 := hf 2 f2 rfl
        have e3 := hf 3 f3 rfl
        simp [o0, o1, o2, o3, k0, k1, k2, k3] at e0 e1 e2 e3
        obtain ⟨n0, q0, _⟩ := DataW.trod_int hi0 e0
        obtain ⟨n1, q1, _⟩ := DataW.trod_int hi1 e1
        obtain ⟨n2, q2, _⟩ := DataW.trod_int hi2 e2
        obtain ⟨z0, z1, z2, z3, nn, _, w0, w1, w2, w3⟩ := trod_array4 ha hcu e3
        obtain ⟨n3, q3, _⟩ := DataW.trod_int hu w0
        obtain ⟨n4, q4, _⟩ := DataW.trod_int hu w1
        obtain ⟨n5, q5, _⟩ := DataW.trod_int hu w2
        obtain ⟨n6, q6, _⟩ := DataW.trod_int hu w3
        simp only [List.cons.injEq, and_true] at q0 q1 q2 q3 q4 q5 q6
        subst q0 q1 q2 q3 q4 q5 q6
        exact ⟨⟨n0, n1, n2, n3, n4, n5, n6⟩, cell_view' (hcell 0 (by omega)), cell_view' (hcell 1 (by omega)), cell_view' (hcell 2 (by omega)), cell_view' (hcell 3 (by omega)), cell_view' (hcell 4 (by omega)), cell_view' (hcell 5 (by omega)), cell_view' (hcell 6 (by omega)), trivial⟩
    obtain ⟨q, hq⟩ := Go.Deep.choose_lt each
    refine ⟨some a, m, (List.range l0).map q, by simp, fun k x hx => ?_, by simp; omega⟩
    simp only [List.getElem?_map, Option.map_eq_some_iff] at hx
    obtain ⟨j, hj, rfl⟩ := hx
    have hkl : k < l0 := by have := (List.getElem?_eq_some_iff.1 hj).1; simpa using this
    have : j = k := by
      rw [List.getElem?_range hkl] at hj
      exact (Option.some.inj hj).symm
    subst this
    exact ⟨a, rfl, hq j hkl⟩
end Go.Proofs.Ytaffcoiomggpfaa.row
