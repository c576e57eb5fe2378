/- Opening arguments: bytes. -/
import Derived.Test.YtaffcoiomggpfaaVRowOpen
import Derived.Test.YtaffcoiomggpfaaVByt
namespace Go.Proofs.Ytaffcoiomggpfaa.row
open Go.ChangeShapes Go.WideShapes Go.ChangeAt Go.RowKit Go.ChangeMaps
open Go.V
set_option linter.unusedVariables false
variable {H : Type} {enc : TypeId × Value → H} {P : Program}
theorem byte_back {x : Int} (h : (Lit.int .u8 x).wf = true) : byteV (UInt8.ofNat x.toNat) = Value.int .u8 x := by
  have hb : 0 ≤ x ∧ x ≤ 255 := by
    simp only [Lit.wf, Bool.and_eq_true, decide_eq_true_eq] at h
    simpa [IntKind.min, IntKind.max, IntKind.signed, IntKind.bits] using h
  unfold byteV
  congr 1
  rw [UInt8.toNat_ofNat']
  omega
theorem Byt_open {t e : TypeId} {W : World} {v : Value} {d : DataW H} {p : List MemPlace} {ds : List (DataW H)} (ht : P.underlying t = some (.slice e)) (he : P.underlying e = some (.int .u8)) (hc : P.cellsOf e = 1)
    {base : Nat} (hok : Value.okWide P W .any base t v) (h : DataW.Trod enc P W 0 (fun _ => true) true t v d p) (hk : Rows.uptoSmall H ds = true) (hd : d ∈ ds) :
    ∃ q n c bs, v = .slice q n c ∧ n ≤ 1048576 ∧ Byt (fun i => W.heap[i]?) q n c bs := by
  obtain ⟨q, n, c, h1, h2, h3, xs, h4, h5, h6⟩ := ints_open (k := .u8) ht he hc hok h hk hd
  refine ⟨q, n, c, xs.map fun x => UInt8.ofNat x.toNat, h1, by omega, by simpa using h4, h2, ?_⟩
  have : (xs.map fun x => UInt8.ofNat x.toNat).map byteV = xs.map (Value.int .u8) := by
    rw [List.map_map]
    exact List.map_congr_left fun x hx => byte_back (h6 x hx)
  rw [this]; exact h5
theorem u8_of {x : Int} (h : (Lit.int .u8 x).wf = true) : ∃ b : Nat, x = (b : Nat) ∧ b < 256 := by
  have hb : 0 ≤ x ∧ x ≤ 255 := by
    simp only [Lit.wf, Bool.and_eq_true, decide_eq_true_eq] at h
    simpa [IntKind.min, IntKind.max, IntKind.signed, IntKind.bits] using h
  exact ⟨x.toNat, by omega, by omega⟩
end Go.Proofs.Ytaffcoiomggpfaa.row
