/- The statement LangFirstUptoSaid: for every input of the given bulk it answers true and changes nothing. -/
import Derived.Test.YtaffcoiomggpfaaVRowByt
import Derived.Test.YtaffcoiomggpfaaVLFirst
import Derived.Test.YtaffcoiomggpfaaVRowNodes
namespace Go.Proofs.Ytaffcoiomggpfaa.langfirst
open Go.ChangeShapes Go.WideShapes Go.ChangeAt Go.RowKit Go.ChangeMaps
open Go.V
set_option linter.unusedVariables false

set_option maxRecDepth 100000 in
theorem contract (H : Type) (enc : TypeId × Value → H) (W : World) (base : Nat) (args : Array Value) (ds gs : List (DataW H)) (before : List MemPlace)
    (hval : ∀ (j : Nat) t v, Try.f3.params[j]? = some t → args[j]? = some v → Value.okWide Try.prog W .any base t v)
    (hW : DataW.Whole enc Try.prog Try.f3.params.toList Rows.langFirstSpec.vars false W args.toList ds gs before) (hk : Rows.uptoSmall H (ds ++ gs) = true) :
    Calls Try.prog 3 args W fun e W' => ∃ v, e = .returned v ∧ Rows.langFirstSpec.post enc Try.prog Try.f3 false true false false W args v W' := by
  have hW' := hW
  obtain ⟨p, q, hA0, hV, rfl, hfz, hnd⟩ := hW
  have hA : DataW.TrodAll enc Try.prog W 0 (fun _ => true) true Try.f3.params.toList args.toList ds p := hA0
  rw [Try.params3] at hA hval
  obtain ⟨v0, vs0, d0, ds0, p0, q0, hargs, rfl, rfl, h0, r0⟩ := trodAll_cons hA
  obtain ⟨v1, vs1, d1, ds1, p1, q1, rfl, rfl, rfl, h1, r1⟩ := trodAll_cons r0
  obtain ⟨v2, vs2, d2, ds2, p2, q2, rfl, rfl, rfl, h2, r2⟩ := trodAll_cons r1
  obtain ⟨rfl, rfl, rfl⟩ := trodAll_nil r2
  obtain rfl : args = #[v0, v1, v2] := by cases args; simp_all
  obtain ⟨rfl, rfl⟩ := trodVars_none hV
  obtain ⟨sl0, n0, c0, xs0, rfl, hi0⟩ := row.Ints_open Try.underlying22 Try.underlying3 (by kernel_rfl) (hval 0 22 v0 rfl rfl) h0 hk (by simp)
  obtain ⟨sl2, n2, c2, bs2, rfl, hn2, hb2⟩ := row.Byt_open Try.underlying24 Try.underlying5 (by kernel_rfl) (hval 2 24 v2 rfl rfl) h2 hk (by simp)
  obtain ⟨sl1, c1, L1, rfl, hr1, hl1⟩ := row.Nds_open Try.underlying23 Try.underlying48 (by kernel_rfl) ⟨rfl, rfl, rfl, rfl⟩ Try.underlying3 Try.underlying3 Try.underlying3 ⟨by kernel_rfl, by kernel_rfl, by kernel_rfl, by kernel_rfl⟩ Try.underlying46 Try.underlying44 (by kernel_rfl) (hval 1 23 v1 rfl rfl) h1 hk (by simp)
  refine (row.run_of fun Q E hQ => LangFirst_c hi0 hr1 hl1 hb2 hQ).mono fun e w' hr => ?_
  obtain ⟨rfl, hB⟩ := hr
  exact ⟨_, rfl, row.post_true row.laidOut rfl (by rw [Try.params3]; intro t ht; simp at ht; rcases ht with rfl | rfl | rfl <;> exact ⟨by kernel_rfl, of_decide_eq_true (by kernel_rfl)⟩) (by kernel_rfl) Try.underlying4 hW' rfl hB⟩

set_option maxRecDepth 100000 in
theorem lifted (os : Os) (started : os.Started) (H : Type) (enc : TypeId × Value → H) (F : Stop.Interp) :
    ReturnsInHanded {} Try.checked os 3 .any ((Rows.OpenSpec.upto Rows.langFirstSpec).pre6 enc Try.prog Try.f3 Rows.langFirstUptoRow.domain false) (((Rows.OpenSpec.upto Rows.langFirstSpec).at F).post enc Try.prog Try.f3 false true false false) := by
  refine returnsInHanded_of_cond (C := Try.checked) (s := Rows.OpenSpec.upto Rows.langFirstSpec) (k := Rows.uptoSmall) rfl row.own started (by kernel_rfl) Try.func3
    (OpenSpec.witness (enc := enc) (C := Try.checked) (s := Rows.OpenSpec.upto Rows.langFirstSpec) (k := Rows.uptoSmall) rfl false ⟨#[], #[.slice none 0 0, .slice none 0 0, .slice none 0 0], []⟩ 8 (by kernel_rfl) (by kernel_rfl) (by kernel_rfl)
      (x := ([.nil, .nil, .nil], [], [])) (by kernel_rfl) rfl (by kernel_rfl)) ?_
  intro W base args ds gs before hval hW _ hk _
  exact contract H enc W base args ds gs before hval hW hk

theorem proved : Rows.LangFirstUptoSaid :=
  OpenClaim.holds_of_cond 3 Try.f3 rfl rfl rfl rfl rfl rfl rfl ⟨rfl, rfl, rfl, rfl, rfl⟩ rfl rfl rfl rfl rfl (by kernel_rfl) Try.func3 (by kernel_rfl)
    (of_decide_eq_true (by kernel_rfl)) (by unfold Func.isWrapper; first | (rw [if_pos (by decide +kernel)]; kernel_rfl) | (rw [if_neg (by decide +kernel)]; exact ⟨rfl, rfl⟩))
    (fun os started H enc _ F => lifted os started H enc F)
#print axioms proved
end Go.Proofs.Ytaffcoiomggpfaa.langfirst
