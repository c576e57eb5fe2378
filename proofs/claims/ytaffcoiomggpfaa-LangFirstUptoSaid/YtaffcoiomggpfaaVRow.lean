/- Rows of laws that answer true and change nothing: from a contract to the given form. -/
import Derived.Test.YtaffcoiomggpfaaRows
import Derived.WalkKit
import Derived.ProofKit
import Derived.OpenShut
import Derived.JoinedCond
import Derived.Below
import Derived.ChangeSlices
import Derived.ChangeMaps5
import Derived.WideKeyArgs
import Derived.Test.YtaffcoiomggpfaaVLib
import Derived.Test.YtaffcoiomggpfaaVPr
namespace Go.Proofs.Ytaffcoiomggpfaa.row
open Go.ChangeShapes Go.WideShapes Go.ChangeAt Go.RowKit Go.ChangeMaps
open Go.V
set_option linter.unusedVariables false

/-- From a contract over the whole heap to the run. -/
theorem run_of {f : FuncId} {args : Array Value} {w : World} (h : ∀ (Q : Value → Heap → Prop) (E : Chain → Heap → Prop), (∀ H', Ext (fun i => w.heap[i]?) H' → Q (.bool true) H') → Does Pr f args (fun i => w.heap[i]?) Q E) :
    Calls Pr f args w fun e w' => e = .returned (.bool true) ∧ Below w.heap.size w w' := by
  have hd := (h (fun v H' => v = .bool true ∧ Ext (fun i => w.heap[i]?) H') (fun _ _ => False) fun H' he => ⟨rfl, he⟩).2 w (fun i o ho => ho)
  refine Calls.mono hd fun e w' hr => ?_
  cases e with
  | returned v =>
    obtain ⟨H', hs, hk, rfl, he⟩ := hr
    refine ⟨rfl, hk.os, hk.tape, hk.output, hk.size, fun k hlt => ?_⟩
    have : w.heap[k]? = some w.heap[k] := Array.getElem?_eq_getElem hlt
    rw [this]; exact hs k _ (he k _ this)
  | panicked ch => obtain ⟨_, _, _, h⟩ := hr; exact h.elim
  | outgrown => exact hr.elim
theorem own : ownKnob Try.prog.godebug = none := by kernel_rfl
theorem laidOut : laidOutB Try.prog = true := by kernel_rfl

variable {H : Type} {enc : TypeId × Value → H} {P : Program}
theorem stays {W W' : World} {sp' : Nat → Bool} (hl : laidOutB P = true) : ∀ {ts : List TypeId} {vs : List Value} {ds : List (DataW H)} {ps : List MemPlace}, (∀ t ∈ ts, P.readableRec t = true ∧ t < P.types.size) →
    DataW.TrodAll enc P W 0 (fun _ => true) true ts vs ds ps → (∀ p ∈ ps, W.sameAt W' p) → (∀ p ∈ ps, sp' p.block = true) → DataW.TrodAll enc P W' 0 sp' true ts vs ds ps
  | [], [], [], _, _, h, _, _ => h
  | t :: ts, v :: vs, d :: ds, _, ht, ⟨p, q, h1, h2, e⟩, hs, hp => by
    subst e
    exact ⟨p, q, WideElems.Trod_stays hl (ht t (by simp)).1 (ht t (by simp)).2 h1 (fun x hx => hs x (by simp [hx])) (fun x hx => hp x (by simp [hx])),
      stays hl (fun u hu => ht u (by simp [hu])) h2 (fun x hx => hs x (by simp [hx])) (fun x hx => hp x (by simp [hx])), rfl⟩
/-- The call answered true, and what was there is as it was. -/
theorem post_true {f : Func} {s : ChangeSpec} {W W' : World} {args : Array Value} {ds gs : List (DataW H)} {before : List MemPlace} (hl : laidOutB P = true) (hs : s.vars = [])
    (hr : ∀ t ∈ f.params.toList, P.readableRec t = true ∧ t < P.types.size) (hrt : f.resultTypes = #[4]) (h4 : P.underlying 4 = some .bool)
    (hW : DataW.Whole enc P f.params.toList s.vars false W args.toList ds gs before) (hfn : s.fn H (ds ++ gs) = { results := [.lit (.bool true)], args := ds }) (hB : Below W.heap.size W W') :
    s.post enc P f false true false false W args (.bool true) W' := by
  have hW' := hW
  obtain ⟨p, q, hA, hV, rfl, hfz, hnd⟩ := hW
  rw [hs] at hV
  obtain ⟨rfl, rfl⟩ := trodVars_none hV
  have hlt : ∀ x ∈ p, x.block < W.heap.size := fun x hx => hW'.lt x (List.mem_append_left _ hx)
  have ha : ∀ sp : Nat → Bool, (∀ x ∈ p, sp x.block = true) → DataW.TrodAll enc P W' 0 sp true f.params.toList args.toList (s.fn H (ds ++ [])).args p := fun sp hsp => by
    rw [hfn]; exact stays hl hr hA (fun x hx => hB.same (hlt x hx)) hsp
  have hv : ∀ sp : Nat → Bool, DataW.TrodVars enc P W' sp s.vars (s.fn H (ds ++ [])).vars [] := fun sp => by rw [hs, hfn]; rfl
  have hres : ∀ (b : Nat) (sp : Nat → Bool) (hd : Bool), DataW.TrodAll enc P W' b sp hd f.resultTypes.toList ((Value.bool true).resultList f.resultTypes.size) (s.fn H (ds ++ [])).results [] := fun b sp hd => by
    rw [hrt, hfn]; exact trodAll_cons_mk (shut_bool h4 _) trodAll_mk0
  refine ⟨ds, [], p ++ [], [], p, [], hW', hres _ _ _, ha _ (fun x hx => by simpa using hlt x hx), hv _, World.keptBut_mono (fun x hx => ⟨hx, .inr (by simpa using hx)⟩) (hB.frame _), fun _ => ?_⟩
  refine ⟨ok_one (by rw [hrt]) rfl (okWide_bool_mk h4 _), _, _, ([] ++ p) ++ [], ⟨[] ++ p, [], trodAll_append (ha _ (fun _ _ => rfl)) (hres _ _ _), hv _, rfl, ?_, ?_⟩, ?_⟩
  · intro b off hp
    have hx : MemPlace.cell b off ∈ p := by simpa using hp
    have hb : b < W.heap.size := hlt _ hx
    have := hfz b off (by simpa using hx)
    simpa [World.frozen?, hB.block b hb] using this
  · intro ha; cases ha
  · intro x hx _; simpa using hx
end Go.Proofs.Ytaffcoiomggpfaa.row
