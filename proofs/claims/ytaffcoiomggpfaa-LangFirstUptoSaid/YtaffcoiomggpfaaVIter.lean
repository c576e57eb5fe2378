/- Ranges over a string: the two operations. -/
import Derived.Test.YtaffcoiomggpfaaVOps3
namespace Go.V
set_option linter.constructorNameAsVariable false
set_option linter.unusedVariables false
section
variable (P : Program)
def nRange (t : TypeId) (x : Value) (K : Value → Heap → Prop) (H : Heap) : Prop := tyD P t fun d => match d, x with
  | .string, .string s => nw (.stringIter s 0) H fun i H => K (.pointer (some ⟨i, 0, none⟩)) H
  | _, _ => False
end
/-- The next rune of a range over a string, or its end. -/
def nx (q : Addr) (H : Heap) (Kt : Nat → Int → Heap → Prop) (Kf : Heap → Prop) : Prop :=
  q.off = 0 ∧ ∃ (s : ByteArray) (pos : Nat), H q.block = some (.stringIter s pos) ∧
    (pos < s.size → Kt pos (Utf8.decode s pos).1 (H.set q.block (.stringIter s (pos + (Utf8.decode s pos).2)))) ∧ (s.size ≤ pos → Kf H)
def nNext (it : Value) (b : Bool) (K : Value → Heap → Prop) (H : Heap) : Prop := match it, b with
  | .pointer p, true => ptr p fun q => nx q H (fun pos c H => K (.tuple #[.bool true, .int .i64 pos, .int .i32 c]) H) fun H => K (.tuple #[.bool false]) H
  | _, _ => False
variable {P : Program}
theorem nRange_vp {t : TypeId} {x : Value} {K : Value → Heap → Prop} {E : Value → Heap → Prop} {H : Heap} (h : nRange P t x K H) : vp P (Instr.range t x) K E H := by
  replace h := tyD_elim h; obtain ⟨d, hd, h⟩ := h
  split at h
  · unfold Instr.range
    refine vp_bind' ?_
    show vp P (match P.underlying t with | some d => pure d | none => stuck "no such type") _ _ _
    rw [hd]
    exact fun id hid => h id hid
  · exact h.elim
theorem nNext_vp {it : Value} {b : Bool} {t : TypeId} {K : Value → Heap → Prop} {E : Value → Heap → Prop} {H : Heap} (h : nNext it b K H) : vp P (Instr.next it b t) K E H := by
  unfold nNext at h
  split at h
  · rename_i p
    replace h := ptr_elim h
    obtain ⟨⟨r, o, sp⟩, rfl, ho, s, pos, hs, h1, h2⟩ := h
    have ho : o = 0 := ho
    subst ho
    unfold Instr.next
    dsimp only at hs h1 ⊢
    refine vp_bind' ?_
    unfold getObj
    simp only [vp, hs]
    by_cases hp : pos < s.size
    · rw [if_pos hp]
      refine vp_bind' ?_
      unfold setObj
      simp only [vp, hs]
      exact h1 hp
    · rw [if_neg hp]
      exact h2 (by omega)
  · exact h.elim
end Go.V
