/- Contracts of package regex (3): the parser. -/
import Derived.Test.YtaffcoiomggpfaaVRegex2
namespace Go.Proofs.Ytaffcoiomggpfaa
open Go.V
attribute [local irreducible] app
set_option linter.constructorNameAsVariable false
set_option linter.unusedVariables false

theorem classLoop_le : ∀ (n : Nat) (x : Bool) (out : S4) (r : RP), r.Le (r.classLoop n x out).2
  | 0, _, _, r => .refl _
  | n + 1, x, out, r => by
    unfold RP.classLoop
    split
    · exact .inc _
    · split
      rename_i first set many r1 hm
      split
      rename_i set' r5 he
      have h := (member_le hm).1.trans (elem_le he)
      split
      · exact h
      · exact h.trans (classLoop_le n true _ r5)
theorem class_le (r : RP) : r.Le r.class.2 := by
  have h1 : r.Le (if r.next.1 = 94 then r.inc else r) := by
    split
    · exact .inc _
    · exact .refl _
  have h2 := h1.trans (classLoop_le (r.s.size + 1) false S4.zero _)
  unfold RP.class
  generalize (if r.next.1 = 94 then r.inc else r).classLoop (r.s.size + 1) false S4.zero = R at h2
  obtain ⟨⟨out, k⟩, r'⟩ := R
  cases k <;> exact h2

def nd (k : Int) (l r : Nat) (s : S4) : Nd := ⟨k, l, r, s.a, s.b, s.c, s.d⟩
def RP.putN (r : RP) (x : Nd) : Nat × RP := (r.nds.length, r.put x)
def newline : ByteArray := ⟨[10].toArray⟩
def RP.up (r : RP) : RP := { r with op := r.op + 1 }
def RP.down (r : RP) : RP := { r with op := r.op - 1 }
def atomOf (pat : RP → Nat × RP) (c : Nat) (r : RP) : Nat × RP :=
  if c = 46 then r.inc.putN (nd 2 0 0 (S4.bytesN newline 1).not)
  else if c = 94 then r.inc.putN (nd 8 0 0 S4.zero)
  else if c = 36 then r.inc.putN (nd 9 0 0 S4.zero)
  else if c = 91 then r.inc.class.2.putN (nd 2 0 0 r.inc.class.1)
  else if c = 93 then (0, r.inc.fail 80)
  else if c = 42 ∨ c = 43 ∨ c = 63 then (0, r.inc.fail 81)
  else if c = 92 then r.escape.2.putN (nd 2 0 0 r.escape.1.2.1)
  else if c = 40 then
    if 24 < r.op + 1 then (0, r.inc.up.fail 84)
    else
      let x := pat r.inc.up
      (x.1, (if x.2.next = (41, true) then x.2.inc else x.2.fail 83).down)
  else r.inc.putN (nd 2 0 0 (S4.zero.with_ c c))
def signs : Nat → Nat → RP → Nat × RP
  | 0, n, r => (n, r)
  | f + 1, n, r => if signOf r.next.1 = 0 then (n, r) else
    signs f r.nds.length (r.inc.put (nd (signOf r.next.1) n 0 S4.zero))
def partOf (pat : RP → Nat × RP) (c : Nat) (r : RP) : Nat × RP := signs (r.s.size + 1) (atomOf pat c r).1 (atomOf pat c r).2
def altLoop (pat : RP → Nat × RP) : Nat → Option Nat → RP → Nat × RP
  | 0, n, r => (0, r)
  | f + 1, n, r =>
    if r.next.2 = false ∨ r.next.1 = 124 ∨ r.next.1 = 41 then
      let r1 := if r.next = (41, true) ∧ r.op = 0 then r.fail 83 else r
      match n with
      | none => r1.putN (nd 1 0 0 S4.zero)
      | some m => (m, r1)
    else
      let x := partOf pat r.next.1 r
      match n with
      | none => altLoop pat f (some x.1) x.2
      | some k => altLoop pat f (some x.2.nds.length) (x.2.put (nd 3 k x.1 S4.zero))
def altOf (pat : RP → Nat × RP) (r : RP) : Nat × RP := altLoop pat (r.s.size + 1) none r
def patLoop (pat : RP → Nat × RP) : Nat → Nat → RP → Nat × RP
  | 0, n, r => (n, r)
  | f + 1, n, r => if r.next = (124, true) then
      let x := altOf pat r.inc
      patLoop pat f x.2.nds.length (x.2.put (nd 4 n x.1 S4.zero))
    else (n, r)
def patOf (pat : RP → Nat × RP) (r : RP) : Nat × RP := patLoop pat (r.s.size + 1) (altOf pat r).1 (altOf pat r).2
def patN : Nat → RP → Nat × RP
  | 0, r => (0, r)
  | n + 1, r => patOf (patN n) r

/-- On the way: the same text, m bytes on, at most two nodes a byte and d more; the depth is the same but behind an error. -/
structure Up (r r' : RP) (d : Int) (m : Nat) : Prop where
  s : r'.s = r.s
  at_ : r.at_ + m ≤ r'.at_
  lo : r.op ≤ r'.op
  hi : r'.op ≤ r.op + 1
  op : (r'.e = 0 ∨ r.e ≠ 0) → r'.op = r.op
  e : r.e ≠ 0 → r'.e = r.e
  nds : (r'.nds.length : Int) + 2 * r.at_ ≤ r.nds.length + 2 * r'.at_ + d
theorem RP.Le.up {r r' : RP} (h : r.Le r') : Up r r' 0 0 :=
  ⟨h.s, h.at_, by rw [h.op]; exact Nat.le_refl _, by rw [h.op]; exact Nat.le_succ _, fun _ => h.op, h.e, by rw [h.nds]; have := h.at_; omega⟩
theorem Up.trans {a b c : RP} {d d' : Int} {m m' : Nat} (h : Up a b d m) (g : Up b c d' m') : Up a c (d + d') (m + m') := by
  have h1 := h.op; have h2 := g.op; have h3 := h.e; have h4 := g.e
  refine ⟨g.s.trans h.s, by have := h.at_; have := g.at_; omega, Nat.le_trans h.lo g.lo, ?_, ?_, fun x => (h4 (by rw [h3 x]; exact x)).trans (h3 x), by have := h.nds; have := g.nds; omega⟩
  · by_cases hb : b.e = 0
    · rw [← h1 (.inl hb)]; exact g.hi
    · rw [h2 (.inr hb)]; exact h.hi
  · rintro (hc | ha)
    · have hb : b.e = 0 := by
        by_cases hb : b.e = 0
        · exact hb
        · exact absurd hc (by rw [h4 hb]; exact hb)
      rw [h2 (.inl hc), h1 (.inl hb)]
    · rw [h2 (.inr (by rw [h3 ha]; exact ha)), h1 (.inr ha)]
theorem Up.put {a b : RP} {d : Int} {m : Nat} (h : Up a b d m) (x : Nd) : Up a (b.put x) (d + 1) m :=
  ⟨h.s, h.at_, h.lo, h.hi, h.op, h.e, by have := h.nds; simp only [RP.put, List.length_append, List.length_singleton]; omega⟩
theorem Up.inc {a b : RP} {d : Int} {m : Nat} (h : Up a b d m) : Up a b.inc (d - 2) (m + 1) :=
  ⟨h.s, by have := h.at_; simp only [RP.inc]; omega, h.lo, h.hi, h.op, h.e, by have := h.nds; simp only [RP.inc]; omega⟩
theorem Up.weak {a b : RP} {d d' : Int} {m m' : Nat} (h : Up a b d m) (hd : d ≤ d') (hm : m' ≤ m) : Up a b d' m' := ⟨h.s, by have := h.at_; omega, h.lo, h.hi, h.op, h.e, by have := h.nds; omega⟩
theorem Up.refl (r : RP) : Up r r 0 0 := (RP.Le.refl r).up
theorem Up.fail {a b : RP} {d : Int} {m : Nat} (h : Up a b d m) {e : Int} (he : e ≠ 0) : Up a (b.fail e) d m := by
  have := h.trans (RP.Le.fail b e he).up
  simpa using this
theorem fail_op (r : RP) (e : Int) : (r.fail e).op = r.op ∧ (r.fail e).nds = r.nds ∧ (r.fail e).at_ = r.at_ ∧ (r.fail e).s = r.s := by
  unfold RP.fail; split <;> simp
theorem atomOf_up {pat : RP → Nat × RP} (hp : ∀ r, Up r (pat r).2 1 0) (c : Nat) (r : RP) (he : r.e = 0) : Up r (atomOf pat c r).2 (-1) 1 := by
  have h0 := (Up.refl r).inc
  unfold atomOf
  split
  · exact (h0.put _).weak (by omega) (by omega)
  split
  · exact (h0.put _).weak (by omega) (by omega)
  split
  · exact (h0.put _).weak (by omega) (by omega)
  split
  · exact ((h0.trans (class_le _).up).put _).weak (by omega) (by omega)
  split
  · exact (h0.fail (by decide)).weak (by omega) (by omega)
  split
  · exact (h0.fail (by decide)).weak (by omega) (by omega)
  split
  · exact ((h0.trans (escape_le (x := r.escape.1) rfl).up).put _).weak (by omega) (by omega)
  split
  · split
    · obtain ⟨f1, f2, f3, f4⟩ := fail_op r.inc.up 84
      have fe := RP.fail_e r.inc.up (e := 84) (by decide)
      refine ⟨f4, by rw [f3]; simp [RP.up, RP.inc], by rw [f1]; simp [RP.up, RP.inc], by rw [f1]; simp [RP.up, RP.inc], fun h => ?_, fun h => absurd he h, by rw [f2, f3]; simp only [RP.up, RP.inc]; omega⟩
      rcases h with h | h
      · exact absurd h fe
      · exact absurd he h
    · have h := hp r.inc.up
      dsimp only
      generalize (pat r.inc.up).2 = q at h ⊢
      have h2 : Up r.inc.up (if q.next = (41, true) then q.inc else q.fail 83) 1 0 := by
        split
        · exact h.inc.weak (by omega) (by omega)
        · exact h.fail (by decide)
      generalize (if q.next = (41, true) then q.inc else q.fail 83) = q2 at h2 ⊢
      obtain ⟨a1, a2, a3, a4, a5, a6, a7⟩ := h2
      simp only [RP.up, RP.inc] at a1 a2 a3 a4 a5 a7
      refine ⟨a1, by simp only [RP.down]; omega, by simp only [RP.down]; omega, by simp only [RP.down]; omega, fun h => ?_, fun h => absurd he h, by simp only [RP.down]; omega⟩
      rcases h with h | h
      · have := a5 (.inl h); simp only [RP.down]; omega
      · exact absurd he h
  · exact (h0.put _).weak (by omega) (by omega)
theorem signs_up : ∀ (f n : Nat) (r : RP), Up r (signs f n r).2 0 0
  | 0, n, r => .refl r
  | f + 1, n, r => by
    unfold signs
    split
    · exact .refl r
    · exact (((Up.refl r).inc.put _).trans (signs_up f _ _)).weak (by omega) (by omega)
theorem partOf_up {pat : RP → Nat × RP} (hp : ∀ r, Up r (pat r).2 1 0) (c : Nat) (r : RP) (he : r.e = 0) : Up r (partOf pat c r).2 (-1) 1 :=
  ((atomOf_up hp c r he).trans (signs_up _ _ _)).weak (by omega) (by omega)
theorem next_e {r : RP} (h : ¬ (r.next.2 = false)) : r.e = 0 := by
  have : r.next = (r.next.1, true) := Prod.ext rfl (by simpa using h)
  exact (RP.next_some this).1
theorem altLoop_up {pat : RP → Nat × RP} (hp : ∀ r, Up r (pat r).2 1 0) : ∀ (f : Nat) (n : Option Nat) (r : RP), Up r (altLoop pat f n r).2 (if n.isSome then 0 else 1) 0
  | 0, n, r => (Up.refl r).weak (by split <;> omega) (by omega)
  | f + 1, n, r => by
    unfold altLoop
    split
    · have h1 : Up r (if r.next = (41, true) ∧ r.op = 0 then r.fail 83 else r) 0 0 := by
        split
        · exact (Up.refl r).fail (by decide)
        · exact .refl r
      cases n with
      | none => exact (h1.put _).weak (by simp) (by omega)
      | some m => exact h1.weak (by simp) (by omega)
    · rename_i hno
      have he := next_e (fun h => hno (.inl h))
      have h1 := partOf_up hp r.next.1 r he
      cases n with
      | none => exact (h1.trans (altLoop_up hp f (some _) _)).weak (by simp) (by omega)
      | some k => exact ((h1.put _).trans (altLoop_up hp f (some _) _)).weak (by simp) (by omega)
theorem altOf_up {pat : RP → Nat × RP} (hp : ∀ r, Up r (pat r).2 1 0) (r : RP) : Up r (altOf pat r).2 1 0 := altLoop_up hp _ none r
theorem patLoop_up {pat : RP → Nat × RP} (hp : ∀ r, Up r (pat r).2 1 0) : ∀ (f n : Nat) (r : RP), Up r (patLoop pat f n r).2 0 0
  | 0, n, r => .refl r
  | f + 1, n, r => by
    unfold patLoop
    split
    · exact ((((Up.refl r).inc.trans (altOf_up hp r.inc)).put _).trans (patLoop_up hp f _ _)).weak (by omega) (by omega)
    · exact .refl r
theorem patN_up : ∀ (n : Nat) (r : RP), Up r (patN n r).2 1 0
  | 0, r => (Up.refl r).weak (by omega) (by omega)
  | n + 1, r => ((altOf_up (patN_up n) r).trans (patLoop_up (patN_up n) _ _ _)).weak (by omega) (by omega)
end Go.Proofs.Ytaffcoiomggpfaa
