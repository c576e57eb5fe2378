/- Plain law: the nodes of a parse are one tree, kids before their parents. -/
import Derived.Test.YtaffcoiomggpfaaVValid
import Derived.Test.YtaffcoiomggpfaaVRegex4
namespace Go.Proofs.Ytaffcoiomggpfaa
open Go.V
attribute [local irreducible] app
set_option linter.constructorNameAsVariable false
set_option linter.unusedVariables false

def setOk (x : Nd) : Prop := x.k = 2 ∨ (x.a = 0 ∧ x.b = 0 ∧ x.c = 0 ∧ x.d = 0)
inductive Tree : Nat → List Nd → Prop where
  | leaf {o : Nat} {x : Nd} (hk : kidsOf x.k = 0) (hl : x.l = 0) (hr : x.r = 0) (hs : setOk x) : Tree o [x]
  | un {o : Nat} {t : List Nd} {x : Nd} (ht : Tree o t) (hk : kidsOf x.k = 1) (hl : x.l + 1 = ((o + t.length : Nat) : Int)) (hr : x.r = 0) (hs : setOk x) : Tree o (t ++ [x])
  | bin {o : Nat} {t u : List Nd} {x : Nd} (ht : Tree o t) (hu : Tree (o + t.length) u) (hk : kidsOf x.k = 2) (hl : x.l + 1 = ((o + t.length : Nat) : Int)) (hr : x.r + 1 = ((o + t.length + u.length : Nat) : Int)) (hs : setOk x) :
      Tree o (t ++ u ++ [x])
theorem Tree.pos {o : Nat} {t : List Nd} (h : Tree o t) : 0 < t.length := by
  cases h <;> simp only [List.length_append, List.length_cons, List.length_nil] <;> omega
/-- What a piece of the parser adds: one tree, and its root's place. -/
def Adds (r : RP) (n : Nat) (r' : RP) : Prop := r'.e = 0 → ∃ t, r'.nds = r.nds ++ t ∧ Tree r.nds.length t ∧ n + 1 = r'.nds.length
theorem Adds.leaf {r a : RP} (h : a.nds = r.nds) {k : Int} {s : S4} (hk : kidsOf k = 0) (hs : k = 2 ∨ s = S4.zero) : Adds r (a.putN (nd k 0 0 s)).1 (a.putN (nd k 0 0 s)).2 := fun _ =>
  ⟨[nd k 0 0 s], by simp [RP.putN, RP.put, h], .leaf hk rfl rfl (by rcases hs with h | h; exact .inl h; subst h; exact .inr ⟨rfl, rfl, rfl, rfl⟩), by simp [RP.putN, RP.put]⟩
theorem Adds.bad {r a : RP} {n : Nat} (h : a.e ≠ 0) : Adds r n a := fun h' => absurd h' h
/-! ### The place does not leave the text. -/
def Fit (r : RP) : Prop := r.at_ ≤ r.s.size
theorem Fit.fail {r : RP} (h : Fit r) (e : Int) : Fit (r.fail e) := by obtain ⟨_, _, f3, f4⟩ := fail_op r e; unfold Fit; rw [f3, f4]; exact h
theorem Fit.next {r : RP} {c : Nat} (h : r.next = (c, true)) : Fit r.inc := (RP.next_some h).2.1
theorem next_ok {r : RP} (h : ¬ (r.next.2 = false)) : r.next = (r.next.1, true) := Prod.ext rfl (by simpa using h)
theorem escape_fit {r r' : RP} {x} (h : r.escape = (x, r')) (hr : r.at_ < r.s.size) : Fit r' := by
  have h0 : Fit r.inc := hr
  unfold RP.escape at h
  split at h
  · cases h; exact h0.fail _
  · rename_i c hn
    have h1 : Fit r.inc.inc := Fit.next hn
    split at h
    · cases h; exact h1
    · split at h
      cases h
      split
      · exact h1
      · exact h1.fail _
theorem member_fit {r r' : RP} {x} (h : r.member = (x, r')) (hr : Fit r) : Fit r' := by
  unfold RP.member at h
  split at h
  · cases h; exact hr.fail _
  · rename_i c hn
    split at h
    · cases h; exact hr.fail _
    · split at h
      · exact escape_fit h (RP.next_some hn).2.1
      · cases h; exact Fit.next hn
theorem elem_fit {r1 r5 : RP} {first : Nat} {set set' : S4} {many : Bool} (h : r1.elem first set many = (set', r5)) (hr : Fit r1) : Fit r5 := by
  unfold RP.elem at h
  split at h
  · rename_i hn
    split at h
    rename_i last s2 many2 r4 hm
    cases h
    have h1 : Fit (if many = true then r1.inc.fail 80 else r1.inc) := by
      split
      · exact (Fit.next hn).fail _
      · exact Fit.next hn
    have h2 := member_fit hm h1
    split
    · exact h2.fail _
    · exact h2
  · cases h; exact hr
theorem classLoop_fit : ∀ (n : Nat) (x : Bool) (out : S4) (r : RP), Fit r → Fit (r.classLoop n x out).2
  | 0, _, _, r, h => h
  | n + 1, x, out, r, h => by
    unfold RP.classLoop
    split
    · rename_i hn; exact Fit.next hn.1
    · split
      rename_i first set many r1 hm
      split
      rename_i set' r5 he
      have h5 := elem_fit he (member_fit hm h)
      split
      · exact h5
      · exact classLoop_fit n true _ r5 h5
theorem class_fit (r : RP) (h : Fit r) : Fit r.class.2 := by
  have h1 : Fit (if r.next.1 = 94 then r.inc else r) := by
    split
    · rename_i h94
      exact Fit.next (next_ok (fun hf => by have := (RP.next_none (r := r) (c := r.next.1) (Prod.ext rfl hf)).1; omega))
    · exact h
  have h2 := classLoop_fit (r.s.size + 1) false S4.zero _ h1
  unfold RP.class
  generalize (if r.next.1 = 94 then r.inc else r).classLoop (r.s.size + 1) false S4.zero = R at h2
  obtain ⟨⟨out, k⟩, r'⟩ := R
  cases k <;> exact h2
theorem atomOf_fit {pat : RP → Nat × RP} (hp : ∀ r, Fit r → Fit (pat r).2) (c : Nat) (r : RP) (hr : r.at_ < r.s.size) : Fit (atomOf pat c r).2 := by
  have h0 : Fit r.inc := hr
  unfold atomOf
  split
  · exact h0
  split
  · exact h0
  split
  · exact h0
  split
  · exact class_fit _ h0
  split
  · exact h0.fail _
  split
  · exact h0.fail _
  split
  · exact (escape_fit (r' := r.escape.2) (x := r.escape.1) rfl hr : Fit r.escape.2)
  split
  · split
    · exact Fit.fail (r := r.inc.up) h0 _
    · dsimp only
      have h := hp r.inc.up h0
      generalize pat r.inc.up = X at h ⊢
      split
      · rename_i hn; exact Fit.next hn
      · exact h.fail _
  · exact h0
theorem signs_fit : ∀ (f n : Nat) (r : RP), Fit r → Fit (signs f n r).2
  | 0, n, r, h => h
  | f + 1, n, r, h => by
    unfold signs
    split
    · exact h
    · rename_i hs
      refine signs_fit f _ _ ?_
      have h1 : Fit r.inc := Fit.next (next_ok (fun hf => by
        have := (RP.next_none (r := r) (c := r.next.1) (Prod.ext rfl hf)).1
        rcases signOf_pos hs with h | h | h <;> omega))
      exact h1
theorem altLoop_fit {pat : RP → Nat × RP} (hp : ∀ r, Fit r → Fit (pat r).2) : ∀ (f : Nat) (n : Option Nat) (r : RP), Fit r → Fit (altLoop pat f n r).2
  | 0, n, r, h => h
  | f + 1, n, r, h => by
    unfold altLoop
    split
    · have h1 : Fit (if r.next = (41, true) ∧ r.op = 0 then r.fail 83 else r) := by
        split
        · exact h.fail _
        · exact h
      cases n <;> exact h1
    · rename_i hc
      have hn := next_ok (fun h => hc (.inl h))
      have h1 : Fit (partOf pat r.next.1 r).2 := signs_fit _ _ _ (atomOf_fit hp _ _ (RP.next_some hn).2.1)
      cases n
      · exact altLoop_fit hp f _ _ h1
      · exact altLoop_fit hp f _ _ h1
theorem patLoop_fit {pat : RP → Nat × RP} (hp : ∀ r, Fit r → Fit (pat r).2) : ∀ (f n : Nat) (r : RP), Fit r → Fit (patLoop pat f n r).2
  | 0, n, r, h => h
  | f + 1, n, r, h => by
    unfold patLoop
    split
    · rename_i hn
      have h1 : Fit (altOf pat r.inc).2 := altLoop_fit hp _ _ _ (Fit.next hn)
      exact patLoop_fit hp f _ _ h1
    · exact h
theorem patN_fit : ∀ (n : Nat) (r : RP), Fit r → Fit (patN n r).2
  | 0, r, h => h
  | n + 1, r, h => patLoop_fit (patN_fit n) _ _ _ (altLoop_fit (patN_fit n) _ _ _ h)
def PatA (pat : RP → Nat × RP) (op : Nat) : Prop := ∀ r, Fit r → r.op = op → Adds r (pat r).1 (pat r).2
theorem atomOf_adds {pat : RP → Nat × RP} (c : Nat) (r : RP) (hp : r.op + 1 ≤ 24 → PatA pat (r.op + 1)) (hr : r.at_ < r.s.size) : Adds r (atomOf pat c r).1 (atomOf pat c r).2 := by
  unfold atomOf
  split
  · exact .leaf rfl (by decide) (.inl rfl)
  split
  · exact .leaf rfl (by decide) (.inr rfl)
  split
  · exact .leaf rfl (by decide) (.inr rfl)
  split
  · exact .leaf (class_le r.inc).nds (by decide) (.inl rfl)
  split
  · exact .bad (RP.fail_e _ (by decide))
  split
  · exact .bad (RP.fail_e _ (by decide))
  split
  · exact .leaf (escape_le (x := r.escape.1) rfl).nds (by decide) (.inl rfl)
  split
  · split
    · exact .bad (RP.fail_e _ (by decide))
    · dsimp only
      intro he
      rename_i h24
      have h := hp (by omega) r.inc.up hr rfl
      revert he h
      generalize pat r.inc.up = X
      intro he h
      split at he
      · rename_i hn
        rw [if_pos hn]
        exact h he
      · exact absurd he (RP.fail_e _ (by decide))
  · exact .leaf rfl (by decide) (.inl rfl)
theorem signs_adds (r0 : RP) : ∀ (f n : Nat) (r : RP), Adds r0 n r → Adds r0 (signs f n r).1 (signs f n r).2
  | 0, n, r, h => h
  | f + 1, n, r, h => by
    unfold signs
    split
    · exact h
    · rename_i hs
      refine signs_adds r0 f _ _ fun he => ?_
      obtain ⟨t, h1, h2, h3⟩ := h he
      refine ⟨t ++ [nd (signOf r.next.1) n 0 S4.zero], by simp [RP.put, RP.inc, h1], .un h2 ?_ ?_ rfl (.inr ⟨rfl, rfl, rfl, rfl⟩), by simp [RP.put, RP.inc]⟩
      · show kidsOf ((signOf r.next.1 : Nat) : Int) = 1
        rcases signOf_pos hs with h | h | h <;> rw [h] <;> decide
      · simp only [nd]; rw [h1] at h3; simp at h3; omega
theorem partOf_adds {pat : RP → Nat × RP} (c : Nat) (r : RP) (hp : r.op + 1 ≤ 24 → PatA pat (r.op + 1)) (hr : r.at_ < r.s.size) : Adds r (partOf pat c r).1 (partOf pat c r).2 :=
  signs_adds r _ _ _ (atomOf_adds c r hp hr)
theorem altLoop_adds {pat : RP → Nat × RP} {op : Nat} (hu : ∀ r, Up r (pat r).2 1 0) (hp : op + 1 ≤ 24 → PatA pat (op + 1)) (r0 : RP) : ∀ (f : Nat) (n : Option Nat) (r : RP), (r.e = 0 → r.op = op) → r.s.size < f + r.at_ →
    (match n with | none => r.nds = r0.nds | some m => Adds r0 m r) → (altLoop pat f n r).2.e = 0 → ((altLoop pat f n r).2.at_ ≤ (altLoop pat f n r).2.s.size) → Adds r0 (altLoop pat f n r).1 (altLoop pat f n r).2
  | 0, n, r, ho, hf, h, he, hb => by simp only [altLoop] at *; omega
  | f + 1, n, r, ho, hf, h, he, hb => by
    unfold altLoop at he hb ⊢
    split
    · rename_i hc
      rw [if_pos hc] at he hb
      cases n with
      | none =>
        simp only [] at h ⊢
        refine .leaf ?_ (by decide) (.inr rfl)
        split
        · exact (fail_op _ _).2.1.trans h
        · exact h
      | some m =>
        simp only [] at h he ⊢
        intro _
        split at he
        · exact absurd he (RP.fail_e _ (by decide))
        · rename_i hn; rw [if_neg hn]; exact h he
    · rename_i hc
      rw [if_neg hc] at he hb
      have hr := next_e (fun h => hc (.inl h))
      have h1 := partOf_up hu r.next.1 r hr
      have hop := ho hr
      have h2 := partOf_adds r.next.1 r (by rw [hop]; exact hp) (RP.next_some (next_ok (fun h => hc (.inl h)))).2.1
      revert he hb h1 h2
      generalize partOf pat r.next.1 r = X
      intro he hb h1 h2
      have hx := h1.at_
      have hxs := h1.s
      have hxo := h1.op
      cases n with
      | none =>
        simp only [] at h he hb ⊢
        refine altLoop_adds hu hp r0 f (some X.1) X.2 (fun h => (hxo (.inl h)).trans hop) (by rw [hxs]; omega) ?_ he hb
        intro hX
        obtain ⟨t, g1, g2, g3⟩ := h2 hX
        rw [h] at g1 g2
        exact ⟨t, g1, g2, g3⟩
      | some k =>
        simp only [] at h he hb ⊢
        refine altLoop_adds hu hp r0 f (some X.2.nds.length) _ (fun h => (hxo (.inl h)).trans hop) (by simp only [RP.put]; rw [hxs]; omega) ?_ he hb
        intro hX
        obtain ⟨t, g1, g2, g3⟩ := h hr
        obtain ⟨u, q1, q2, q3⟩ := h2 hX
        refine ⟨t ++ u ++ [nd 3 k X.1 S4.zero], by simp [RP.put, q1, g1], .bin g2 (by rw [g1] at q2; simpa using q2) (show kidsOf 3 = 2 by decide) ?_ ?_ (.inr ⟨rfl, rfl, rfl, rfl⟩), by simp [RP.put]⟩
        · simp only [nd]; rw [g1] at g3; simp at g3; omega
        · simp only [nd]; rw [q1, g1] at q3; simp at q3; omega
theorem patLoop_adds {pat : RP → Nat × RP} {op : Nat} (hu : ∀ r, Up r (pat r).2 1 0) (ha : ∀ r, Fit r → (r.e = 0 → r.op = op) → Adds r (altOf pat r).1 (altOf pat r).2) (r0 : RP) : ∀ (f n : Nat) (r : RP), (r.e = 0 → r.op = op) → Adds r0 n r → Adds r0 (patLoop pat f n r).1 (patLoop pat f n r).2
  | 0, n, r, ho, h => h
  | f + 1, n, r, ho, h => by
    unfold patLoop
    split
    · rename_i hn
      obtain ⟨g1, g2, g3, g4⟩ := RP.next_some hn
      have h2 := ha r.inc (by simp only [Fit, RP.inc]; omega) ho
      have hxo := (altOf_up hu r.inc).op
      dsimp only
      refine patLoop_adds hu ha r0 f _ _ (fun h => (hxo (.inl h)).trans (ho g1)) fun hX => ?_
      clear hxo
      revert hX h2
      generalize altOf pat r.inc = X
      intro h2 hX
      obtain ⟨t, e1, e2, e3⟩ := h g1
      obtain ⟨u, q1, q2, q3⟩ := h2 hX
      have q1 : X.2.nds = r.nds ++ u := q1
      have q2 : Tree r.nds.length u := q2
      refine ⟨t ++ u ++ [nd 4 n X.1 S4.zero], by simp [RP.put, q1, e1], .bin e2 (by rw [e1] at q2; simpa using q2) (show kidsOf 4 = 2 by decide) ?_ ?_ (.inr ⟨rfl, rfl, rfl, rfl⟩), by simp [RP.put]⟩
      · simp only [nd]; rw [e1] at e3; simp at e3; omega
      · simp only [nd]; rw [q1, e1] at q3; simp at q3; omega
    · exact h
theorem altOf_adds {pat : RP → Nat × RP} {op : Nat} (hu : ∀ r, Up r (pat r).2 1 0) (hf : ∀ r, Fit r → Fit (pat r).2) (hp : op + 1 ≤ 24 → PatA pat (op + 1)) (r : RP) (hr : Fit r) (ho : r.e = 0 → r.op = op) :
    Adds r (altOf pat r).1 (altOf pat r).2 := fun he =>
  altLoop_adds hu hp r (r.s.size + 1) none r ho (by omega) rfl he (altLoop_fit hf _ _ _ hr) he
theorem patN_adds : ∀ (n op : Nat), op ≤ 24 → 25 ≤ op + n → PatA (patN n) op
  | 0, op, h1, h2 => by omega
  | n + 1, op, h1, h2 => fun r hr ho => by
    have ha := fun r hr ho => altOf_adds (op := op) (patN_up n) (patN_fit n) (fun h => patN_adds n (op + 1) h (by omega)) r hr ho
    exact patLoop_adds (patN_up n) ha r _ _ _ (fun h => ((altOf_up (patN_up n) r).op (.inl h)).trans ho) (ha r hr fun _ => ho)
end Go.Proofs.Ytaffcoiomggpfaa
