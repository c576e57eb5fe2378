import Derived.Test.YtaffcoiomggpfaaVRegex3
import Derived.Test.YtaffcoiomggpfaaVAuto2
import Derived.Test.YtaffcoiomggpfaaVNode
import Derived.Test.YtaffcoiomggpfaaFmatcher
import Derived.Test.YtaffcoiomggpfaaFnfa
import Derived.Test.YtaffcoiomggpfaaVLang
import Derived.Test.YtaffcoiomggpfaaVNfa3
import Derived.Test.YtaffcoiomggpfaaFr09
/- Contracts of package regex (4): the parser. -/
namespace Go.Proofs.Ytaffcoiomggpfaa
open Go.V
attribute [local irreducible] app
set_option linter.constructorNameAsVariable false
set_option linter.unusedVariables false

theorem RPs.cap {H0 H : Heap} {b : Nat} {r : RP} (h : RPs H0 H b r) (hn : r.nds.length ≤ 2 * r.at_ + 100) : r.nds.length < 1048576 := by have := h.bound; omega
theorem signOf_pos {c : Nat} (h : signOf c ≠ 0) : c = 42 ∨ c = 43 ∨ c = 63 := by
  unfold signOf at h; repeat' split at h
  all_goals omega
def parser0 (s : ByteArray) : RP := ⟨s, 0, 0, [], 0⟩
def rxParse (s : ByteArray) : List Nd × Int :=
  if 128 < s.size then ([], 1) else
    let r := (patN 25 (parser0 s)).2
    if r.e ≠ 0 then ([], r.e) else if 256 < r.nds.length then ([], 1) else (r.nds, 0)
end Go.Proofs.Ytaffcoiomggpfaa

/- Plain law: the nodes of a parse are one tree, kids before their parents. -/
namespace Go.Proofs.Ytaffcoiomggpfaa
open Go.V
attribute [local irreducible] app
set_option linter.constructorNameAsVariable false
set_option linter.unusedVariables false

def setOk (x : Nd) : Prop := x.k = 2 ∨ (x.a = 0 ∧ x.b = 0 ∧ x.c = 0 ∧ x.d = 0)
inductive Tree : Nat → List Nd → Prop where
  | leaf {o : Nat} {x : Nd} (hk : kidsOf x.k = 0) (hl : x.l = 0) (hr : x.r = 0) (hs : setOk x) : Tree o [x]
  | un {o : Nat} {t : List Nd} {x : Nd} (ht : Tree o t) (hk : kidsOf x.k = 1) (hl : x.l + 1 = ((o + t.length : Nat) : Int)) (hr : x.r = 0) (hs : setOk x) : Tree o (t ++ [x])
  | bin {o : Nat} {t u : List Nd} {x : Nd} (ht : Tree o t) (hu : Tree (o + t.length) u) (hk : kidsOf x.k = 2) (hl : x.l + 1 = ((o + t.length : Nat) : Int)) (hr : x.r + 1 = ((o + t.length + u.length : Nat) : Int)) (hs : setOk x) :
      Tree o (t ++ u ++ [x])
theorem Tree.pos {o : Nat} {t : List Nd} (h : Tree o t) : 0 < t.length := by
  cases h <;> simp only [List.length_append, List.length_cons, List.length_nil] <;> omega
def Adds (r : RP) (n : Nat) (r' : RP) : Prop := r'.e = 0 → ∃ t, r'.nds = r.nds ++ t ∧ Tree r.nds.length t ∧ n + 1 = r'.nds.length
theorem Adds.leaf {r a : RP} (h : a.nds = r.nds) {k : Int} {s : S4} (hk : kidsOf k = 0) (hs : k = 2 ∨ s = S4.zero) : Adds r (a.putN (nd k 0 0 s)).1 (a.putN (nd k 0 0 s)).2 := fun _ =>
  ⟨[nd k 0 0 s], by simp [RP.putN, RP.put, h], .leaf hk rfl rfl (by rcases hs with h | h; exact .inl h; subst h; exact .inr ⟨rfl, rfl, rfl, rfl⟩), by simp [RP.putN, RP.put]⟩
theorem Adds.bad {r a : RP} {n : Nat} (h : a.e ≠ 0) : Adds r n a := fun h' => absurd h' h
/-! ### The place does not leave the text. -/
def Fit (r : RP) : Prop := r.at_ ≤ r.s.size
theorem Fit.fail {r : RP} (h : Fit r) (e : Int) : Fit (r.fail e) := by obtain ⟨_, _, f3, f4⟩ := fail_op r e; unfold Fit; rw [f3, f4]; exact h
theorem Fit.next {r : RP} {c : Nat} (h : r.next = (c, true)) : Fit r.inc := (RP.next_some h).2.1
theorem next_ok {r : RP} (h : ¬ (r.next.2 = false)) : r.next = (r.next.1, true) := Prod.ext rfl (by simpa using h)
theorem escape_fit {r r' : RP} {x} (h : r.escape = (x, r')) (hr : r.at_ < r.s.size) : Fit r' := by
  have h0 : Fit r.inc := hr
  unfold RP.escape at h
  split at h
  · cases h; exact h0.fail _
  · rename_i c hn
    have h1 : Fit r.inc.inc := Fit.next hn
    split at h
    · cases h; exact h1
    · split at h
      cases h
      split
      · exact h1
      · exact h1.fail _
theorem member_fit {r r' : RP} {x} (h : r.member = (x, r')) (hr : Fit r) : Fit r' := by
  unfold RP.member at h
  split at h
  · cases h; exact hr.fail _
  · rename_i c hn
    split at h
    · cases h; exact hr.fail _
    · split at h
      · exact escape_fit h (RP.next_some hn).2.1
      · cases h; exact Fit.next hn
theorem elem_fit {r1 r5 : RP} {first : Nat} {set set' : S4} {many : Bool} (h : r1.elem first set many = (set', r5)) (hr : Fit r1) : Fit r5 := by
  unfold RP.elem at h
  split at h
  · rename_i hn
    split at h
    rename_i last s2 many2 r4 hm
    cases h
    have h1 : Fit (if many = true then r1.inc.fail 80 else r1.inc) := by
      split
      · exact (Fit.next hn).fail _
      · exact Fit.next hn
    have h2 := member_fit hm h1
    split
    · exact h2.fail _
    · exact h2
  · cases h; exact hr
theorem classLoop_fit : ∀ (n : Nat) (x : Bool) (out : S4) (r : RP), Fit r → Fit (r.classLoop n x out).2
  | 0, _, _, r, h => h
  | n + 1, x, out, r, h => by
    unfold RP.classLoop
    split
    · rename_i hn; exact Fit.next hn.1
    · split
      rename_i first set many r1 hm
      split
      rename_i set' r5 he
      have h5 := elem_fit he (member_fit hm h)
      split
      · exact h5
      · exact classLoop_fit n true _ r5 h5
theorem class_fit (r : RP) (h : Fit r) : Fit r.class.2 := by
  have h1 : Fit (if r.next.1 = 94 then r.inc else r) := by
    split
    · rename_i h94
      exact Fit.next (next_ok (fun hf => by have := (RP.next_none (r := r) (c := r.next.1) (Prod.ext rfl hf)).1; omega))
    · exact h
  have h2 := classLoop_fit (r.s.size + 1) false S4.zero _ h1
  unfold RP.class
  generalize (if r.next.1 = 94 then r.inc else r).classLoop (r.s.size + 1) false S4.zero = R at h2
  obtain ⟨⟨out, k⟩, r'⟩ := R
  cases k <;> exact h2
theorem atomOf_fit {pat : RP → Nat × RP} (hp : ∀ r, Fit r → Fit (pat r).2) (c : Nat) (r : RP) (hr : r.at_ < r.s.size) : Fit (atomOf pat c r).2 := by
  have h0 : Fit r.inc := hr
  unfold atomOf
  split
  · exact h0
  split
  · exact h0
  split
  · exact h0
  split
  · exact class_fit _ h0
  split
  · exact h0.fail _
  split
  · exact h0.fail _
  split
  · exact (escape_fit (r' := r.escape.2) (x := r.escape.1) rfl hr : Fit r.escape.2)
  split
  · split
    · exact Fit.fail (r := r.inc.up) h0 _
    · dsimp only
      have h := hp r.inc.up h0
      generalize pat r.inc.up = X at h ⊢
      split
      · rename_i hn; exact Fit.next hn
      · exact h.fail _
  · exact h0
theorem signs_fit : ∀ (f n : Nat) (r : RP), Fit r → Fit (signs f n r).2
  | 0, n, r, h => h
  | f + 1, n, r, h => by
    unfold signs
    split
    · exact h
    · rename_i hs
      refine signs_fit f _ _ ?_
      have h1 : Fit r.inc := Fit.next (next_ok (fun hf => by
        have := (RP.next_none (r := r) (c := r.next.1) (Prod.ext rfl hf)).1
        rcases signOf_pos hs with h | h | h <;> omega))
      exact h1
theorem altLoop_fit {pat : RP → Nat × RP} (hp : ∀ r, Fit r → Fit (pat r).2) : ∀ (f : Nat) (n : Option Nat) (r : RP), Fit r → Fit (altLoop pat f n r).2
  | 0, n, r, h => h
  | f + 1, n, r, h => by
    unfold altLoop
    split
    · have h1 : Fit (if r.next = (41, true) ∧ r.op = 0 then r.fail 83 else r) := by
        split
        · exact h.fail _
        · exact h
      cases n <;> exact h1
    · rename_i hc
      have hn := next_ok (fun h => hc (.inl h))
      have h1 : Fit (partOf pat r.next.1 r).2 := signs_fit _ _ _ (atomOf_fit hp _ _ (RP.next_some hn).2.1)
      cases n
      · exact altLoop_fit hp f _ _ h1
      · exact altLoop_fit hp f _ _ h1
theorem patLoop_fit {pat : RP → Nat × RP} (hp : ∀ r, Fit r → Fit (pat r).2) : ∀ (f n : Nat) (r : RP), Fit r → Fit (patLoop pat f n r).2
  | 0, n, r, h => h
  | f + 1, n, r, h => by
    unfold patLoop
    split
    · rename_i hn
      have h1 : Fit (altOf pat r.inc).2 := altLoop_fit hp _ _ _ (Fit.next hn)
      exact patLoop_fit hp f _ _ h1
    · exact h
theorem patN_fit : ∀ (n : Nat) (r : RP), Fit r → Fit (patN n r).2
  | 0, r, h => h
  | n + 1, r, h => patLoop_fit (patN_fit n) _ _ _ (altLoop_fit (patN_fit n) _ _ _ h)
def PatA (pat : RP → Nat × RP) (op : Nat) : Prop := ∀ r, Fit r → r.op = op → Adds r (pat r).1 (pat r).2
theorem atomOf_adds {pat : RP → Nat × RP} (c : Nat) (r : RP) (hp : r.op + 1 ≤ 24 → PatA pat (r.op + 1)) (hr : r.at_ < r.s.size) : Adds r (atomOf pat c r).1 (atomOf pat c r).2 := by
  unfold atomOf
  split
  · exact .leaf rfl (by decide) (.inl rfl)
  split
  · exact .leaf rfl (by decide) (.inr rfl)
  split
  · exact .leaf rfl (by decide) (.inr rfl)
  split
  · exact .leaf (class_le r.inc).nds (by decide) (.inl rfl)
  split
  · exact .bad (RP.fail_e _ (by decide))
  split
  · exact .bad (RP.fail_e _ (by decide))
  split
  · exact .leaf (escape_le (x := r.escape.1) rfl).nds (by decide) (.inl rfl)
  split
  · split
    · exact .bad (RP.fail_e _ (by decide))
    · dsimp only
      intro he
      rename_i h24
      have h := hp (by omega) r.inc.up hr rfl
      revert he h
      generalize pat r.inc.up = X
      intro he h
      split at he
      · rename_i hn
        rw [if_pos hn]
        exact h he
      · exact absurd he (RP.fail_e _ (by decide))
  · exact .leaf rfl (by decide) (.inl rfl)
theorem signs_adds (r0 : RP) : ∀ (f n : Nat) (r : RP), Adds r0 n r → Adds r0 (signs f n r).1 (signs f n r).2
  | 0, n, r, h => h
  | f + 1, n, r, h => by
    unfold signs
    split
    · exact h
    · rename_i hs
      refine signs_adds r0 f _ _ fun he => ?_
      obtain ⟨t, h1, h2, h3⟩ := h he
      refine ⟨t ++ [nd (signOf r.next.1) n 0 S4.zero], by simp [RP.put, RP.inc, h1], .un h2 ?_ ?_ rfl (.inr ⟨rfl, rfl, rfl, rfl⟩), by simp [RP.put, RP.inc]⟩
      · show kidsOf ((signOf r.next.1 : Nat) : Int) = 1
        rcases signOf_pos hs with h | h | h <;> rw [h] <;> decide
      · simp only [nd]; rw [h1] at h3; simp at h3; omega
theorem partOf_adds {pat : RP → Nat × RP} (c : Nat) (r : RP) (hp : r.op + 1 ≤ 24 → PatA pat (r.op + 1)) (hr : r.at_ < r.s.size) : Adds r (partOf pat c r).1 (partOf pat c r).2 :=
  signs_adds r _ _ _ (atomOf_adds c r hp hr)
theorem altLoop_adds {pat : RP → Nat × RP} {op : Nat} (hu : ∀ r, Up r (pat r).2 1 0) (hp : op + 1 ≤ 24 → PatA pat (op + 1)) (r0 : RP) : ∀ (f : Nat) (n : Option Nat) (r : RP), (r.e = 0 → r.op = op) → r.s.size < f + r.at_ →
    (match n with | none => r.nds = r0.nds | some m => Adds r0 m r) → (altLoop pat f n r).2.e = 0 → ((altLoop pat f n r).2.at_ ≤ (altLoop pat f n r).2.s.size) → Adds r0 (altLoop pat f n r).1 (altLoop pat f n r).2
  | 0, n, r, ho, hf, h, he, hb => by simp only [altLoop] at *; omega
  | f + 1, n, r, ho, hf, h, he, hb => by
    unfold altLoop at he hb ⊢
    split
    · rename_i hc
      rw [if_pos hc] at he hb
      cases n with
      | none =>
        simp only [] at h ⊢
        refine .leaf ?_ (by decide) (.inr rfl)
        split
        · exact (fail_op _ _).2.1.trans h
        · exact h
      | some m =>
        simp only [] at h he ⊢
        intro _
        split at he
        · exact absurd he (RP.fail_e _ (by decide))
        · rename_i hn; rw [if_neg hn]; exact h he
    · rename_i hc
      rw [if_neg hc] at he hb
      have hr := next_e (fun h => hc (.inl h))
      have h1 := partOf_up hu r.next.1 r hr
      have hop := ho hr
      have h2 := partOf_adds r.next.1 r (by rw [hop]; exact hp) (RP.next_some (next_ok (fun h => hc (.inl h)))).2.1
      revert he hb h1 h2
      generalize partOf pat r.next.1 r = X
      intro he hb h1 h2
      have hx := h1.at_
      have hxs := h1.s
      have hxo := h1.op
      cases n with
      | none =>
        simp only [] at h he hb ⊢
        refine altLoop_adds hu hp r0 f (some X.1) X.2 (fun h => (hxo (.inl h)).trans hop) (by rw [hxs]; omega) ?_ he hb
        intro hX
        obtain ⟨t, g1, g2, g3⟩ := h2 hX
        rw [h] at g1 g2
        exact ⟨t, g1, g2, g3⟩
      | some k =>
        simp only [] at h he hb ⊢
        refine altLoop_adds hu hp r0 f (some X.2.nds.length) _ (fun h => (hxo (.inl h)).trans hop) (by simp only [RP.put]; rw [hxs]; omega) ?_ he hb
        intro hX
        obtain ⟨t, g1, g2, g3⟩ := h hr
        obtain ⟨u, q1, q2, q3⟩ := h2 hX
        refine ⟨t ++ u ++ [nd 3 k X.1 S4.zero], by simp [RP.put, q1, g1], .bin g2 (by rw [g1] at q2; simpa using q2) (show kidsOf 3 = 2 by decide) ?_ ?_ (.inr ⟨rfl, rfl, rfl, rfl⟩), by simp [RP.put]⟩
        · simp only [nd]; rw [g1] at g3; simp at g3; omega
        · simp only [nd]; rw [q1, g1] at q3; simp at q3; omega
theorem patLoop_adds {pat : RP → Nat × RP} {op : Nat} (hu : ∀ r, Up r (pat r).2 1 0) (ha : ∀ r, Fit r → (r.e = 0 → r.op = op) → Adds r (altOf pat r).1 (altOf pat r).2) (r0 : RP) : ∀ (f n : Nat) (r : RP), (r.e = 0 → r.op = op) → Adds r0 n r → Adds r0 (patLoop pat f n r).1 (patLoop pat f n r).2
  | 0, n, r, ho, h => h
  | f + 1, n, r, ho, h => by
    unfold patLoop
    split
    · rename_i hn
      obtain ⟨g1, g2, g3, g4⟩ := RP.next_some hn
      have h2 := ha r.inc (by simp only [Fit, RP.inc]; omega) ho
      have hxo := (altOf_up hu r.inc).op
      dsimp only
      refine patLoop_adds hu ha r0 f _ _ (fun h => (hxo (.inl h)).trans (ho g1)) fun hX => ?_
      clear hxo
      revert hX h2
      generalize altOf pat r.inc = X
      intro h2 hX
      obtain ⟨t, e1, e2, e3⟩ := h g1
      obtain ⟨u, q1, q2, q3⟩ := h2 hX
      have q1 : X.2.nds = r.nds ++ u := q1
      have q2 : Tree r.nds.length u := q2
      refine ⟨t ++ u ++ [nd 4 n X.1 S4.zero], by simp [RP.put, q1, e1], .bin e2 (by rw [e1] at q2; simpa using q2) (show kidsOf 4 = 2 by decide) ?_ ?_ (.inr ⟨rfl, rfl, rfl, rfl⟩), by simp [RP.put]⟩
      · simp only [nd]; rw [e1] at e3; simp at e3; omega
      · simp only [nd]; rw [q1, e1] at q3; simp at q3; omega
    · exact h
theorem altOf_adds {pat : RP → Nat × RP} {op : Nat} (hu : ∀ r, Up r (pat r).2 1 0) (hf : ∀ r, Fit r → Fit (pat r).2) (hp : op + 1 ≤ 24 → PatA pat (op + 1)) (r : RP) (hr : Fit r) (ho : r.e = 0 → r.op = op) :
    Adds r (altOf pat r).1 (altOf pat r).2 := fun he =>
  altLoop_adds hu hp r (r.s.size + 1) none r ho (by omega) rfl he (altLoop_fit hf _ _ _ hr) he
theorem patN_adds : ∀ (n op : Nat), op ≤ 24 → 25 ≤ op + n → PatA (patN n) op
  | 0, op, h1, h2 => by omega
  | n + 1, op, h1, h2 => fun r hr ho => by
    have ha := fun r hr ho => altOf_adds (op := op) (patN_up n) (patN_fit n) (fun h => patN_adds n (op + 1) h (by omega)) r hr ho
    exact patLoop_adds (patN_up n) ha r _ _ _ (fun h => ((altOf_up (patN_up n) r).op (.inl h)).trans ho) (ha r hr fun _ => ho)
end Go.Proofs.Ytaffcoiomggpfaa

/- Plain law: a tree is Valid, and has one kid less than nodes. -/
namespace Go.Proofs.Ytaffcoiomggpfaa
open Go.V
attribute [local irreducible] app
set_option linter.constructorNameAsVariable false
set_option linter.unusedVariables false

theorem set_no {x : Nd} (h : setOk x) : ¬ (x.k ≠ 2 ∧ ¬ (x.a = 0 ∧ x.b = 0 ∧ x.c = 0 ∧ x.d = 0)) := fun g => by
  rcases h with h | h
  · exact g.1 h
  · exact g.2 h
theorem vsteps_cons {sz sz' : List Int} {x : Nd} {l : List Nd} (h : vstep sz x = some sz') : vsteps sz (x :: l) = vsteps sz' l := by
  conv => lhs; unfold vsteps
  rw [h]
theorem tree_vsteps {o : Nat} {t : List Nd} (h : Tree o t) : ∀ (sz : List Int) (rest : List Nd), sz.length = o →
    ∃ zs : List Int, zs.length = t.length ∧ zs.getD (t.length - 1) 0 = t.length ∧ vsteps sz (t ++ rest) = vsteps (sz ++ zs) rest := by
  induction h with
  | @leaf o x hk hl hr hs =>
    intro sz rest ho
    refine ⟨[1], rfl, rfl, ?_⟩
    have : vstep sz x = some (sz ++ [1]) := by
      unfold vstep; simp only []; rw [if_neg (set_no hs), if_pos hk, if_pos ⟨hl, hr⟩]
    simp only [List.singleton_append, vsteps, this]
  | @un o t x ht hk hl hr hs ih =>
    intro sz rest ho
    obtain ⟨zs, h1, h2, h3⟩ := ih sz (x :: rest) ho
    have hp := ht.pos
    refine ⟨zs ++ [1 + (t.length : Int)], by simp [h1], ?_, ?_⟩
    · rw [getD_app_right _ _ _ (by simp; omega)]; simp [h1]; omega
    · have hlen : ((sz ++ zs).length : Int) = ((o + t.length : Nat) : Int) := by simp [ho, h1]
      have hv : vstep (sz ++ zs) x = some (sz ++ zs ++ [1 + (t.length : Int)]) := by
        unfold vstep; simp only []
        rw [if_neg (set_no hs), if_neg (by omega), if_neg (by omega), if_pos hk, if_neg (by omega), if_pos ⟨by omega, hr⟩]
        rw [hlen, getD_app_right _ _ _ (by omega), show (((o + t.length : Nat) : Int) - 1).toNat - sz.length = t.length - 1 by omega, h2]
      rw [List.append_assoc, List.singleton_append, h3]
      simp only [vsteps, hv, List.append_assoc]
  | @bin o t u x ht hu hk hl hr hs ih1 ih2 =>
    intro sz rest ho
    obtain ⟨zs, h1, h2, h3⟩ := ih1 sz (u ++ (x :: rest)) ho
    obtain ⟨ws, g1, g2, g3⟩ := ih2 (sz ++ zs) (x :: rest) (by simp [ho, h1])
    have hp := ht.pos
    have hq := hu.pos
    refine ⟨zs ++ ws ++ [1 + (u.length : Int) + t.length], by simp [h1, g1], ?_, ?_⟩
    · rw [getD_app_right _ _ _ (by simp; omega)]; simp [h1, g1]; omega
    · have hlen : ((sz ++ zs ++ ws).length : Int) = ((o + t.length + u.length : Nat) : Int) := by simp [ho, h1, g1]; omega
      have e1 : (sz ++ zs ++ ws).getD (((o + t.length + u.length : Nat) : Int) - 1).toNat 0 = u.length := by
        rw [getD_app_right _ _ _ (by simp; omega), show (((o + t.length + u.length : Nat) : Int) - 1).toNat - (sz ++ zs).length = u.length - 1 by simp [ho, h1]; omega, g2]
      have e2 : (sz ++ zs ++ ws).getD (((o + t.length + u.length : Nat) : Int) - (1 + (u.length : Int))).toNat 0 = t.length := by
        rw [getD_app_left _ _ _ (by simp; omega), getD_app_right _ _ _ (by omega), show (((o + t.length + u.length : Nat) : Int) - (1 + (u.length : Int))).toNat - sz.length = t.length - 1 by omega, h2]
      have hv : vstep (sz ++ zs ++ ws) x = some (sz ++ zs ++ ws ++ [1 + (u.length : Int) + t.length]) := by
        unfold vstep; simp only []
        rw [if_neg (set_no hs), if_neg (by omega), if_pos hk, if_neg (by omega), hlen, e1, if_neg (by omega), if_pos ⟨by omega, by omega⟩, e2]
      have e : t ++ u ++ [x] ++ rest = t ++ (u ++ (x :: rest)) := by simp
      rw [e, h3, g3, vsteps_cons hv]
      simp only [List.append_assoc]
theorem tree_valid {t : List Nd} (h : Tree 0 t) (hl : t.length ≤ 256) : validOf t = true := by
  obtain ⟨zs, h1, h2, h3⟩ := tree_vsteps h [] [] rfl
  have hp := h.pos
  cases t with
  | nil => simp at hp
  | cons x l =>
    unfold validOf
    rw [if_neg (by omega)]
    rw [List.append_nil, List.nil_append] at h3
    have h3 : vsteps [] (x :: l) = some zs := h3
    simp only [h3, decide_eq_true_eq]
    exact h2
theorem kids2_eq {k : Int} (h : 0 ≤ kidsOf k) : kids2 k = kidsOf k := by
  unfold kidsOf at *; unfold kids2
  repeat' split
  all_goals first | rfl | omega | (exfalso; simp_all; done) | skip
  all_goals (split at h <;> omega)
def kidsSum (l : List Nd) : Int := (l.map fun x => kids2 x.k).sum
theorem tree_kids {o : Nat} {t : List Nd} (h : Tree o t) : kidsSum t = t.length - 1 := by
  induction h with
  | @leaf o x hk hl hr hs =>
    have := kids2_eq (k := x.k) (by omega)
    simp [kidsSum, this, hk]
  | @un o t x ht hk hl hr hs ih =>
    have := kids2_eq (k := x.k) (by omega)
    simp [kidsSum, this, hk] at ih ⊢; omega
  | @bin o t u x ht hu hk hl hr hs ih1 ih2 =>
    have := kids2_eq (k := x.k) (by omega)
    simp [kidsSum, this, hk] at ih1 ih2 ⊢; omega
theorem rxParse_small {s : ByteArray} {l : List Nd} {e : Int} (h : rxParse s = (l, e)) : (e ≠ 0 → l = []) ∧ (e = 0 → l.length ≤ 2 * s.size + 1 ∧ kidsSum l = l.length - 1 ∧ validOf l = true ∧ l.length ≤ 256) := by
  unfold rxParse at h
  split at h
  · cases h; exact ⟨fun _ => rfl, fun h => absurd h (by decide)⟩
  · simp only [] at h
    have hu := patN_up 25 (parser0 s)
    have hf := patN_fit 25 (parser0 s) (Nat.zero_le _)
    have ha := patN_adds 25 0 (by omega) (by omega) (parser0 s) (Nat.zero_le _) rfl
    revert h hu hf ha
    generalize patN 25 (parser0 s) = X
    intro h hu hf ha
    split at h
    · cases h; exact ⟨fun _ => rfl, fun h => absurd h (by assumption)⟩
    · split at h
      · cases h; exact ⟨fun _ => rfl, fun h => absurd h (by decide)⟩
      · cases h
        rename_i he hlen
        have he : X.2.e = 0 := by simpa using he
        obtain ⟨t, g1, g2, g3⟩ := ha he
        have g1 : X.2.nds = t := by simpa [parser0] using g1
        have g2 : Tree 0 t := g2
        refine ⟨fun h => absurd rfl h, fun _ => ⟨?_, ?_, ?_, by omega⟩⟩
        · have := hu.nds
          have := hu.s
          unfold Fit at hf
          rw [this] at hf
          simp [parser0] at *
          omega
        · rw [g1]; exact tree_kids g2
        · rw [g1]; exact tree_valid g2 (by rw [← g1]; omega)
end Go.Proofs.Ytaffcoiomggpfaa

/- Contracts of packages nfa (Compile) and matcher. -/
namespace Go.Proofs.Ytaffcoiomggpfaa
open Go.V
attribute [local irreducible] app
set_option linter.constructorNameAsVariable false
set_option linter.unusedVariables false

theorem Compile_c {H : Heap} {p : OA} {c : Nat} {l : List Nd} {Q : QT} {E : ET} (hv : Vec H 7 p l.length c (flat l)) (hval : validOf l = true)
    (hk : ∀ H' p' c', Ext H H' → Vec H' 7 p' (buildOf l).length c' (flat (buildOf l)) → Q (.tuple #[.slice p' (buildOf l).length c', .int .i64 0]) H') : Does Pr 33 #[.slice p l.length c] H Q E := by
  refine zqz1_fn _ _ _ Q E H ?_
  unfold zqz1 zqz1_3
  refine Valid_c hv fun H1 he1 => ⟨_, rfl, ?_⟩
  rw [hval]
  refine sel_ff ?_
  unfold zqz1_1
  exact Build_c (Vec.nds (hv.ext he1)) hval fun H2 p2 c2 he2 hv2 hf2 => ⟨_, _, _, rfl, hk H2 p2 c2 (he1.trans he2) hv2⟩
def Pcs (H : Heap) (p : OA) (n c : Nat) (L : List (List UInt8)) : Prop :=
  L.length = n ∧ n ≤ c ∧ ∃ vs : List Value, vs.length = n ∧ H.rdS p vs ∧ ∀ (i : Nat) (bs : List UInt8), L[i]? = some bs → ∃ (q : OA) (m cc : Nat), vs[i]? = some (Value.slice q m cc) ∧ Byt H q m cc bs
theorem Pcs.ext {H H' : Heap} {p : OA} {n c : Nat} {L : List (List UInt8)} (h : Pcs H p n c L) (he : Ext H H') : Pcs H' p n c L := by
  obtain ⟨h1, h2, vs, h3, h4, h5⟩ := h
  refine ⟨h1, h2, vs, h3, rdS_ext he h4, fun i bs hb => ?_⟩
  obtain ⟨q, m, cc, e1, e2⟩ := h5 i bs hb
  exact ⟨q, m, cc, e1, e2.ext he⟩
end Go.Proofs.Ytaffcoiomggpfaa

/- Relations between places: package r09 (1): what they look like, empty, stay, both, then, some. -/
namespace Go.Proofs.Ytaffcoiomggpfaa
open Go.V
attribute [local irreducible] app
set_option linter.constructorNameAsVariable false
set_option linter.unusedVariables false
open Classical in
noncomputable def rowC (R : Nat → Nat → Prop) (i n : Nat) : Array Value := ((List.range n).map fun k => Value.bool (decide (R i k))).toArray
theorem rowC_size (R : Nat → Nat → Prop) (i n : Nat) : (rowC R i n).size = n := by simp [rowC]
open Classical in
theorem rowC_get {R : Nat → Nat → Prop} {i k n : Nat} (hk : k < n) : (rowC R i n)[k]? = some (.bool (decide (R i k))) := by simp [rowC, hk]
theorem rowC_congr {R R' : Nat → Nat → Prop} {i n : Nat} (h : ∀ k, k < n → (R i k ↔ R' i k)) : rowC R i n = rowC R' i n := by
  unfold rowC
  congr 1
  refine List.map_congr_left fun k hk => ?_
  rw [List.mem_range] at hk
  exact congrArg Value.bool (decide_eq_decide.2 (h k hk))
def rowV (ad : Nat → Nat) (n i : Nat) : Value := .slice (some ⟨ad i, 0, none⟩) n n
def rowsV (ad : Nat → Nat) (n m : Nat) : List Value := (List.range m).map (rowV ad n)
theorem rowsV_get {ad : Nat → Nat} {n m i : Nat} (h : i < m) : (rowsV ad n m)[i]? = some (rowV ad n i) := by simp [rowsV, h]
def RelA (H0 H : Heap) (p : OA) (m n c : Nat) (ad : Nat → Nat) (R : Nat → Nat → Prop) : Prop :=
  Ext H0 H ∧ Vec H 1 p m c (rowsV ad n m) ∧ (∀ i, i < m → H (ad i) = some (.cells (rowC R i n) 4 (0, 0)) ∧ H0 (ad i) = none ∧ ¬ blk p (ad i)) ∧ (∀ i j, i < m → j < m → ad i = ad j → i = j) ∧ ∀ j, blk p j → H0 j = none
def RelH (H : Heap) (p : OA) (n c : Nat) (R : Nat → Nat → Prop) : Prop := ∃ ad : Nat → Nat, Vec H 1 p n c (rowsV ad n n) ∧ ∀ i, i < n → H (ad i) = some (.cells (rowC R i n) 4 (0, 0))
theorem RelA.rel {H0 H : Heap} {p : OA} {n c : Nat} {ad : Nat → Nat} {R : Nat → Nat → Prop} (h : RelA H0 H p n n c ad R) : RelH H p n c R := ⟨ad, h.2.1, fun i hi => (h.2.2.1 i hi).1⟩
theorem RelH.ext {H H' : Heap} {p : OA} {n c : Nat} {R : Nat → Nat → Prop} (h : RelH H p n c R) (he : Ext H H') : RelH H' p n c R := by
  obtain ⟨ad, h1, h2⟩ := h
  exact ⟨ad, h1.ext he, fun i hi => he _ _ (h2 i hi)⟩
theorem RelH.congr {H : Heap} {p : OA} {n c : Nat} {R R' : Nat → Nat → Prop} (h : RelH H p n c R) (e : ∀ i k, i < n → k < n → (R i k ↔ R' i k)) : RelH H p n c R' := by
  obtain ⟨ad, h1, h2⟩ := h
  exact ⟨ad, h1, fun i hi => by rw [← rowC_congr (R := R) (fun k hk => e i k hi hk)]; exact h2 i hi⟩
theorem RelA.congr {H0 H : Heap} {p : OA} {m n c : Nat} {ad : Nat → Nat} {R R' : Nat → Nat → Prop} (h : RelA H0 H p m n c ad R) (e : ∀ i k, i < m → k < n → (R i k ↔ R' i k)) : RelA H0 H p m n c ad R' := by
  obtain ⟨h1, h2, h3, h4, h5⟩ := h
  exact ⟨h1, h2, fun i hi => ⟨by rw [← rowC_congr (R := R) (fun k hk => e i k hi hk)]; exact (h3 i hi).1, (h3 i hi).2⟩, h4, h5⟩
theorem RelA.base {H0 H1 H : Heap} {p : OA} {m n c : Nat} {ad : Nat → Nat} {R : Nat → Nat → Prop} (h : RelA H1 H p m n c ad R) (he : Ext H0 H1) : RelA H0 H p m n c ad R := by
  obtain ⟨h1, h2, h3, h4, h5⟩ := h
  exact ⟨he.trans h1, h2, fun i hi => ⟨(h3 i hi).1, he.free (h3 i hi).2.1, (h3 i hi).2.2⟩, h4, fun j hj => he.free (h5 j hj)⟩
theorem vec_row {H : Heap} {p : OA} {m n c i : Nat} {ad : Nat → Nat} {K : OA → Nat → Nat → Prop} (h : Vec H 1 p m c (rowsV ad n m)) (hi : i < m) (hk : K (some ⟨ad i, 0, none⟩) n n) :
    (0 ≤ (i : Int) ∧ (i : Int) < ((m : Nat) : Int)) ∧ ptr p fun q => ldSl (Addr.add q ((i : Int).toNat * 1)) H K := by
  refine ⟨⟨by omega, by omega⟩, ?_⟩
  obtain ⟨b, t, cs, rfl, q, g⟩ := vec_at1 h (n := i) (rowsV_get hi)
  simp only [ptr_some, add_at, Int.toNat_natCast, Nat.mul_one, Nat.zero_add]
  exact ldSl_at q g hk
open Classical in
theorem cell_row {H : Heap} {R : Nat → Nat → Prop} {a i k n : Nat} {K : Bool → Prop} (h : H a = some (.cells (rowC R i n) 4 (0, 0))) (hk : k < n) (hK : K (decide (R i k))) :
    (0 ≤ (k : Int) ∧ (k : Int) < ((n : Nat) : Int)) ∧ ptr (some ⟨a, 0, none⟩) fun q => ldB (Addr.add q ((k : Int).toNat * 1)) H K := by
  refine ⟨⟨by omega, by omega⟩, ?_⟩
  simp only [ptr_some, add_at, Int.toNat_natCast, Nat.mul_one, Nat.zero_add]
  exact ldB_at h (rowC_get hk) hK
open Classical in
theorem RelH.get {H : Heap} {p : OA} {n c i k : Nat} {R : Nat → Nat → Prop} {K : Bool → Prop} (h : RelH H p n c R) (hi : i < n) (hk : k < n) (hK : K (decide (R i k))) :
    (0 ≤ (i : Int) ∧ (i : Int) < ((n : Nat) : Int)) ∧ ptr p fun q => ldSl (Addr.add q ((i : Int).toNat * 1)) H fun p' l' _ =>
      (0 ≤ (k : Int) ∧ (k : Int) < ((l' : Nat) : Int)) ∧ ptr p' fun q' => ldB (Addr.add q' ((k : Int).toNat * 1)) H K := by
  obtain ⟨ad, h1, h2⟩ := h
  exact vec_row h1 hi (cell_row (h2 i hi) hk hK)
def upd (R : Nat → Nat → Prop) (i k : Nat) (v : Bool) (i' k' : Nat) : Prop := (i' = i ∧ k' = k ∧ v = true) ∨ (¬ (i' = i ∧ k' = k) ∧ R i' k')
theorem upd_row {R : Nat → Nat → Prop} {i k n : Nat} {v : Bool} (hk : k < n) : over (rowC R i n) k [.bool v] = rowC (upd R i k v) i n := by
  apply Array.ext
  · simp [over, rowC_size]
  · intro j h1 h2
    have e : ∀ (a b : Array Value) (g1 : j < a.size) (g2 : j < b.size), a[j]? = b[j]? → a[j] = b[j] := fun a b g1 g2 h => by simpa [g1, g2] using h
    refine e _ _ h1 h2 ?_
    have hj : j < n := by rw [rowC_size] at h2; exact h2
    rw [over_get _ _ _ _ (by rw [rowC_size]; simp; omega)]
    by_cases hjk : j = k
    · subst hjk
      rw [if_pos (by simp), rowC_get hj, Nat.sub_self]
      show some (Value.bool v) = _
      congr 2
      cases v <;> simp [upd]
    · rw [if_neg (by simp; omega), rowC_get hj, rowC_get hj]
      congr 2
      exact decide_eq_decide.2 (by simp [upd, hjk])
theorem RelA.put {H0 H : Heap} {p : OA} {m n c i k : Nat} {ad : Nat → Nat} {R : Nat → Nat → Prop} {v : Bool} {K : Heap → Prop} (h : RelA H0 H p m n c ad R) (hi : i < m) (hk : k < n)
    (hK : ∀ H', RelA H0 H' p m n c ad (upd R i k v) → K H') : (0 ≤ (k : Int) ∧ (k : Int) < ((n : Nat) : Int)) ∧ ptr (some ⟨ad i, 0, none⟩) fun q => wr (Addr.add q ((k : Int).toNat * 1)) [.bool v] H K := by
  obtain ⟨h1, h2, h3, h4, h5⟩ := h
  obtain ⟨a1, a2, a3⟩ := h3 i hi
  refine ⟨⟨by omega, by omega⟩, ?_⟩
  simp only [ptr_some, add_at, Int.toNat_natCast, Nat.mul_one, Nat.zero_add]
  refine wr_at a1 (by rw [rowC_size]; simp; omega) rfl ?_
  rw [upd_row hk]
  refine hK _ ⟨h1.set a2 _, h2.keep fun j hj _ => Heap.set_ne _ _ (fun e => a3 (e ▸ hj)), fun j hj => ⟨?_, (h3 j hj).2⟩, h4, h5⟩
  by_cases e : j = i
  · subst e; exact Heap.set_self _ _ _
  · rw [Heap.set_ne _ _ (fun e' => e (h4 j i hj hi e')), (h3 j hj).1]
    congr 2
    exact rowC_congr fun k' _ => by simp [upd, e]
theorem sl79 : SlT Pr 79 1 := .of (by kernel_rfl)
theorem rowC_false (i n : Nat) : rowC (fun _ _ => False) i n = (rep n [Value.bool false]).toArray := by
  rw [rep_one]
  unfold rowC
  congr 1
  apply List.ext_getElem
  · simp
  · intro j h1 h2; simp
theorem rempty_c {H : Heap} {n : Nat} {Q : QT} {E : ET} (hn : n ≤ 65536) (hk : ∀ H' p c ad, RelA H H' p n n c ad (fun _ _ => False) → Q (.slice p n c) H') : Does Pr 99 #[.int .i64 (n : Nat)] H Q E := by
  refine zqc1_fn _ Q E H ?_
  unfold zqc1 zqc1_15 zqc1_11 zqc1_8
  refine ⟨fun p l c x H' => ∃ (k : Nat) (ad : Nat → Nat), x = (k : Nat) ∧ l = k ∧ k ≤ n ∧ RelA H H' p k n c ad (fun _ _ => False), fun _ _ _ x _ => ((n : Int) - x).toNat,
    ⟨0, fun _ => 0, rfl, rfl, by omega, Ext.refl _, Vec.nil _ 1, fun i hi => by omega, fun i j hi => by omega, fun j hj => by obtain ⟨a, ha, _⟩ := hj; cases ha⟩, ?_⟩
  rintro p l c x H1 ⟨k, ad, rfl, rfl, hkn, h1, h2, h3, h4, h5⟩
  unfold zqc1_5
  refine sel_dec (fun hlt => ?_) (fun hge => ?_)
  · have hlt : l < n := by omega
    unfold zqc1_3
    refine ⟨⟨by omega, by omega, by omega, by omega⟩, ?_⟩
    rw [Int.toNat_natCast]
    refine nw_ext fun i H2 hi he2 hc2 => ?_
    refine nw_ext fun i3 H3 hi3 he3 hc3 => ?_
    have hw : IntKind.wrap .i64 ((l : Int) + 1) = ((l + 1 : Nat) : Int) := by rw [IntWalk.i64_in _ (by omega)]; omega
    rw [hw]
    refine app_one (sz := 1) (ws := [.slice (some ⟨i, 0, none⟩) n n]) sl79 ((h2.ext he2).ext he3) hc3 rfl rfl (by omega) (by omega) fun p' c' H4 hv4 hs4 hb4 => ?_
    have hip : ¬ blk p i := fun hb => h2.known hb hi
    have hia : ∀ j, j < l → ad j ≠ i := fun j hj e => by rw [← e, (h3 j hj).1] at hi; cases hi
    refine ⟨⟨l + 1, fun j => if j = l then i else ad j, rfl, rfl, by omega, ext_app ((h1.trans he2).trans he3) h5 hs4, ?_, fun j hj => ?_, fun j j' hj hj' e => ?_, fresh_app ((h1.trans he2).trans he3) h5 hb4⟩, by dsimp only; omega⟩
    · have : rowsV (fun j => if j = l then i else ad j) n (l + 1) = rowsV ad n l ++ [.slice (some ⟨i, 0, none⟩) n n] := by
        unfold rowsV
        rw [List.range_succ, List.map_append]
        congr 1
        · refine List.map_congr_left fun j hj => ?_
          rw [List.mem_range] at hj
          unfold rowV
          simp only [if_neg (show ¬ j = l by omega)]
        · simp [rowV]
      rw [this]; exact hv4
    · dsimp only
      by_cases e : j = l
      · subst e
        simp only [if_true]
        have h13 : H3 i = some (.cells (rep n [Value.bool false]).toArray 4 (0, 0)) := he3 _ _ hc2
        refine ⟨?_, h1.free hi, fun hb => ?_⟩
        · rw [hs4 i hip (by rw [h13]; simp), h13, rowC_false]
        · rcases hb4 i hb with h | h
          · exact hip h
          · rw [h13] at h; cases h
      · simp only [if_neg e]
        obtain ⟨a1, a2, a3⟩ := h3 j (by omega)
        have a13 : H3 (ad j) = some (.cells (rowC (fun _ _ => False) j n) 4 (0, 0)) := he3 _ _ (he2 _ _ a1)
        refine ⟨?_, a2, fun hb => ?_⟩
        · rw [hs4 _ a3 (by rw [a13]; simp), a13]
        · rcases hb4 _ hb with h | h
          · exact a3 h
          · rw [a13] at h; cases h
    · dsimp only at e
      by_cases e1 : j = l <;> by_cases e2 : j' = l
      · omega
      · rw [if_pos e1, if_neg e2] at e; exact absurd e.symm (hia j' (by omega))
      · rw [if_neg e1, if_pos e2] at e; exact absurd e (hia j (by omega))
      · rw [if_neg e1, if_neg e2] at e; exact h4 j j' (by omega) (by omega) e
  · obtain rfl : l = n := by omega
    unfold zqc1_1
    exact hk H1 p c ad ⟨h1, h2, h3, h4, h5⟩
theorem wrap_succ {k : Nat} (h : k ≤ 1048576) : IntKind.wrap .i64 ((k : Int) + 1) = ((k + 1 : Nat) : Int) := by rw [IntWalk.i64_in _ (by omega)]; omega
theorem rstay_c {H : Heap} {n : Nat} {Q : QT} {E : ET} (hn : n ≤ 65536) (hk : ∀ H' p c ad, RelA H H' p n n c ad (fun i k => k = i) → Q (.slice p n c) H') : Does Pr 87 #[.int .i64 (n : Nat)] H Q E := by
  refine zqa1_fn _ Q E H ?_
  unfold zqa1 zqa1_15
  refine rempty_c hn fun H1 p c ad h1 => ⟨_, _, _, rfl, ?_⟩
  unfold zqa1_11 zqa1_8
  refine ⟨fun x H' => ∃ k : Nat, x = (k : Nat) ∧ k ≤ n ∧ RelA H H' p n n c ad (fun i' k' => k' = i' ∧ i' < k), fun x _ => ((n : Int) - x).toNat, ⟨0, rfl, by omega, h1.congr fun i k _ _ => by simp⟩, ?_⟩
  rintro x H2 ⟨k, rfl, hkn, h2⟩
  unfold zqa1_5
  refine sel_dec (fun hlt => ?_) (fun hge => ?_)
  · have hlt : k < n := by omega
    unfold zqa1_3
    refine vec_row h2.2.1 hlt (h2.put hlt hlt fun H3 h3 => ?_)
    rw [wrap_succ (by omega)]
    refine ⟨⟨k + 1, rfl, by omega, h3.congr fun i' k' _ _ => ?_⟩, by dsimp only; omega⟩
    simp [upd]; omega
  · obtain rfl : k = n := by omega
    unfold zqa1_1
    exact hk H2 p c ad (h2.congr fun i' k' _ _ => by constructor <;> (intro h; first | exact h.1 | exact ⟨h, by omega⟩))
open Classical in
theorem rboth_c {H : Heap} {n ca cb : Nat} {pa pb : OA} {A B : Nat → Nat → Prop} {Q : QT} {E : ET} (hn : n ≤ 65536) (ha : RelH H pa n ca A) (hb : RelH H pb n cb B)
    (hk : ∀ H' p c ad, RelA H H' p n n c ad (fun i k => A i k ∨ B i k) → Q (.slice p n c) H') : Does Pr 85 #[.slice pa n ca, .slice pb n cb] H Q E := by
  refine zqy_fn _ _ _ _ _ _ Q E H ?_
  unfold zqy zqy_31
  refine rempty_c hn fun H1 p c ad h1 => ⟨_, _, _, rfl, ?_⟩
  unfold zqy_27 zqy_24
  refine ⟨fun x H' => ∃ i : Nat, x = (i : Nat) ∧ i ≤ n ∧ RelA H H' p n n c ad (fun i' k' => i' < i ∧ (A i' k' ∨ B i' k')), fun x _ => ((n : Int) - x).toNat, ⟨0, rfl, by omega, h1.congr fun i k _ _ => by simp⟩, ?_⟩
  rintro x H2 ⟨i, rfl, hin, h2⟩
  unfold zqy_21
  refine sel_dec (fun hlt => ?_) (fun hge => ?_)
  · have hlt : i < n := by omega
    unfold zqy_16 zqy_13
    refine ⟨fun x H' => ∃ k : Nat, x = (k : Nat) ∧ k ≤ n ∧ RelA H H' p n n c ad (fun i' k' => (i' < i ∨ (i' = i ∧ k' < k)) ∧ (A i' k' ∨ B i' k')), fun x _ => ((n : Int) - x).toNat, ⟨0, rfl, by omega, h2.congr fun i k _ _ => by simp⟩, ?_⟩
    rintro x H3 ⟨k, rfl, hkn, h3⟩
    unfold zqy_10
    refine sel_dec (fun hlk => ?_) (fun hgk => ?_)
    · have hlk : k < n := by omega
      have next : ∀ (v : Bool) (H4 : Heap), (v = true ↔ A i k ∨ B i k) → RelA H H4 p n n c ad (upd (fun i' k' => (i' < i ∨ (i' = i ∧ k' < k)) ∧ (A i' k' ∨ B i' k')) i k v) →
          zqy_5 (fun x6' H1 => (∃ i : Nat, x6' = (i : Nat) ∧ i ≤ n ∧ RelA H H1 p n n c ad (fun i' k' => i' < i ∧ (A i' k' ∨ B i' k'))) ∧ ((n : Int) - x6').toNat < ((n : Int) - (i : Nat)).toNat)
            (fun x7' H1 => (∃ k : Nat, x7' = (k : Nat) ∧ k ≤ n ∧ RelA H H1 p n n c ad (fun i' k' => (i' < i ∨ (i' = i ∧ k' < k)) ∧ (A i' k' ∨ B i' k'))) ∧ ((n : Int) - x7').toNat < ((n : Int) - (k : Nat)).toNat)
            Q E pa n ca pb n cb p n c i k H4 := by
        intro v H4 hv h4
        unfold zqy_5
        rw [wrap_succ (by omega)]
        refine ⟨⟨k + 1, rfl, by omega, h4.congr fun i' k' _ _ => ?_⟩, by omega⟩
        unfold upd
        by_cases e : i' = i ∧ k' = k
        · obtain ⟨rfl, rfl⟩ := e
          rw [hv]
          constructor
          · rintro (h | h)
            · exact ⟨.inr ⟨rfl, by omega⟩, h.2.2⟩
            · exact absurd ⟨rfl, rfl⟩ h.1
          · rintro ⟨_, h⟩; exact .inl ⟨rfl, rfl, h⟩
        · have : (i' < i ∨ i' = i ∧ k' < k + 1) ↔ (i' < i ∨ i' = i ∧ k' < k) := by omega
          rw [this]
          constructor
          · rintro (h | h)
            · exact absurd ⟨h.1, h.2.1⟩ e
            · exact h.2
          · intro h; exact .inr ⟨e, h⟩
      unfold zqy_7
      refine vec_row h3.2.1 hlt ?_
      refine (ha.ext h3.1).get hlt hlk (sel_dec (fun hA => ?_) (fun hA => ?_))
      · exact h3.put hlt hlk fun H4 h4 => next true H4 ⟨fun _ => .inl hA, fun _ => rfl⟩ h4
      · refine (hb.ext h3.1).get hlt hlk ?_
        exact h3.put hlt hlk fun H4 h4 => next _ H4 (by rw [decide_eq_true_iff]; exact ⟨.inr, fun h => h.resolve_left hA⟩) h4
    · obtain rfl : k = n := by omega
      unfold zqy_3
      rw [wrap_succ (by omega)]
      refine ⟨⟨i + 1, rfl, by omega, h3.congr fun i' k' _ hk' => ?_⟩, by show ((k : Int) - ((i + 1 : Nat) : Int)).toNat < ((k : Int) - (i : Nat)).toNat; omega⟩
      have : (i' < i ∨ i' = i ∧ k' < k) ↔ i' < i + 1 := by omega
      rw [this]
  · obtain rfl : i = n := by omega
    unfold zqy_1
    exact hk H2 p c ad (h2.congr fun i' k' hi' _ => ⟨fun h => h.2, fun h => ⟨hi', h⟩⟩)
open Classical in
theorem rsome_c {H : Heap} {n ca : Nat} {pa : OA} {A : Nat → Nat → Prop} {Q : QT} {E : ET} (hn : n ≤ 65536) (ha : RelH H pa n ca A)
    (hk : ∀ b : Bool, (b = true ↔ ∃ i k, i < n ∧ k < n ∧ A i k) → Q (.bool b) H) : Does Pr 54 #[.slice pa n ca] H Q E := by
  refine zqv_fn _ _ _ Q E H ?_
  unfold zqv zqv_27 zqv_24
  refine ⟨fun x H' => ∃ i : Nat, x = (i : Nat) ∧ i ≤ n ∧ H' = H ∧ ∀ i' k', i' < i → k' < n → ¬ A i' k', fun x _ => ((n : Int) - x).toNat, ⟨0, rfl, by omega, rfl, fun _ _ h => by omega⟩, ?_⟩
  rintro x H2 ⟨i, rfl, hin, rfl, hno⟩
  unfold zqv_21
  refine sel_dec (fun hlt => ?_) (fun hge => ?_)
  · have hlt : i < n := by omega
    unfold zqv_16 zqv_13
    refine ⟨fun x H' => ∃ k : Nat, x = (k : Nat) ∧ k ≤ n ∧ H' = H2 ∧ ∀ k', k' < k → ¬ A i k', fun x _ => ((n : Int) - x).toNat, ⟨0, rfl, by omega, rfl, fun _ h => by omega⟩, ?_⟩
    rintro x H3 ⟨k, rfl, hkn, rfl, hno2⟩
    unfold zqv_10
    refine sel_dec (fun hlk => ?_) (fun hgk => ?_)
    · have hlk : k < n := by omega
      unfold zqv_7
      refine ha.get hlt hlk (sel_dec (fun hA => ?_) (fun hA => ?_))
      · exact hk true ⟨fun _ => ⟨i, k, hlt, hlk, hA⟩, fun _ => rfl⟩
      · unfold zqv_5
        rw [wrap_succ (by omega)]
        refine ⟨⟨k + 1, rfl, by omega, rfl, fun k' hk' => ?_⟩, by dsimp only; omega⟩
        by_cases e : k' = k
        · rw [e]; exact hA
        · exact hno2 k' (by omega)
    · obtain rfl : k = n := by omega
      unfold zqv_3
      rw [wrap_succ (by omega)]
      refine ⟨⟨i + 1, rfl, by omega, rfl, fun i' k' hi' hk' => ?_⟩, by show ((k : Int) - ((i + 1 : Nat) : Int)).toNat < ((k : Int) - (i : Nat)).toNat; omega⟩
      by_cases e : i' = i
      · rw [e]; exact hno2 k' hk'
      · exact hno i' k' (by omega) hk'
  · obtain rfl : i = n := by omega
    unfold zqv_1
    exact hk false ⟨fun h => (by cases h), fun ⟨i', k', h1, h2, h3⟩ => absurd h3 (hno i' k' h1 h2)⟩
end Go.Proofs.Ytaffcoiomggpfaa

/- What nodes mean, and what the states of an automaton mean: plain laws. -/
namespace Go.Proofs.Ytaffcoiomggpfaa
open Go.V
attribute [local irreducible] app
set_option linter.unusedVariables false

inductive Star (R : Nat → Nat → Prop) : Nat → Nat → Prop where
  | none (i : Nat) : Star R i i
  | more {i j k : Nat} : R i j → Star R j k → Star R i k
def bolAt (t : List Nat) (i : Nat) : Prop := i = 0 ∨ t[i - 1]? = some 10
def eolAt (t : List Nat) (i : Nat) : Prop := t[i]? = some 10
def leafR (x : Nd) (t : List Nat) (i j : Nat) : Prop :=
  if x.k = 2 then j = i + 1 ∧ ∃ b, t[i]? = some b ∧ x.set.has b = true
  else if x.k = 8 then j = i ∧ bolAt t i
  else if x.k = 9 then j = i ∧ eolAt t i
  else j = i
def mean (t : List Nat) (l : List Nd) : Nat → Nat → Nat → Nat → Prop
  | 0, _, i, j => j = i
  | f + 1, n, i, j =>
    let x := l.getD n default
    if x.k = 2 ∨ x.k = 8 ∨ x.k = 9 then leafR x t i j
    else if x.k = 3 then ∃ m, mean t l f x.l.toNat i m ∧ mean t l f x.r.toNat m j
    else if x.k = 4 then mean t l f x.l.toNat i j ∨ mean t l f x.r.toNat i j
    else if x.k = 7 then mean t l f x.l.toNat i j ∨ j = i
    else if x.k = 5 then Star (mean t l f x.l.toNat) i j
    else if x.k = 6 then ∃ m, mean t l f x.l.toNat i m ∧ Star (mean t l f x.l.toNat) m j
    else j = i
def Step (st : List Nd) (t : List Nat) (q i q' i' : Nat) : Prop :=
  let x := st.getD q default
  (x.k = 2 ∧ i' = i ∧ (q' = x.l.toNat ∨ q' = x.r.toNat)) ∨ (x.k = 3 ∧ bolAt t i ∧ i' = i ∧ q' = x.l.toNat) ∨ (x.k = 4 ∧ eolAt t i ∧ i' = i ∧ q' = x.l.toNat) ∨
  (x.k = 1 ∧ i' = i + 1 ∧ q' = x.l.toNat ∧ ∃ b, t[i]? = some b ∧ x.set.has b = true)
inductive Acc (st : List Nd) (t : List Nat) (g k : Nat) : Nat → Nat → Nat → Prop where
  | here : Acc st t g k 0 g k
  | step {n q i q' i' : Nat} : Step st t q i q' i' → Acc st t g k n q' i' → Acc st t g k (n + 1) q i
theorem acc_step {st : List Nd} {t : List Nat} {g k n q i : Nat} (h : Acc st t g k n q i) (hg : q ≠ g) : ∃ m q' i', n = m + 1 ∧ Step st t q i q' i' ∧ Acc st t g k m q' i' := by
  cases h with
  | here => exact absurd rfl hg
  | step h1 h2 => exact ⟨_, _, _, rfl, h1, h2⟩

theorem setL_end : ∀ (st a : List Nd) (v : Int), setL (st ++ a) st.length v = st ++ setL a 0 v
  | [], _, _ => rfl
  | x :: st, a, v => by
    show x :: setL (st ++ a) st.length v = _
    rw [setL_end st a v]; rfl
theorem bd_app (l : List Nd) : ∀ (f n out : Nat) (st : List Nd), ∃ new, (bd l f n out st).2 = st ++ new
  | 0, n, out, st => ⟨[], by simp [bd]⟩
  | f + 1, n, out, st => by
    unfold bd
    dsimp only
    split
    · exact ⟨_, rfl⟩
    split
    · exact ⟨_, rfl⟩
    split
    · exact ⟨_, rfl⟩
    split
    · obtain ⟨a, ha⟩ := bd_app l f (l.getD n default).r.toNat out st
      obtain ⟨b, hb⟩ := bd_app l f (l.getD n default).l.toNat (bd l f (l.getD n default).r.toNat out st).1 (bd l f (l.getD n default).r.toNat out st).2
      exact ⟨a ++ b, by rw [hb, ha, List.append_assoc]⟩
    split
    · obtain ⟨a, ha⟩ := bd_app l f (l.getD n default).l.toNat out st
      obtain ⟨b, hb⟩ := bd_app l f (l.getD n default).r.toNat out (bd l f (l.getD n default).l.toNat out st).2
      refine ⟨a ++ (b ++ [⟨2, (bd l f (l.getD n default).l.toNat out st).1, (bd l f (l.getD n default).r.toNat out (bd l f (l.getD n default).l.toNat out st).2).1, 0, 0, 0, 0⟩]), ?_⟩
      show _ ++ [_] = _
      rw [hb, ha, List.append_assoc, List.append_assoc]
    split
    · obtain ⟨a, ha⟩ := bd_app l f (l.getD n default).l.toNat out st
      exact ⟨a ++ [_], by rw [ha, List.append_assoc]⟩
    split
    · obtain ⟨a, ha⟩ := bd_app l f (l.getD n default).l.toNat st.length (st ++ [⟨2, 0, out, 0, 0, 0, 0⟩])
      refine ⟨setL ([⟨2, 0, out, 0, 0, 0, 0⟩] ++ a) 0 ((bd l f (l.getD n default).l.toNat st.length (st ++ [⟨2, 0, out, 0, 0, 0, 0⟩])).1 : Nat), ?_⟩
      rw [ha, List.append_assoc]
      exact setL_end st _ _
    · exact ⟨[], by simp⟩
end Go.Proofs.Ytaffcoiomggpfaa
