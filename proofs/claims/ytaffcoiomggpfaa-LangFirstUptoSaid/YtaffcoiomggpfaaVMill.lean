/- Contracts of package jobmuxmill: the deck of numbers. -/
import Derived.Test.YtaffcoiomggpfaaVSet
import Derived.Test.YtaffcoiomggpfaaFmill
namespace Go.Proofs.Ytaffcoiomggpfaa
open Go.V
attribute [local irreducible] app
set_option linter.constructorNameAsVariable false
set_option linter.unusedVariables false

theorem cell_ext {H H' : Heap} (he : Ext H H') {a : Addr} {v : Value} (h : H.cell? a = some v) : H'.cell? a = some v := by
  unfold Heap.cell? at *
  cases hb : H a.block with
  | none => rw [hb] at h; cases h
  | some o => rw [he _ _ hb]; rw [hb] at h; exact h
theorem rd_ext {H H' : Heap} (he : Ext H H') {a : Addr} : ∀ {vs : List Value} {i : Nat}, H.rd a i vs → H'.rd a i vs
  | [], _, _ => trivial
  | v :: vs, i, h => ⟨cell_ext he h.1, rd_ext he h.2⟩
theorem rdS_ext {H H' : Heap} (he : Ext H H') {p : Option Addr} {vs : List Value} (h : H.rdS p vs) : H'.rdS p vs := by
  cases p with
  | none => exact h
  | some a => exact rd_ext he h
theorem rd_get {H : Heap} {a : Addr} : ∀ {vs : List Value} {i j : Nat} {v : Value}, H.rd a i vs → vs[j]? = some v → H.cell? (a.add (i + j)) = some v
  | [], _, _, _, _, h => by simp at h
  | v :: vs, i, 0, w, h, hv => by simp at hv; subst hv; exact h.1
  | v :: vs, i, j + 1, w, h, hv => by
    have := rd_get h.2 (j := j) (v := w) (by simpa using hv)
    rw [show i + (j + 1) = i + 1 + j by omega]; exact this
/-- A list of numbers that is only read. -/
def Ints (H : Heap) (p : Option Addr) (n : Nat) (xs : List Int) : Prop := xs.length = n ∧ n ≤ 1048576 ∧ H.rdS p (xs.map (Value.int .i64))
theorem Ints.ext {H H' : Heap} {p : Option Addr} {n : Nat} {xs : List Int} (h : Ints H p n xs) (he : Ext H H') : Ints H' p n xs := ⟨h.1, h.2.1, rdS_ext he h.2.2⟩
/-- The deck in block d: the numbers, and how many were drawn. -/
def Deck (H0 H : Heap) (d : Nat) (xs : List Int) (k : Nat) : Prop := Ext H0 H ∧ H0 d = none ∧ k ≤ xs.length ∧ ∃ p n c t, Ints H0 p n xs ∧ H d = some (.cells #[.slice p n c, .int .i64 (k : Nat)] t (0, 0))
theorem Deck.ext {H0 H H' : Heap} {d : Nat} {xs : List Int} {k : Nat} (h : Deck H0 H d xs k) (he : Ext H H') : Deck H0 H' d xs k := by
  obtain ⟨h1, h2, h3, p, n, c, t, h4, h5⟩ := h
  exact ⟨h1.trans he, h2, h3, p, n, c, t, h4, he _ _ h5⟩
def modOf (a b : Int) : Int := if Int.tmod a b < 0 then IntKind.wrap .i64 (Int.tmod a b + b) else Int.tmod a b
theorem Mod_c {H : Heap} {a b : Int} {Q : Value → Heap → Prop} {E : Chain → Heap → Prop} (hb : b ≠ 0) (hk : Q (.int .i64 (modOf a b)) H) : Does Pr 22 #[.int .i64 a, .int .i64 b] H Q E := by
  refine zqo1_fn _ _ Q E H ?_
  unfold zqo1 zqo1_6 zqo1_3 zqo1_1
  refine ⟨hb, sel_dec (fun h => ?_) (fun h => ?_)⟩
  · unfold modOf at hk; rw [if_pos h] at hk; exact hk
  · unfold modOf at hk; rw [if_neg h] at hk; exact hk
theorem modOf_bounds {a : Int} {n : Nat} (hn : 0 < n) (hn2 : n ≤ 1048576) : 0 ≤ modOf a n ∧ modOf a n < n := by
  have h1 : Int.tmod a n < n := Int.tmod_lt_of_pos a (by omega)
  have h2 : -(n : Int) < Int.tmod a n := by
    have h : (Int.tmod a n).natAbs < n := by
      rw [Int.natAbs_tmod]; simpa using Nat.mod_lt _ hn
    omega
  unfold modOf
  split
  · rw [IntWalk.i64_in _ (by omega)]; omega
  · omega
theorem Left_c {H0 H : Heap} {d k : Nat} {xs : List Int} {Q : Value → Heap → Prop} {E : Chain → Heap → Prop} (h : Deck H0 H d xs k)
    (hk : Q (.bool (decide (k < xs.length))) H) : Does Pr 61 #[.pointer (some ⟨d, 0, none⟩)] H Q E := by
  refine zqs1_fn _ Q E H ?_
  obtain ⟨h1, h2, h3, p, n, c, t, h4, h5⟩ := h
  unfold zqs1
  refine ldI_at (n := (k : Nat)) h5 rfl ?_
  refine ldSl_at (p := p) (l := n) (m := c) h5 rfl ?_
  have e : decide (((k : Nat) : Int) < ((n : Nat) : Int)) = decide (k < xs.length) := by rw [h4.1]; simp
  rw [e]; exact hk
def drawOf (xs : List Int) (k : Nat) (b : Int) : Int := if k < xs.length then modOf (xs.getD k 0) b else 0
theorem Next_c {H0 H : Heap} {d k : Nat} {xs : List Int} {b : Int} {Q : Value → Heap → Prop} {E : Chain → Heap → Prop} (h : Deck H0 H d xs k) (hb : b ≠ 0)
    (hk : ∀ H', Deck H0 H' d xs (min (k + 1) xs.length) → (∀ i, i ≠ d → H' i = H i) → Q (.int .i64 (drawOf xs k b)) H') : Does Pr 49 #[.pointer (some ⟨d, 0, none⟩), .int .i64 b] H Q E := by
  refine zqr1_fn _ _ Q E H ?_
  unfold zqr1 zqr1_3
  refine Left_c h ⟨_, rfl, ?_⟩
  obtain ⟨h1, h2, h3, p, n, c, t, h4, h5⟩ := id h
  refine sel_not (fun hf => ?_) (fun ht => ?_)
  · have hf := of_decide_eq_false hf
    have e : drawOf xs k b = 0 := if_neg hf
    rw [e] at hk
    have : min (k + 1) xs.length = k := by omega
    rw [this] at hk
    exact hk _ h (fun _ _ => rfl)
  · have ht := of_decide_eq_true ht
    obtain ⟨g1, g2, g3⟩ := id h4
    unfold zqr1_1
    simp only [ptr_some, add_at, Nat.zero_add]
    refine ldI_at (n := (k : Nat)) h5 rfl ?_
    have hw : IntKind.wrap .i64 (((k : Nat) : Int) + 1) = ((k + 1 : Nat) : Int) := by rw [IntWalk.i64_in _ (by omega)]; omega
    rw [hw]
    refine wr_at h5 (by simp) rfl ?_
    have h6 : (H.set d (.cells #[.slice p n c, .int .i64 ((k + 1 : Nat) : Int)] t (0, 0))) d = some (.cells #[.slice p n c, .int .i64 ((k + 1 : Nat) : Int)] t (0, 0)) := Heap.set_self _ _ _
    have h7 : Ext H0 (H.set d (.cells #[.slice p n c, .int .i64 ((k + 1 : Nat) : Int)] t (0, 0))) := h1.set h2 _
    have ho : over #[Value.slice p n c, Value.int .i64 ((k : Nat) : Int)] 1 [Value.int .i64 ((k + 1 : Nat) : Int)] = #[Value.slice p n c, Value.int .i64 ((k + 1 : Nat) : Int)] := rfl
    rw [ho]
    have h8 : ∀ i, i ≠ d → (H.set d (.cells #[.slice p n c, .int .i64 ((k + 1 : Nat) : Int)] t (0, 0))) i = H i := fun i hi => Heap.set_ne _ _ hi
    revert h6 h7 h8
    generalize H.set d (.cells #[.slice p n c, .int .i64 ((k + 1 : Nat) : Int)] t (0, 0)) = H1
    intro h6 h7 h8
    refine ldSl_at (p := p) (l := n) (m := c) h6 rfl ?_
    refine ldI_at (n := ((k + 1 : Nat) : Int)) h6 rfl ?_
    have hw2 : IntKind.wrap .i64 (((k + 1 : Nat) : Int) - 1) = (k : Nat) := by rw [IntWalk.i64_in _ (by omega)]; omega
    rw [hw2]
    refine ⟨⟨by omega, by omega⟩, ?_⟩
    cases p with
    | none =>
      have : xs.map (Value.int .i64) = [] := g3
      simp at this; subst this; simp at ht
    | some a =>
      simp only [ptr_some, Int.toNat_natCast, Nat.mul_one]
      have hc : H1.cell? (a.add (0 + k)) = some (.int .i64 (xs.getD k 0)) := cell_ext h7 (rd_get g3 (by simp [List.getD_eq_getElem?_getD, ht]))
      rw [Nat.zero_add] at hc
      refine ⟨xs.getD k 0, hc, Mod_c hb ⟨_, rfl, ?_⟩⟩
      have e : drawOf xs k b = modOf (xs.getD k 0) b := if_pos ht
      rw [e] at hk
      have : min (k + 1) xs.length = k + 1 := by omega
      rw [this] at hk
      exact hk _ ⟨h7, h2, by omega, some a, n, c, t, h4, h6⟩ h8
theorem New_c {H : Heap} {p : Option Addr} {n c : Nat} {xs : List Int} {Q : Value → Heap → Prop} {E : Chain → Heap → Prop} (h : Ints H p n xs)
    (hk : ∀ d H', Deck H H' d xs 0 → Q (.pointer (some ⟨d, 0, none⟩)) H') : Does Pr 47 #[.slice p n c] H Q E := by
  refine zqp1_fn _ _ _ Q E H ?_
  unfold zqp1
  intro d hd
  exact hk d _ ⟨Ext.new hd _, hd, Nat.zero_le _, p, n, c, 123, h, Heap.set_self _ _ _⟩
end Go.Proofs.Ytaffcoiomggpfaa
