/- To which places the automaton leads. -/
import Derived.Test.YtaffcoiomggpfaaVReach2
import Derived.Test.YtaffcoiomggpfaaVLang
namespace Go.Proofs.Ytaffcoiomggpfaa
open Go.V
attribute [local irreducible] app
set_option linter.unusedVariables false

theorem spread_closed {st : List Nd} (hr : InR st) (bol eol : Bool) {l : List Nat} (ho : OkL st.length l) : ∀ j ∈ (spread st bol eol l).1, ∀ s ∈ goes st bol eol j, s ∈ (spread st bol eol l).1 := by
  have h1 := spreadL_spec hr bol eol (st.length + 1) 0 false l ho (by omega) (by omega) (by simp) (by simp)
  exact h1.2.1
theorem spread_one {st : List Nd} (hr : InR st) (h5 : ∀ j, j < st.length → ((st.getD j default).k = 5 ↔ j = 1)) (bol eol : Bool) {l : List Nat} (ho : OkL st.length l) : (spread st bol eol l).2 = true ↔ 1 ∈ (spread st bol eol l).1 := by
  have hok := spread_ok hr bol eol ho
  rw [spread_match hr bol eol ho, List.any_eq_true]
  constructor
  · rintro ⟨j, hj, hm⟩
    have : j = 1 := (h5 j (hok.2 j hj)).1 (of_decide_eq_true hm)
    rw [← this]; exact hj
  · exact fun h => ⟨1, h, decide_eq_true ((h5 1 (hok.2 1 h)).2 rfl)⟩
theorem endsL_spec {st : List Nd} {t : List Nat} (hr : InR st) (hpos : 0 < st.length) (h5 : ∀ j, j < st.length → ((st.getD j default).k = 5 ↔ j = 1)) : ∀ (r : List UInt8) (i : Nat) (M : Ma), OkL st.length M.now → t.drop i = r.map UInt8.toNat →
    (M.bol = true ↔ bolAt t i) → ∀ k, k ∈ endsL st r i M ↔ Can st t k i M.now
  | [], i, M, ho, ht, hb, k => by
    have hn : t[i]? = none := by
      have := congrArg (·[0]?) ht
      simpa using this
    have he : ¬ eolAt t i := fun h => by unfold eolAt at h; rw [hn] at h; cases h
    rw [← can_spread (bol := M.bol) (eol := false) hr ho hb.1 (fun h => absurd h (by decide)), can_read (spread_closed hr M.bol false ho) hb.2 (fun h => absurd h he)]
    unfold endsL
    have h1 := spread_one hr h5 M.bol false ho
    by_cases hs : (spread st M.bol false M.now).2 = true
    · rw [if_pos hs]
      simp only [List.mem_singleton]
      constructor
      · exact fun h => .inl ⟨h1.1 hs, h⟩
      · rintro (h | ⟨c, hc, _⟩)
        · exact h.2
        · rw [hn] at hc; cases hc
    · rw [if_neg hs]
      constructor
      · intro h; cases h
      · rintro (h | ⟨c, hc, _⟩)
        · exact absurd (h1.2 h.1) hs
        · rw [hn] at hc; cases hc
  | c :: r, i, M, ho, ht, hb, k => by
    have hn : t[i]? = some c.toNat := by
      have := congrArg (·[0]?) ht
      simpa using this
    have hc10 : c.toNat = 10 ↔ c = 10 := by
      constructor
      · intro h; exact UInt8.toNat_inj.1 h
      · rintro rfl; rfl
    have he : decide (c = 10) = true ↔ eolAt t i := by
      unfold eolAt; rw [hn, decide_eq_true_iff, ← hc10]; simp
    have hdr : t.drop (i + 1) = r.map UInt8.toNat := by
      have := congrArg List.tail ht
      simpa using this
    have hS := spread_ok hr M.bol (decide (c = 10)) ho
    have h1 := spread_one hr h5 M.bol (decide (c = 10)) ho
    rw [← can_spread (bol := M.bol) (eol := decide (c = 10)) hr ho hb.1 he.1, can_read (spread_closed hr M.bol (decide (c = 10)) ho) hb.2 he.2]
    unfold endsL
    have hbol : (Ma.read st true { M with now := (spread st M.bol (decide (c = 10)) M.now).1 } c.toNat).bol = true ↔ bolAt t (i + 1) := by
      show decide (c.toNat = 10) = true ↔ _
      unfold bolAt
      rw [decide_eq_true_iff, show i + 1 - 1 = i from rfl, hn]
      constructor
      · intro h; exact .inr (by rw [h])
      · rintro (h | h)
        · omega
        · exact Option.some.inj h
    have hok := read_ok hr hpos true (M := { M with now := (spread st M.bol (decide (c = 10)) M.now).1 }) c.toNat hS
    have ih := endsL_spec hr hpos h5 r (i + 1) _ hok hdr hbol k
    have hrd : OkL st.length (readL st c.toNat (spread st M.bol (decide (c = 10)) M.now).1) := readL_ok hr c.toNat _ hS.2 [] (OkL.nil _)
    have hcan : Can st t k (i + 1) (Ma.read st true { M with now := (spread st M.bol (decide (c = 10)) M.now).1 } c.toNat).now ↔ Can st t k (i + 1) (readL st c.toNat (spread st M.bol (decide (c = 10)) M.now).1) := by
      exact can_spread (bol := decide (c.toNat = 10)) (eol := false) hr hrd hbol.1 (fun h => absurd h (by decide))
    rw [List.mem_append, ih, hcan]
    constructor
    · rintro (h | h)
      · by_cases hs : (spread st M.bol (decide (c = 10)) M.now).2 = true
        · rw [if_pos hs] at h
          exact .inl ⟨h1.1 hs, List.mem_singleton.1 h⟩
        · rw [if_neg hs] at h; cases h
      · exact .inr ⟨_, hn, h⟩
    · rintro (h | ⟨c', hc', h⟩)
      · left; rw [if_pos (h1.2 h.1)]; exact List.mem_singleton.2 h.2
      · rw [hn] at hc'; cases hc'; exact .inr h
end Go.Proofs.Ytaffcoiomggpfaa
