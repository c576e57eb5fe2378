import Derived.Test.YtaffcoiomggpfaaVReach2
import Derived.Test.YtaffcoiomggpfaaVLang
import Derived.Test.YtaffcoiomggpfaaVMean3
/- To which places the automaton leads. -/
namespace Go.Proofs.Ytaffcoiomggpfaa
open Go.V
attribute [local irreducible] app
set_option linter.unusedVariables false

theorem spread_closed {st : List Nd} (hr : InR st) (bol eol : Bool) {l : List Nat} (ho : OkL st.length l) : ∀ j ∈ (spread st bol eol l).1, ∀ s ∈ goes st bol eol j, s ∈ (spread st bol eol l).1 := by
  have h1 := spreadL_spec hr bol eol (st.length + 1) 0 false l ho (by omega) (by omega) (by simp) (by simp)
  exact h1.2.1
theorem spread_one {st : List Nd} (hr : InR st) (h5 : ∀ j, j < st.length → ((st.getD j default).k = 5 ↔ j = 1)) (bol eol : Bool) {l : List Nat} (ho : OkL st.length l) : (spread st bol eol l).2 = true ↔ 1 ∈ (spread st bol eol l).1 := by
  have hok := spread_ok hr bol eol ho
  rw [spread_match hr bol eol ho, List.any_eq_true]
  constructor
  · rintro ⟨j, hj, hm⟩
    have : j = 1 := (h5 j (hok.2 j hj)).1 (of_decide_eq_true hm)
    rw [← this]; exact hj
  · exact fun h => ⟨1, h, decide_eq_true ((h5 1 (hok.2 1 h)).2 rfl)⟩
theorem endsL_spec {st : List Nd} {t : List Nat} (hr : InR st) (hpos : 0 < st.length) (h5 : ∀ j, j < st.length → ((st.getD j default).k = 5 ↔ j = 1)) : ∀ (r : List UInt8) (i : Nat) (M : Ma), OkL st.length M.now → t.drop i = r.map UInt8.toNat →
    (M.bol = true ↔ bolAt t i) → ∀ k, k ∈ endsL st r i M ↔ Can st t k i M.now
  | [], i, M, ho, ht, hb, k => by
    have hn : t[i]? = none := by
      have := congrArg (·[0]?) ht
      simpa using this
    have he : ¬ eolAt t i := fun h => by unfold eolAt at h; rw [hn] at h; cases h
    rw [← can_spread (bol := M.bol) (eol := false) hr ho hb.1 (fun h => absurd h (by decide)), can_read (spread_closed hr M.bol false ho) hb.2 (fun h => absurd h he)]
    unfold endsL
    have h1 := spread_one hr h5 M.bol false ho
    by_cases hs : (spread st M.bol false M.now).2 = true
    · rw [if_pos hs]
      simp only [List.mem_singleton]
      constructor
      · exact fun h => .inl ⟨h1.1 hs, h⟩
      · rintro (h | ⟨c, hc, _⟩)
        · exact h.2
        · rw [hn] at hc; cases hc
    · rw [if_neg hs]
      constructor
      · intro h; cases h
      · rintro (h | ⟨c, hc, _⟩)
        · exact absurd (h1.2 h.1) hs
        · rw [hn] at hc; cases hc
  | c :: r, i, M, ho, ht, hb, k => by
    have hn : t[i]? = some c.toNat := by
      have := congrArg (·[0]?) ht
      simpa using this
    have hc10 : c.toNat = 10 ↔ c = 10 := by
      constructor
      · intro h; exact UInt8.toNat_inj.1 h
      · rintro rfl; rfl
    have he : decide (c = 10) = true ↔ eolAt t i := by
      unfold eolAt; rw [hn, decide_eq_true_iff, ← hc10]; simp
    have hdr : t.drop (i + 1) = r.map UInt8.toNat := by
      have := congrArg List.tail ht
      simpa using this
    have hS := spread_ok hr M.bol (decide (c = 10)) ho
    have h1 := spread_one hr h5 M.bol (decide (c = 10)) ho
    rw [← can_spread (bol := M.bol) (eol := decide (c = 10)) hr ho hb.1 he.1, can_read (spread_closed hr M.bol (decide (c = 10)) ho) hb.2 he.2]
    unfold endsL
    have hbol : (Ma.read st true { M with now := (spread st M.bol (decide (c = 10)) M.now).1 } c.toNat).bol = true ↔ bolAt t (i + 1) := by
      show decide (c.toNat = 10) = true ↔ _
      unfold bolAt
      rw [decide_eq_true_iff, show i + 1 - 1 = i from rfl, hn]
      constructor
      · intro h; exact .inr (by rw [h])
      · rintro (h | h)
        · omega
        · exact Option.some.inj h
    have hok := read_ok hr hpos true (M := { M with now := (spread st M.bol (decide (c = 10)) M.now).1 }) c.toNat hS
    have ih := endsL_spec hr hpos h5 r (i + 1) _ hok hdr hbol k
    have hrd : OkL st.length (readL st c.toNat (spread st M.bol (decide (c = 10)) M.now).1) := readL_ok hr c.toNat _ hS.2 [] (OkL.nil _)
    have hcan : Can st t k (i + 1) (Ma.read st true { M with now := (spread st M.bol (decide (c = 10)) M.now).1 } c.toNat).now ↔ Can st t k (i + 1) (readL st c.toNat (spread st M.bol (decide (c = 10)) M.now).1) := by
      exact can_spread (bol := decide (c.toNat = 10)) (eol := false) hr hrd hbol.1 (fun h => absurd h (by decide))
    rw [List.mem_append, ih, hcan]
    constructor
    · rintro (h | h)
      · by_cases hs : (spread st M.bol (decide (c = 10)) M.now).2 = true
        · rw [if_pos hs] at h
          exact .inl ⟨h1.1 hs, List.mem_singleton.1 h⟩
        · rw [if_neg hs] at h; cases h
      · exact .inr ⟨_, hn, h⟩
    · rintro (h | ⟨c', hc', h⟩)
      · left; rw [if_pos (h1.2 h.1)]; exact List.mem_singleton.2 h.2
      · rw [hn] at hc'; cases hc'; exact .inr h
end Go.Proofs.Ytaffcoiomggpfaa

/- Only state 1 of an automaton is its match. -/
namespace Go.Proofs.Ytaffcoiomggpfaa
open Go.V
attribute [local irreducible] app
set_option linter.unusedVariables false

theorem setL_kinds {n : Nat} {v : Int} {st : List Nd} (h : ∀ x ∈ st, x.k ≠ 5) : ∀ x ∈ setL st n v, x.k ≠ 5 := by
  intro x hx
  obtain ⟨i, hi⟩ := List.mem_iff_getElem?.1 hx
  unfold setL at hi
  rw [List.getElem?_modify] at hi
  cases hs : st[i]? with
  | none => rw [hs] at hi; simp at hi
  | some y =>
    rw [hs] at hi
    have hy := h y (List.mem_iff_getElem?.2 ⟨i, hs⟩)
    simp at hi
    subst hi
    split <;> exact hy
/-- Building puts no match. -/
theorem bd_app5 (l : List Nd) : ∀ (f n out : Nat) (st : List Nd), ∃ new, (bd l f n out st).2 = st ++ new ∧ ∀ x ∈ new, x.k ≠ 5
  | 0, n, out, st => ⟨[], by simp [bd], by simp⟩
  | f + 1, n, out, st => by
    unfold bd
    dsimp only
    split
    · exact ⟨_, rfl, by simp⟩
    split
    · exact ⟨_, rfl, by simp⟩
    split
    · exact ⟨_, rfl, by simp⟩
    split
    · obtain ⟨a, ha, ka⟩ := bd_app5 l f (l.getD n default).r.toNat out st
      obtain ⟨b, hb, kb⟩ := bd_app5 l f (l.getD n default).l.toNat (bd l f (l.getD n default).r.toNat out st).1 (bd l f (l.getD n default).r.toNat out st).2
      exact ⟨a ++ b, by rw [hb, ha, List.append_assoc], fun x hx => (List.mem_append.1 hx).elim (ka x) (kb x)⟩
    split
    · obtain ⟨a, ha, ka⟩ := bd_app5 l f (l.getD n default).l.toNat out st
      obtain ⟨b, hb, kb⟩ := bd_app5 l f (l.getD n default).r.toNat out (bd l f (l.getD n default).l.toNat out st).2
      refine ⟨a ++ (b ++ [⟨2, (bd l f (l.getD n default).l.toNat out st).1, (bd l f (l.getD n default).r.toNat out (bd l f (l.getD n default).l.toNat out st).2).1, 0, 0, 0, 0⟩]), ?_, fun x hx => ?_⟩
      · show _ ++ [_] = _
        rw [hb, ha, List.append_assoc, List.append_assoc]
      · rcases List.mem_append.1 hx with hx | hx
        · exact ka x hx
        · rcases List.mem_append.1 hx with hx | hx
          · exact kb x hx
          · obtain rfl := List.mem_singleton.1 hx; simp
    split
    · obtain ⟨a, ha, ka⟩ := bd_app5 l f (l.getD n default).l.toNat out st
      refine ⟨a ++ [_], by rw [ha, List.append_assoc], fun x hx => ?_⟩
      rcases List.mem_append.1 hx with hx | hx
      · exact ka x hx
      · obtain rfl := List.mem_singleton.1 hx; simp
    split
    · obtain ⟨a, ha, ka⟩ := bd_app5 l f (l.getD n default).l.toNat st.length (st ++ [⟨2, 0, out, 0, 0, 0, 0⟩])
      refine ⟨setL ([⟨2, 0, out, 0, 0, 0, 0⟩] ++ a) 0 ((bd l f (l.getD n default).l.toNat st.length (st ++ [⟨2, 0, out, 0, 0, 0, 0⟩])).1 : Nat), ?_, setL_kinds fun x hx => ?_⟩
      · rw [ha, List.append_assoc]
        exact setL_end st _ _
      · rcases List.mem_append.1 hx with hx | hx
        · obtain rfl := List.mem_singleton.1 hx; simp
        · exact ka x hx
    · exact ⟨[], by simp, by simp⟩
theorem build_five (l : List Nd) : ∀ j, j < (buildOf l).length → (((buildOf l).getD j default).k = 5 ↔ j = 1) := by
  obtain ⟨new, hnew, hk⟩ := bd_app5 l l.length (l.length - 1) 1 [⟨2, 0, 0, 0, 0, 0, 0⟩, ⟨5, 0, 0, 0, 0, 0, 0⟩]
  intro j hj
  unfold buildOf at hj ⊢
  rw [setLR_length] at hj
  rw [setLR_get]
  generalize bd l l.length (l.length - 1) 1 [⟨2, 0, 0, 0, 0, 0, 0⟩, ⟨5, 0, 0, 0, 0, 0, 0⟩] = X at hnew hj
  obtain ⟨first, T⟩ := X
  dsimp only at hnew hj ⊢
  subst hnew
  match j, hj with
  | 0, hj => rw [if_pos ⟨rfl, hj⟩]; simp
  | 1, hj => rw [if_neg (by omega)]; simp
  | j + 2, hj =>
    rw [if_neg (by omega)]
    have : (([⟨2, 0, 0, 0, 0, 0, 0⟩, ⟨5, 0, 0, 0, 0, 0, 0⟩] : List Nd) ++ new).getD (j + 2) default = new.getD j default := by simp [List.getD_eq_getElem?_getD]
    rw [this]
    have hjn : j < new.length := by simp at hj; omega
    have hx : new.getD j default = new[j] := by rw [List.getD_eq_getElem?_getD, List.getElem?_eq_getElem hjn]; rfl
    rw [hx]
    constructor
    · intro h; exact absurd h (hk _ (List.getElem_mem hjn))
    · intro h; omega
end Go.Proofs.Ytaffcoiomggpfaa

/- endsOf: the places to which the pattern leads. -/
namespace Go.Proofs.Ytaffcoiomggpfaa
open Go.V
attribute [local irreducible] app
set_option linter.unusedVariables false

theorem endsL_from (st : List Nd) : ∀ (r : List UInt8) (i : Nat) (M : Ma), (endsL st r i M).Pairwise (· < ·) ∧ ∀ k ∈ endsL st r i M, i ≤ k ∧ k ≤ i + r.length
  | [], i, M => by
    unfold endsL
    split
    · exact ⟨List.pairwise_singleton _ _, fun k hk => by obtain rfl := List.mem_singleton.1 hk; simp⟩
    · exact ⟨List.Pairwise.nil, fun k hk => by cases hk⟩
  | c :: r, i, M => by
    unfold endsL
    obtain ⟨h1, h2⟩ := endsL_from st r (i + 1) (Ma.read st true { M with now := (spread st M.bol (decide (c = 10)) M.now).1 } c.toNat)
    refine ⟨List.pairwise_append.2 ⟨by split <;> simp, h1, fun a ha b hb => ?_⟩, fun k hk => ?_⟩
    · have := (h2 b hb).1
      split at ha
      · obtain rfl := List.mem_singleton.1 ha; omega
      · cases ha
    · rcases List.mem_append.1 hk with hk | hk
      · split at hk
        · obtain rfl := List.mem_singleton.1 hk; simp
        · cases hk
      · have := h2 k hk; simp only [List.length_cons]; omega
/-- endsOf lists the places, rising, to which the pattern leads. -/
theorem endsOf_spec {l : List Nd} {bs : List UInt8} {i : Nat} (hv : validOf l = true) (hi : i ≤ bs.length) :
    (endsOf l bs i).Pairwise (· < ·) ∧ ∀ k, k ∈ endsOf l bs i ↔ mean (bs.map UInt8.toNat) l l.length (l.length - 1) i k := by
  obtain ⟨hr, hlen, _, _⟩ := build_facts hv
  have hpos : 0 < (buildOf l).length := by omega
  unfold endsOf
  rw [if_pos hv]
  refine ⟨(endsL_from _ _ _ _).1, fun k => ?_⟩
  have hb : decide (i = 0 ∨ bs[i - 1]? = some 10) = true ↔ bolAt (bs.map UInt8.toNat) i := by
    unfold bolAt
    rw [decide_eq_true_iff, List.getElem?_map]
    cases bs[i - 1]? with
    | none => simp
    | some c =>
      have : c.toNat = 10 ↔ c = 10 := ⟨fun h => UInt8.toNat_inj.1 h, fun h => by rw [h]; rfl⟩
      simp [this]
  have hspec := endsL_spec (t := bs.map UInt8.toNat) hr hpos (build_five l) (bs.drop i) i (startM (buildOf l) (decide (i = 0 ∨ bs[i - 1]? = some 10))) (start_ok hr hpos _) (by rw [List.map_drop]) hb k
  rw [hspec]
  have h0 : OkL (buildOf l).length [0] := ⟨by simp, fun j hj => by obtain rfl := List.mem_singleton.1 hj; exact hpos⟩
  have h1 : Can (buildOf l) (bs.map UInt8.toNat) k i (startM (buildOf l) (decide (i = 0 ∨ bs[i - 1]? = some 10))).now ↔ Can (buildOf l) (bs.map UInt8.toNat) k i [0] :=
    can_spread hr h0 hb.1 (fun h => absurd h (by decide))
  rw [h1, ← acc_build l i k]
  constructor
  · rintro ⟨q, hq, m, ha⟩
    obtain rfl := List.mem_singleton.1 hq
    exact ⟨m, ha⟩
  · rintro ⟨m, ha⟩
    exact ⟨0, by simp, m, ha⟩
end Go.Proofs.Ytaffcoiomggpfaa
