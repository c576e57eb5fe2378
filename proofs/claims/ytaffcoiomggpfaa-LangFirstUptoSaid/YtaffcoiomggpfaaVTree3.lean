/- Valid and its reference: the sizes and the tree say the same. -/
import Derived.Test.YtaffcoiomggpfaaVValid
namespace Go.Proofs.Ytaffcoiomggpfaa
open Go.V
set_option linter.unusedVariables false

def setZ (x : Nd) : Bool := decide (x.a = 0 ∧ x.b = 0 ∧ x.c = 0 ∧ x.d = 0)
/-- The reference's tree: the first place of the nodes below a node, -1 if they are not in order. -/
def treeN : Nat → List Nd → Int → Int
  | 0, _, _ => -1
  | f + 1, l, n =>
    if n < 0 then -1
    else if (l.getD n.toNat default).k < 1 ∨ 9 < (l.getD n.toNat default).k ∨ (l.getD n.toNat default).k ≠ 2 ∧ setZ (l.getD n.toNat default) = false then -1
    else if kids2 (l.getD n.toNat default).k < 2 ∧ (l.getD n.toNat default).r ≠ 0 ∨ kids2 (l.getD n.toNat default).k < 1 ∧ (l.getD n.toNat default).l ≠ 0 then -1
    else if kids2 (l.getD n.toNat default).k = 0 then n
    else if kids2 (l.getD n.toNat default).k = 2 then
      if (l.getD n.toNat default).r ≠ n - 1 then -1
      else if treeN f l (n - 1) - 1 < 0 ∨ (l.getD n.toNat default).l ≠ treeN f l (n - 1) - 1 then -1 else treeN f l (treeN f l (n - 1) - 1)
    else if n - 1 < 0 ∨ (l.getD n.toNat default).l ≠ n - 1 then -1 else treeN f l (n - 1)
theorem kids_eq {k : Int} (h : ¬ k < 1) (h' : ¬ 9 < k) : kidsOf k = kids2 k ∧ (kids2 k = 0 ∨ kids2 k = 1 ∨ kids2 k = 2) := by
  have : k = 1 ∨ k = 2 ∨ k = 3 ∨ k = 4 ∨ k = 5 ∨ k = 6 ∨ k = 7 ∨ k = 8 ∨ k = 9 := by omega
  rcases this with rfl | rfl | rfl | rfl | rfl | rfl | rfl | rfl | rfl <;> decide
theorem kids_no {k : Int} (h : k < 1 ∨ 9 < k) : kidsOf k = -1 := by
  unfold kidsOf; rw [if_neg (by omega), if_neg (by omega), if_neg (by omega)]
theorem vsteps_snoc : ∀ (a : List Nd) (sz : List Int) (x : Nd), vsteps sz (a ++ [x]) = (vsteps sz a).bind fun s => vstep s x
  | [], sz, x => by
    show (match vstep sz x with | none => none | some sz' => some sz') = vstep sz x
    cases vstep sz x <;> rfl
  | y :: a, sz, x => by
    show (match vstep sz y with | none => none | some sz' => vsteps sz' (a ++ [x])) = (match vstep sz y with | none => none | some sz' => vsteps sz' a).bind fun s => vstep s x
    cases vstep sz y with
    | none => rfl
    | some s => exact vsteps_snoc a s x
theorem vsteps_next {l : List Nd} {n : Nat} {x : Nd} (hx : l[n]? = some x) : vsteps [] (l.take (n + 1)) = (vsteps [] (l.take n)).bind fun s => vstep s x := by
  rw [List.take_add_one, hx]; exact vsteps_snoc _ _ _
/-- What a step that is not refused says. -/
theorem vstep_some {sz sz' : List Int} {x : Nd} (h : vstep sz x = some sz') : (x.k = 2 ∨ setZ x = true) ∧
    (kidsOf x.k = 0 ∧ x.l = 0 ∧ x.r = 0 ∧ sz' = sz ++ [1] ∨
     kidsOf x.k = 2 ∧ 1 ≤ sz.length ∧ x.r = (sz.length : Int) - 1 ∧ 0 ≤ x.l ∧ x.l = (sz.length : Int) - (1 + sz.getD ((sz.length : Int) - 1).toNat 0) ∧ sz' = sz ++ [1 + sz.getD ((sz.length : Int) - 1).toNat 0 + sz.getD x.l.toNat 0] ∨
     kidsOf x.k = 1 ∧ 1 ≤ sz.length ∧ x.l = (sz.length : Int) - 1 ∧ x.r = 0 ∧ sz' = sz ++ [1 + sz.getD ((sz.length : Int) - 1).toNat 0]) := by
  unfold vstep at h
  dsimp only at h
  split at h
  · cases h
  rename_i hs
  refine ⟨by unfold setZ; by_cases h2 : x.k = 2
             · exact .inl h2
             · exact .inr (decide_eq_true (by by_cases hz : x.a = 0 ∧ x.b = 0 ∧ x.c = 0 ∧ x.d = 0
                                              · exact hz
                                              · exact absurd ⟨h2, hz⟩ hs)), ?_⟩
  split at h
  · split at h
    · rename_i h0 hlr
      cases h; exact .inl ⟨h0, hlr.1, hlr.2, rfl⟩
    · cases h
  split at h
  · split at h
    · cases h
    split at h
    · cases h
    split at h
    · rename_i h2 g1 g2 g3
      cases h
      exact .inr (.inl ⟨h2, by omega, g3.2, by omega, g3.1, by rw [g3.1]⟩)
    · cases h
  split at h
  · split at h
    · cases h
    split at h
    · rename_i h1 g1 g2
      cases h
      exact .inr (.inr ⟨h1, by omega, g2.1, g2.2, rfl⟩)
    · cases h
  · cases h
theorem vstep_app {sz sz' : List Int} {x : Nd} (h : vstep sz x = some sz') : ∃ v, sz' = sz ++ [v] := by
  rcases (vstep_some h).2 with ⟨_, _, _, e⟩ | ⟨_, _, _, _, _, e⟩ | ⟨_, _, _, _, e⟩
  · exact ⟨_, e⟩
  · exact ⟨_, e⟩
  · exact ⟨_, e⟩
theorem vsteps_len {l : List Nd} : ∀ (n : Nat) (sz : List Int), n ≤ l.length → vsteps [] (l.take n) = some sz → sz.length = n
  | 0, sz, _, h => by
    have : some [] = some sz := by rw [List.take_zero] at h; exact h
    cases this; rfl
  | n + 1, sz, hn, h => by
    have hx : l[n]? = some l[n] := List.getElem?_eq_getElem hn
    rw [vsteps_next hx] at h
    cases h0 : vsteps [] (l.take n) with
    | none => rw [h0] at h; cases h
    | some s =>
      rw [h0] at h
      obtain ⟨v, rfl⟩ := vstep_app h
      rw [List.length_append, vsteps_len n s (by omega) h0]; rfl
/-- The sizes of the first nodes. -/
theorem vsteps_take {l : List Nd} {sz : List Int} : ∀ (d n : Nat), n + d ≤ l.length → vsteps [] (l.take (n + d)) = some sz → vsteps [] (l.take n) = some (sz.take n)
  | 0, n, hn, h => by
    have h : vsteps [] (l.take n) = some sz := h
    rw [h, List.take_of_length_le (by rw [vsteps_len n sz hn h]; exact Nat.le_refl _)]
  | d + 1, n, hn, h => by
    have hx : l[n + d]? = some (l[n + d]'(by omega)) := List.getElem?_eq_getElem (by omega)
    rw [show n + (d + 1) = (n + d) + 1 from rfl, vsteps_next hx] at h
    cases h0 : vsteps [] (l.take (n + d)) with
    | none => rw [h0] at h; cases h
    | some s =>
      rw [h0] at h
      obtain ⟨v, rfl⟩ := vstep_app h
      have hl := vsteps_len (n + d) s (by omega) h0
      rw [List.take_append_of_le_length (by omega)]
      exact vsteps_take d n (by omega) h0
theorem getD_take {a : List Int} {n j : Nat} (h : j < n) : (a.take n).getD j 0 = a.getD j 0 := by
  rw [List.getD_eq_getElem?_getD, List.getD_eq_getElem?_getD, List.getElem?_take_of_lt h]
theorem getD_snoc {a : List Int} {v : Int} {n : Nat} (h : a.length = n) : (a ++ [v]).getD n 0 = v := by subst h; simp [List.getD_eq_getElem?_getD]
theorem getD_old {a : List Int} {v : Int} {n : Nat} (h : n < a.length) : (a ++ [v]).getD n 0 = a.getD n 0 := by
  rw [List.getD_eq_getElem?_getD, List.getD_eq_getElem?_getD, List.getElem?_append_left h]
/-- Where the sizes are known, they are the reference's. -/
theorem tree_of {l : List Nd} : ∀ (n f : Nat) (sz : List Int), n < f → n < l.length → vsteps [] (l.take (n + 1)) = some sz → treeN f l n = n - sz.getD n 0 + 1 ∧ 1 ≤ sz.getD n 0 ∧ sz.getD n 0 ≤ n + 1 := by
  intro n
  induction n using Nat.strongRecOn with
  | _ n ih =>
    intro f sz hf hn h
    cases f with
    | zero => omega
    | succ f =>
      have hx : l[n]? = some l[n] := List.getElem?_eq_getElem hn
      have hxd : l.getD n default = l[n] := by rw [List.getD_eq_getElem?_getD, hx]; rfl
      have hfull := h
      rw [vsteps_next hx] at h
      cases h0 : vsteps [] (l.take n) with
      | none => rw [h0] at h; cases h
      | some s =>
        rw [h0] at h
        have hl := vsteps_len n s (by omega) h0
        have early : ∀ m, m < n → ∀ f, m < f → treeN f l m = m - s.getD m 0 + 1 ∧ 1 ≤ s.getD m 0 ∧ s.getD m 0 ≤ m + 1 := fun m hm f hmf => by
          have h2 := vsteps_take (l := l) (sz := s) (n - (m + 1)) (m + 1) (by omega) (by rw [show m + 1 + (n - (m + 1)) = n by omega]; exact h0)
          have := ih m hm f (s.take (m + 1)) hmf (by omega) h2
          rw [getD_take (by omega)] at this; exact this
        obtain ⟨g1, g2⟩ := vstep_some h
        have hk19 : ¬ l[n].k < 1 ∧ ¬ 9 < l[n].k := by
          constructor
          · intro hk
            have := kids_no (k := l[n].k) (.inl hk)
            rcases g2 with ⟨e, _⟩ | ⟨e, _⟩ | ⟨e, _⟩ <;> omega
          · intro hk
            have := kids_no (k := l[n].k) (.inr hk)
            rcases g2 with ⟨e, _⟩ | ⟨e, _⟩ | ⟨e, _⟩ <;> omega
        obtain ⟨ke, _⟩ := kids_eq hk19.1 hk19.2
        unfold treeN
        rw [if_neg (show ¬ (n : Int) < 0 by omega), Int.toNat_natCast, hxd]
        rw [if_neg (show ¬ (l[n].k < 1 ∨ 9 < l[n].k ∨ l[n].k ≠ 2 ∧ setZ l[n] = false) by
          rintro (h | h | ⟨h, h'⟩)
          · exact hk19.1 h
          · exact hk19.2 h
          · rcases g1 with g1 | g1
            · exact h g1
            · rw [g1] at h'; cases h')]
        rcases g2 with ⟨e1, e2, e3, e4⟩ | ⟨e1, e2, e3, e4, e5, e6⟩ | ⟨e1, e2, e3, e4, e5⟩
        · rw [if_neg (by omega), if_pos (by omega)]
          rw [e4, getD_snoc hl]; omega
        · rw [hl] at e2 e3 e5 e6
          have hn1 : ((n : Int) - 1) = ((n - 1 : Nat) : Int) := by omega
          obtain ⟨a1, a2, a3⟩ := early (n - 1) (by omega) f (by omega)
          rw [hn1, Int.toNat_natCast] at e5 e6
          have hm : l[n].l = ((l[n].l.toNat : Nat) : Int) := by omega
          obtain ⟨b1, b2, b3⟩ := early l[n].l.toNat (by omega) f (by omega)
          rw [if_neg (by omega), if_neg (by omega), if_pos (by omega), if_neg (by omega), hn1, a1]
          have hlast : ((n - 1 : Nat) : Int) - s.getD (n - 1) 0 + 1 - 1 = l[n].l := by omega
          rw [hlast, if_neg (by omega), hm, b1]
          have hsz : sz.getD n 0 = 1 + s.getD (n - 1) 0 + s.getD l[n].l.toNat 0 := by rw [e6]; exact getD_snoc hl
          rw [hsz]
          omega
        · rw [hl] at e2 e3 e5
          have hn1 : ((n : Int) - 1) = ((n - 1 : Nat) : Int) := by omega
          obtain ⟨a1, a2, a3⟩ := early (n - 1) (by omega) f (by omega)
          rw [hn1, Int.toNat_natCast] at e5
          rw [if_neg (by omega), if_neg (by omega), if_neg (by omega), if_neg (by omega), hn1, a1]
          have hsz : sz.getD n 0 = 1 + s.getD (n - 1) 0 := by rw [e5]; exact getD_snoc hl
          rw [hsz]
          omega
/-- Where the reference finds a tree, the sizes are known. -/
theorem of_tree {l : List Nd} : ∀ (n f : Nat) (F : Int), n < f → n < l.length → treeN f l n = F → 0 ≤ F → F ≤ n ∧ ∀ s0, vsteps [] (l.take F.toNat) = some s0 →
    ∃ sz, vsteps [] (l.take (n + 1)) = some sz ∧ sz.getD n 0 = n - F + 1 := by
  intro n
  induction n using Nat.strongRecOn with
  | _ n ih =>
    intro f F hf hn h hF
    cases f with
    | zero => omega
    | succ f =>
      have hx : l[n]? = some l[n] := List.getElem?_eq_getElem hn
      have hxd : l.getD n default = l[n] := by rw [List.getD_eq_getElem?_getD, hx]; rfl
      unfold treeN at h
      rw [if_neg (show ¬ (n : Int) < 0 by omega), Int.toNat_natCast, hxd] at h
      by_cases c1 : l[n].k < 1 ∨ 9 < l[n].k ∨ l[n].k ≠ 2 ∧ setZ l[n] = false
      · rw [if_pos c1] at h; omega
      rw [if_neg c1] at h
      by_cases c2 : kids2 l[n].k < 2 ∧ l[n].r ≠ 0 ∨ kids2 l[n].k < 1 ∧ l[n].l ≠ 0
      · rw [if_pos c2] at h; omega
      rw [if_neg c2] at h
      obtain ⟨ke, kk⟩ := kids_eq (k := l[n].k) (by omega) (by omega)
      have hset : ¬ (l[n].k ≠ 2 ∧ ¬ (l[n].a = 0 ∧ l[n].b = 0 ∧ l[n].c = 0 ∧ l[n].d = 0)) := by
        rintro ⟨q1, q2⟩
        exact c1 (.inr (.inr ⟨q1, by unfold setZ; exact decide_eq_false q2⟩))
      -- the step at n, from the sizes before it
      have step : ∀ s v, vsteps [] (l.take n) = some s → s.length = n → vstep s l[n] = some (s ++ [v]) → v = n - F + 1 → ∃ sz, vsteps [] (l.take (n + 1)) = some sz ∧ sz.getD n 0 = n - F + 1 := by
        intro s v hs hl hv he
        refine ⟨s ++ [v], ?_, by rw [getD_snoc hl]; exact he⟩
        rw [vsteps_next hx, hs]; exact hv
      by_cases c3 : kids2 l[n].k = 0
      · rw [if_pos c3] at h
        subst h
        refine ⟨Int.le_refl _, fun s0 hs => ?_⟩
        rw [Int.toNat_natCast] at hs
        refine step s0 1 hs (vsteps_len n s0 (by omega) hs) ?_ (by omega)
        unfold vstep
        dsimp only
        rw [if_neg hset, if_pos (by omega), if_pos ⟨by omega, by omega⟩]
      rw [if_neg c3] at h
      by_cases c4 : kids2 l[n].k = 2
      · rw [if_pos c4] at h
        by_cases c5 : l[n].r ≠ (n : Int) - 1
        · rw [if_pos c5] at h; omega
        rw [if_neg c5] at h
        generalize hG : treeN f l ((n : Int) - 1) = G at h
        by_cases c6 : G - 1 < 0 ∨ l[n].l ≠ G - 1
        · rw [if_pos c6] at h; omega
        rw [if_neg c6] at h
        have hn0 : 1 ≤ n := by
          by_cases hz : n = 0
          · subst hz
            have : G = -1 := by
              rw [← hG]
              cases f with
              | zero => rfl
              | succ f => unfold treeN; rw [if_pos (by omega)]
            omega
          · omega
        have hn1 : ((n : Int) - 1) = ((n - 1 : Nat) : Int) := by omega
        rw [hn1] at hG
        obtain ⟨a1, a2⟩ := ih (n - 1) (by omega) f G (by omega) (by omega) hG (by omega)
        have hm : G - 1 = (((G - 1).toNat : Nat) : Int) := by omega
        rw [hm] at h
        obtain ⟨b1, b2⟩ := ih (G - 1).toNat (by omega) f F (by omega) (by omega) h hF
        refine ⟨by omega, fun s0 hs => ?_⟩
        obtain ⟨sm, m1, m2⟩ := b2 s0 hs
        obtain ⟨s, k1, k2⟩ := a2 sm (by rw [show G.toNat = (G - 1).toNat + 1 by omega]; exact m1)
        rw [show n - 1 + 1 = n by omega] at k1
        have hl := vsteps_len n s (by omega) k1
        have hpre := vsteps_take (l := l) (sz := s) (n - ((G - 1).toNat + 1)) ((G - 1).toNat + 1) (by omega) (by rw [show (G - 1).toNat + 1 + (n - ((G - 1).toNat + 1)) = n by omega]; exact k1)
        have hsm : s.getD (G - 1).toNat 0 = sm.getD (G - 1).toNat 0 := by
          rw [m1] at hpre
          rw [Option.some.inj hpre, getD_take (by omega)]
        refine step s (1 + s.getD (n - 1) 0 + s.getD (G - 1).toNat 0) k1 hl ?_ (by rw [hsm, m2, k2]; omega)
        unfold vstep
        dsimp only
        rw [hl, hn1, Int.toNat_natCast]
        rw [if_neg hset, if_neg (by omega), if_pos (by omega), if_neg (by omega), if_neg (by omega), if_pos ⟨by omega, by omega⟩]
        rw [show (n : Int) - (1 + s.getD (n - 1) 0) = G - 1 by omega]
      · rw [if_neg c4] at h
        by_cases c6 : (n : Int) - 1 < 0 ∨ l[n].l ≠ (n : Int) - 1
        · rw [if_pos c6] at h; omega
        rw [if_neg c6] at h
        have hn1 : ((n : Int) - 1) = ((n - 1 : Nat) : Int) := by omega
        rw [hn1] at h
        obtain ⟨a1, a2⟩ := ih (n - 1) (by omega) f F (by omega) (by omega) h hF
        refine ⟨by omega, fun s0 hs => ?_⟩
        obtain ⟨s, k1, k2⟩ := a2 s0 hs
        rw [show n - 1 + 1 = n by omega] at k1
        have hl := vsteps_len n s (by omega) k1
        refine step s (1 + s.getD (n - 1) 0) k1 hl ?_ (by rw [k2]; omega)
        unfold vstep
        dsimp only
        rw [hl, hn1, Int.toNat_natCast]
        rw [if_neg hset, if_neg (by omega), if_neg (by omega), if_pos (by omega), if_neg (by omega), if_pos ⟨by omega, by omega⟩]
theorem treeN_le (l : List Nd) : ∀ (f : Nat) (n : Int), treeN f l n = -1 ∨ 0 ≤ treeN f l n ∧ treeN f l n ≤ n
  | 0, _ => .inl rfl
  | f + 1, n => by
    unfold treeN
    split
    · exact .inl rfl
    split
    · exact .inl rfl
    split
    · exact .inl rfl
    split
    · exact .inr ⟨by omega, Int.le_refl _⟩
    split
    · split
      · exact .inl rfl
      · have h1 := treeN_le l f (n - 1)
        split
        · exact .inl rfl
        · rcases treeN_le l f (treeN f l (n - 1) - 1) with h | ⟨h, h'⟩
          · exact .inl h
          · exact .inr ⟨h, by omega⟩
    · split
      · exact .inl rfl
      · rcases treeN_le l f (n - 1) with h | ⟨h, h'⟩
        · exact .inl h
        · exact .inr ⟨h, by omega⟩
/-- What the reference's Valid answers. -/
def rValid (l : List Nd) : Bool := decide (1 ≤ l.length) && decide (l.length ≤ 256) && decide (treeN 300 l ((l.length : Int) - 1) = 0)
theorem valid_eq (l : List Nd) : validOf l = rValid l := by
  unfold rValid
  cases l with
  | nil => rfl
  | cons x l =>
    have hval : validOf (x :: l) = if 256 < (x :: l).length then false else match vsteps [] (x :: l) with
      | none => false
      | some sz => decide (sz.getD ((x :: l).length - 1) 0 = (x :: l).length) := rfl
    rw [hval]
    generalize hL : x :: l = L
    have hpos : 0 < L.length := by rw [← hL]; simp
    by_cases hb : 256 < L.length
    · rw [if_pos hb, decide_eq_false (show ¬ L.length ≤ 256 by omega)]; simp
    rw [if_neg hb, decide_eq_true (show 1 ≤ L.length by omega), decide_eq_true (show L.length ≤ 256 by omega), Bool.true_and, Bool.true_and]
    have hn1 : ((L.length : Int) - 1) = ((L.length - 1 : Nat) : Int) := by omega
    have hfull : vsteps [] (L.take (L.length - 1 + 1)) = vsteps [] L := by rw [show L.length - 1 + 1 = L.length by omega, List.take_length]
    rw [hn1]
    cases hv : vsteps [] L with
    | some sz =>
      dsimp only
      obtain ⟨a1, a2, a3⟩ := tree_of (l := L) (L.length - 1) 300 sz (by omega) (by omega) (by rw [hfull, hv])
      rw [a1]
      by_cases he : sz.getD (L.length - 1) 0 = L.length
      · rw [decide_eq_true he, decide_eq_true (by omega)]
      · rw [decide_eq_false he, decide_eq_false (by omega)]
    | none =>
      dsimp only
      refine (decide_eq_false fun h => ?_).symm
      obtain ⟨sz, h1, _⟩ := (of_tree (l := L) (L.length - 1) 300 0 (by omega) (by omega) h (Int.le_refl _)).2 [] rfl
      rw [hfull, hv] at h1
      cases h1
end Go.Proofs.Ytaffcoiomggpfaa
