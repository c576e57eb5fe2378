/- A region that draws its order: one order is enough (4): the machine's side. -/
import Derived.Test.YtaffcoiomggpfaaVSwap
namespace Go.V
set_option linter.constructorNameAsVariable false
set_option linter.unusedVariables false
variable {P : Program}

def depsOf (o : Oper) : List Nat := (o.after.toList.filter (Region.binds .any)).map (·.on)
/-- What comes before each operation, as bits. -/
def masks : List Oper → List Nat → List Nat
  | [], acc => acc
  | o :: l, acc => masks l (acc ++ [(depsOf o).foldl (fun s e => s ||| 2 ^ e ||| acc.getD e 0) 0])
theorem fold_bit (acc : List Nat) (y : Nat) : ∀ (ds : List Nat) (s : Nat), (ds.foldl (fun s e => s ||| 2 ^ e ||| acc.getD e 0) s).testBit y = true →
    s.testBit y = true ∨ ∃ e ∈ ds, y = e ∨ (acc.getD e 0).testBit y = true
  | [], s, h => .inl h
  | d :: ds, s, h => by
    rcases fold_bit acc y ds _ h with h | ⟨e, he, h⟩
    · simp only [Nat.testBit_or, Bool.or_eq_true, Nat.testBit_two_pow] at h
      rcases h with (h | h) | h
      · exact .inl h
      · have h' : d = y := by simpa using h
        exact .inr ⟨d, by simp, .inl h'.symm⟩
      · exact .inr ⟨d, by simp, .inr h⟩
    · exact .inr ⟨e, by simp [he], h⟩
def MOk (os : List Oper) (m : List Nat) : Prop := ∀ x y, (m.getD x 0).testBit y = true → ∃ o, os[x]? = some o ∧ ∃ e ∈ depsOf o, y = e ∨ (m.getD e 0).testBit y = true
theorem masks_ok (os : List Oper) : ∀ (l done : List Oper) (acc : List Nat), os = done ++ l → acc.length = done.length →
    (∀ x y, (acc.getD x 0).testBit y = true → ∃ o, os[x]? = some o ∧ ∃ e ∈ depsOf o, y = e ∨ (e < acc.length ∧ (acc.getD e 0).testBit y = true)) →
    MOk os (masks l acc)
  | [], done, acc, h1, h2, h3 => fun x y h => by
    obtain ⟨o, ho, e, he, h⟩ := h3 x y h
    exact ⟨o, ho, e, he, h.imp id (·.2)⟩
  | o :: l, done, acc, h1, h2, h3 => by
    refine masks_ok os l (done ++ [o]) _ (by simp [h1]) (by simp [h2]) fun x y h => ?_
    have hlt : ∀ e, e < acc.length → (acc ++ [(depsOf o).foldl (fun s e => s ||| 2 ^ e ||| acc.getD e 0) 0]).getD e 0 = acc.getD e 0 := by
      intro e he; simp [List.getD_eq_getElem?_getD, List.getElem?_append_left he]
    by_cases hx : x < acc.length
    · rw [hlt x hx] at h
      obtain ⟨o', ho, e, he, h⟩ := h3 x y h
      refine ⟨o', ho, e, he, h.imp id fun h => ⟨by simp; omega, ?_⟩⟩
      rw [hlt e h.1]; exact h.2
    · by_cases hx2 : x = acc.length
      · subst hx2
        have e1 : (acc ++ [(depsOf o).foldl (fun s e => s ||| 2 ^ e ||| acc.getD e 0) 0]).getD acc.length 0 = (depsOf o).foldl (fun s e => s ||| 2 ^ e ||| acc.getD e 0) 0 := by simp [List.getD_eq_getElem?_getD]
        rw [e1] at h
        rcases fold_bit acc y _ _ h with h | ⟨e, he, h⟩
        · simp at h
        · refine ⟨o, by rw [h1, h2]; simp, e, he, h.imp id fun h => ?_⟩
          have hel : e < acc.length := by
            rcases Nat.lt_or_ge e acc.length with h' | h'
            · exact h'
            · simp [List.getD_eq_getElem?_getD, List.getElem?_eq_none h'] at h
          refine ⟨by simp; omega, ?_⟩
          rw [hlt e hel]; exact h
      · have : (acc ++ [(depsOf o).foldl (fun s e => s ||| 2 ^ e ||| acc.getD e 0) 0]).getD x 0 = 0 := by
          rw [List.getD_eq_getElem?_getD, List.getElem?_eq_none (by simp; omega)]; rfl
        rw [this] at h; simp at h

def pairB (P : Program) (ops : Array Oper) (m : List Nat) (fl : Nat → Bool) (y x : Nat) : Bool :=
  !Nat.beq y x && !((ops[y]?).any fun o => (depsOf o).contains x) && ((m.getD x 0).testBit y || passB P ops fl y x)
def pairsB (P : Program) (ops : Array Oper) (m : List Nat) (fl : Nat → Bool) : List Nat → Bool
  | [] => true
  | y :: l => l.all (pairB P ops m fl y) && pairsB P ops m fl l
def drawOk (P : Program) (ops : Array Oper) (fl : Nat → Bool) (ord : List Nat) : Bool :=
  Region.noSelect ops && Nat.beq ord.length ops.size && (List.range ops.size).all ord.contains && ord.all (fun j => Nat.blt j ops.size) &&
  (List.range ops.size).all (fun x => (ops[x]?).all fun o => (depsOf o).all fun e => Nat.blt e ops.size && !Nat.beq e x) &&
  pairsB P ops (masks ops.toList []) fl ord

theorem pairsB_spec {ops : Array Oper} {m : List Nat} {fl : Nat → Bool} : ∀ {l : List Nat}, pairsB P ops m fl l = true → l.Pairwise fun y x => pairB P ops m fl y x = true
  | [], _ => .nil
  | y :: l, h => by
    simp only [pairsB, Bool.and_eq_true, List.all_eq_true] at h
    exact .cons h.1 (pairsB_spec h.2)

structure Inv (P : Program) (ops : Array Oper) (m : List Nat) (fl : Nat → Bool) (rem : List Nat) (listed : Array Bool) : Prop where
  mem : ∀ j, j ∈ rem ↔ j < ops.size ∧ listed.getD j true = false
  size : listed.size = ops.size
  nodup : rem.Nodup
  pairs : rem.Pairwise fun y x => pairB P ops m fl y x = true
  closed : ∀ e, listed.getD e false = true → ∀ y, (m.getD e 0).testBit y = true → listed.getD y false = true

theorem dsound {ops : Array Oper} {m : List Nat} {fl : Nat → Bool} {Z : Nat → Prop} {n : Nat} {D : List Deferred} {H₀ : Heap} {w₀ : World} {K : Tau → Heap → Prop} {Q : Exit → Act → World → Prop}
    (hns : Region.noSelect ops = true) (hd : dstsOk n ops = true) (hm : MOk ops.toList m)
    (hdeps : ∀ x o, ops[x]? = some o → ∀ e ∈ depsOf o, e < ops.size ∧ e ≠ x)
    (hn : ∀ τ' H' a' w', St n D H₀ w₀ τ' H' a' w' → K τ' H' → Q .normal a' w') :
    ∀ (fuel : Nat) (rem : List Nat) (listed : Array Bool) (τ : Tau) (H : Heap) (a : Act) (w : World), Inv P ops m fl rem listed → rem.length ≤ fuel →
      St n D H₀ w₀ τ H a w → rDraw P ops fl Z rem τ K H → wpAny P .any ops Q fuel listed a w := by
  intro fuel
  have hend : ∀ (rem : List Nat) (listed : Array Bool), Inv P ops m fl rem listed → Region.ready .any ops listed = [] → rem = [] := by
    intro rem listed hi hr
    cases rem with
    | nil => rfl
    | cons x B =>
      have hx := (hi.mem x).1 (by simp)
      obtain ⟨o, ho⟩ : ∃ o, ops[x]? = some o := ⟨_, Array.getElem?_eq_getElem hx.1⟩
      have : x ∈ Region.ready .any ops listed := by
        rw [mem_ready]
        refine ⟨hx.2, o, ho, fun e he hb => ?_⟩
        have hmem : e.on ∈ depsOf o := List.mem_map.2 ⟨e, List.mem_filter.2 ⟨by simpa using he, hb⟩, rfl⟩
        obtain ⟨h1, h2⟩ := hdeps x o ho _ hmem
        cases hl : listed.getD e.on false with
        | true => rfl
        | false =>
          have hin : e.on ∈ x :: B := (hi.mem _).2 ⟨h1, by
            have hlt : e.on < listed.size := by rw [hi.size]; exact h1
            simp [hlt] at hl ⊢; exact hl⟩
          rcases List.mem_cons.1 hin with h | h
          · exact absurd h h2
          · have := (List.pairwise_cons.1 hi.pairs).1 _ h
            simp only [pairB, ho, Option.any_some, Bool.and_eq_true, Bool.not_eq_true'] at this
            rw [List.contains_iff_mem.2 hmem] at this
            have := this.1.2
            simp at this
      rw [hr] at this; cases this
  induction fuel with
  | zero =>
    intro rem listed τ H a w hi hl hs h
    have : rem = [] := List.eq_nil_of_length_eq_zero (by omega)
    subst this
    refine ⟨?_, hn _ _ _ _ hs h⟩
    cases hr : Region.ready .any ops listed with
    | nil => rfl
    | cons x xs =>
      have hx : x ∈ Region.ready .any ops listed := by rw [hr]; simp
      obtain ⟨h1, o, ho, _⟩ := mem_ready.1 hx
      exact absurd ((hi.mem x).2 ⟨(Array.getElem?_eq_some_iff.1 ho).1, h1⟩) (by simp)
  | succ fuel ih =>
    intro rem listed τ H a w hi hl hs h
    refine ⟨fun hr => ?_, fun x hx => ?_⟩
    · have := hend rem listed hi hr
      subst this
      exact hn _ _ _ _ hs h
    · obtain ⟨h1, o, ho, hall⟩ := mem_ready.1 hx
      have hxlt := (Array.getElem?_eq_some_iff.1 ho).1
      have hmem : x ∈ rem := (hi.mem x).2 ⟨hxlt, h1⟩
      obtain ⟨A, B, rfl⟩ := List.append_of_mem hmem
      have hdl : ∀ e ∈ depsOf o, listed.getD e false = true := by
        intro e he
        obtain ⟨e', he', rfl⟩ := List.mem_map.1 he
        obtain ⟨h2, h3⟩ := List.mem_filter.1 he'
        exact hall e' (by simpa using h2) h3
      have hun : ∀ y, y ∈ A ++ x :: B → listed.getD y false = false := by
        intro y hy
        obtain ⟨h2, h3⟩ := (hi.mem y).1 hy
        have hlt : y < listed.size := by rw [hi.size]; exact h2
        simp [hlt] at h3 ⊢; exact h3
      have hpass : ∀ y ∈ A, passB P ops fl y x = true := by
        intro y hy
        have hp := (List.pairwise_append.1 hi.pairs).2.2 y hy x (by simp)
        simp only [pairB, Bool.and_eq_true, Bool.or_eq_true] at hp
        rcases hp.2 with h2 | h2
        · exfalso
          obtain ⟨o', ho', e, he, h3⟩ := hm x y h2
          have : o' = o := by
            have : ops[x]? = some o' := by rw [← Array.getElem?_toList]; exact ho'
            rw [ho] at this; exact (Option.some.inj this).symm
          subst this
          have hel := hdl e he
          have : listed.getD y false = true := by
            rcases h3 with h3 | h3
            · subst h3; exact hel
            · exact hi.closed e hel y h3
          rw [hun y (by simp [hy])] at this; cases this
        · exact h2
      have h := pull hns x B A τ H hs.sub.fin hpass h
      simp only [rDraw, ho] at h
      refine rawStep_wp ho (fun d => dstsOk_spec hd ho d) hs (rstep_raw h) (fun τ' H' a' w' hs' h' => ih (A ++ B) _ τ' H' a' w' ?_ ?_ hs' h') (fun ch H' w' _ _ h => h.elim)
      · have hnd := hi.nodup
        rw [List.nodup_append] at hnd
        obtain ⟨n1, n2, n3⟩ := hnd
        rw [List.nodup_cons] at n2
        refine ⟨fun j => ?_, by simp [hi.size], ?_, ?_, fun e he y hy => ?_⟩
        · by_cases hjx : j = x
          · subst hjx
            constructor
            · intro hj
              rcases List.mem_append.1 hj with hj | hj
              · exact absurd rfl (n3 j hj j (by simp))
              · exact absurd hj n2.1
            · rintro ⟨_, hj⟩
              have hlt : j < listed.size := by rw [hi.size]; exact hxlt
              simp [hlt] at hj
          · rw [getD_set_ne true (Ne.symm hjx)]
            rw [← hi.mem j]
            simp [hjx]
        · rw [List.nodup_append]
          exact ⟨n1, n2.2, fun a ha b hb => n3 a ha b (by simp [hb])⟩
        · exact hi.pairs.sublist (by simp)
        · by_cases hex : e = x
          · subst hex
            obtain ⟨o', ho', e', he', h3⟩ := hm e y hy
            have : o' = o := by
              have : ops[e]? = some o' := by rw [← Array.getElem?_toList]; exact ho'
              rw [ho] at this; exact (Option.some.inj this).symm
            subst this
            have hel := hdl e' he'
            refine getD_set_true ?_
            rcases h3 with h3 | h3
            · subst h3; exact hel
            · exact hi.closed e' hel y h3
          · rw [getD_set_ne false (Ne.symm hex)] at he
            exact getD_set_true (hi.closed e he y hy)
      · simp at hl ⊢; omega

theorem draw_wp {id n : Nat} {ops : Array Oper} {fl : Nat → Bool} {Z : Nat → Prop} {ord : List Nat} {D : List Deferred} {H₀ : Heap} {w₀ : World} {K : Tau → Heap → Prop} {Q : Exit → Act → World → Prop}
    {τ : Tau} {H : Heap} {a : Act} {w : World} (hmix : P.follows .mixedOrders = true) (hd : dstsOk n ops = true) (hok : drawOk P ops fl ord = true)
    (hn : ∀ τ' H' a' w', St n D H₀ w₀ τ' H' a' w' → K τ' H' → Q .normal a' w') (hs : St n D H₀ w₀ τ H a w) (h : vcDraw P ops fl Z ord τ K (fun _ _ => False) H) :
    (Code.region id ops true).wp P Q a w := by
  simp only [drawOk, Bool.and_eq_true] at hok
  obtain ⟨⟨⟨⟨⟨h1, h2⟩, h3⟩, h3'⟩, h4⟩, h5⟩ := hok
  refine wp_region_any hmix ?_
  have hlen := Nat.eq_of_beq_eq_true h2
  have hcov : ∀ j, j < ops.size → j ∈ ord := fun j hj => List.contains_iff_mem.1 (List.all_eq_true.1 h3 j (List.mem_range.2 hj))
  have hm : MOk ops.toList (masks ops.toList []) := masks_ok ops.toList ops.toList [] [] rfl rfl (fun x y h => by simp at h)
  have hdeps : ∀ x o, ops[x]? = some o → ∀ e ∈ depsOf o, e < ops.size ∧ e ≠ x := by
    intro x o ho e he
    have := List.all_eq_true.1 h4 x (List.mem_range.2 (Array.getElem?_eq_some_iff.1 ho).1)
    rw [ho] at this
    have hall : (depsOf o).all (fun e => Nat.blt e ops.size && !Nat.beq e x) = true := this
    have := List.all_eq_true.1 hall e he
    simp only [Bool.and_eq_true, Bool.not_eq_true'] at this
    exact ⟨Nat.le_of_ble_eq_true this.1, fun h => by subst h; simp at this⟩
  have hpw := pairsB_spec h5
  have hnodup : ord.Nodup ∧ ∀ j ∈ ord, j < ops.size := by
    refine ⟨hpw.imp fun {y x} h e => ?_, fun j hj => Nat.le_of_ble_eq_true (List.all_eq_true.1 h3' j hj)⟩
    subst e
    simp [pairB] at h
  have hs' : St n D H₀ w₀ τ H a { w with drawn := w.drawn + 1 } :=
    ⟨hs.defers, hs.rel, hs.sub, hs.keeps.trans ⟨rfl, rfl, rfl, Nat.le_refl _, fun _ _ _ => rfl, fun _ h h' => absurd h h'⟩⟩
  refine dsound h1 hd hm hdeps hn ops.size ord _ τ H a _ ⟨fun j => ?_, by simp, hnodup.1, pairsB_spec h5, fun e he => ?_⟩ (by omega) hs' (rDraw_of _ _ _ h)
  · constructor
    · intro hj; exact ⟨hnodup.2 j hj, by simp [hnodup.2 j hj]⟩
    · rintro ⟨hj, _⟩; exact hcov j hj
  · by_cases h : e < ops.size
    · simp [h] at he
    · simp [h] at he
end Go.V
