import Derived.Test.YtaffcoiomggpfaaVMean
import Derived.Test.YtaffcoiomggpfaaVAuto2
import Derived.Test.YtaffcoiomggpfaaVNode
import Derived.Test.YtaffcoiomggpfaaFr08
/- Relations between places: package r09 (2): then, star. -/
namespace Go.Proofs.Ytaffcoiomggpfaa
open Go.V
attribute [local irreducible] app
set_option linter.constructorNameAsVariable false
set_option linter.unusedVariables false
theorem sel_cl {p : Prop} {inst : Decidable p} {X Y : Prop} (h1 : p → X) (h2 : ¬ p → Y) : sel (@decide p inst) X Y :=
  sel_mk (fun h => h1 (by simpa using h)) (fun h => h2 (by simpa using h))
theorem dec_cl {p : Prop} {inst : Decidable p} : (@decide p inst = true) ↔ p := by simp
open Classical in
set_option maxHeartbeats 1000000 in
theorem rthen_c {H : Heap} {n ca cb : Nat} {pa pb : OA} {A B : Nat → Nat → Prop} {Q : QT} {E : ET} (hn : n ≤ 65536) (ha : RelH H pa n ca A) (hb : RelH H pb n cb B)
    (hk : ∀ H' p c ad, RelA H H' p n n c ad (fun i k => ∃ j, j < n ∧ A i j ∧ B j k) → Q (.slice p n c) H') : Does Pr 84 #[.slice pa n ca, .slice pb n cb] H Q E := by
  refine zqx_fn _ _ _ _ _ _ Q E H ?_
  unfold zqx zqx_47
  refine rempty_c hn fun H1 p c ad h1 => ⟨_, _, _, rfl, ?_⟩
  unfold zqx_43 zqx_40
  refine ⟨fun x H' => ∃ i : Nat, x = (i : Nat) ∧ i ≤ n ∧ RelA H H' p n n c ad (fun i' k' => i' < i ∧ ∃ j, j < n ∧ A i' j ∧ B j k'), fun x _ => ((n : Int) - x).toNat, ⟨0, rfl, by omega, h1.congr fun i k _ _ => by simp⟩, ?_⟩
  rintro x H2 ⟨i, rfl, hin, h2⟩
  unfold zqx_37
  refine sel_dec (fun hlt => ?_) (fun hge => ?_)
  · have hlt : i < n := by omega
    unfold zqx_32 zqx_29
    refine ⟨fun x H' => ∃ j : Nat, x = (j : Nat) ∧ j ≤ n ∧ RelA H H' p n n c ad (fun i' k' => (i' < i ∧ ∃ j, j < n ∧ A i' j ∧ B j k') ∨ (i' = i ∧ ∃ j', j' < j ∧ A i' j' ∧ B j' k')), fun x _ => ((n : Int) - x).toNat, ⟨0, rfl, by omega, h2.congr fun i k _ _ => by simp⟩, ?_⟩
    rintro x H3 ⟨j, rfl, hjn, h3⟩
    unfold zqx_26
    refine sel_dec (fun hlj => ?_) (fun hgj => ?_)
    · have hlj : j < n := by omega
      unfold zqx_21 zqx_18
      refine ⟨fun x H' => ∃ k : Nat, x = (k : Nat) ∧ k ≤ n ∧ (0 < k → A i j) ∧ RelA H H' p n n c ad (fun i' k' => (i' < i ∧ ∃ j, j < n ∧ A i' j ∧ B j k') ∨ (i' = i ∧ ((∃ j', j' < j ∧ A i' j' ∧ B j' k') ∨ (k' < k ∧ A i j ∧ B j k')))), fun x _ => ((n : Int) - x).toNat, ⟨0, rfl, by omega, fun h => by omega, h3.congr fun i k _ _ => by simp⟩, ?_⟩
      rintro x H4 ⟨k, rfl, hkn, hA0, h4⟩
      have stop : (A i j → k = n) → zqx_5 (fun x6' H1 => (∃ i : Nat, x6' = (i : Nat) ∧ i ≤ n ∧ RelA H H1 p n n c ad (fun i' k' => i' < i ∧ ∃ j, j < n ∧ A i' j ∧ B j k')) ∧ ((n : Int) - x6').toNat < ((n : Int) - (i : Nat)).toNat)
            (fun x7' H1 => (∃ j : Nat, x7' = (j : Nat) ∧ j ≤ n ∧ RelA H H1 p n n c ad (fun i' k' => (i' < i ∧ ∃ j, j < n ∧ A i' j ∧ B j k') ∨ (i' = i ∧ ∃ j', j' < j ∧ A i' j' ∧ B j' k'))) ∧ ((n : Int) - x7').toNat < ((n : Int) - (j : Nat)).toNat)
            Q E pa n ca pb n cb p n c i j H4 := by
        intro hs
        unfold zqx_5
        rw [wrap_succ (by omega)]
        refine ⟨⟨j + 1, rfl, by omega, h4.congr fun i' k' _ hk' => ?_⟩, by omega⟩
        refine or_congr Iff.rfl (and_congr_right fun hi' => ?_)
        subst hi'
        constructor
        · rintro (⟨j', h1, h2⟩ | ⟨h1, h2⟩)
          · exact ⟨j', by omega, h2⟩
          · exact ⟨j, by omega, h2⟩
        · rintro ⟨j', h1, h2⟩
          by_cases e : j' = j
          · subst e; exact .inr ⟨by rw [hs h2.1]; exact hk', h2⟩
          · exact .inl ⟨j', by omega, h2⟩
      unfold zqx_14
      refine sel_dec (fun hlk => ?_) (fun hgk => ?_)
      · have hlk : k < n := by omega
        refine (ha.ext h4.1).get hlt hlj ?_
        unfold zqx_12
        refine sel_dec (fun hA => ?_) (fun hA => stop fun h => absurd h hA)
        unfold zqx_9
        have next : ∀ (v : Bool) (H5 : Heap), (v = true ↔ (∃ j', j' < j ∧ A i j' ∧ B j' k) ∨ B j k) →
            RelA H H5 p n n c ad (upd (fun i' k' => (i' < i ∧ ∃ j, j < n ∧ A i' j ∧ B j k') ∨ (i' = i ∧ ((∃ j', j' < j ∧ A i' j' ∧ B j' k') ∨ (k' < k ∧ A i j ∧ B j k')))) i k v) →
            RelA H H5 p n n c ad (fun i' k' => (i' < i ∧ ∃ j, j < n ∧ A i' j ∧ B j k') ∨ (i' = i ∧ ((∃ j', j' < j ∧ A i' j' ∧ B j' k') ∨ (k' < k + 1 ∧ A i j ∧ B j k')))) := by
          intro v H5 hv h5
          refine h5.congr fun i' k' _ _ => ?_
          unfold upd
          by_cases e : i' = i ∧ k' = k
          · obtain ⟨rfl, rfl⟩ := e
            rw [hv]
            constructor
            · rintro (⟨_, _, h | h⟩ | h)
              · exact .inr ⟨rfl, .inl h⟩
              · exact .inr ⟨rfl, .inr ⟨by omega, hA, h⟩⟩
              · exact absurd ⟨rfl, rfl⟩ h.1
            · rintro (h | ⟨_, h | h⟩)
              · omega
              · exact .inl ⟨rfl, rfl, .inl h⟩
              · exact .inl ⟨rfl, rfl, .inr h.2.2⟩
          · have hk1 : i' = i → (k' < k + 1 ↔ k' < k) := fun h => by omega
            constructor
            · rintro (h | ⟨_, h | ⟨h1, h2 | ⟨h2, h3⟩⟩⟩)
              · exact absurd ⟨h.1, h.2.1⟩ e
              · exact .inl h
              · exact .inr ⟨h1, .inl h2⟩
              · exact .inr ⟨h1, .inr ⟨by omega, h3⟩⟩
            · rintro (h | ⟨h1, h2 | ⟨h2, h3⟩⟩)
              · exact .inr ⟨e, .inl h⟩
              · exact .inr ⟨e, .inr ⟨h1, .inl h2⟩⟩
              · exact .inr ⟨e, .inr ⟨h1, .inr ⟨(hk1 h1).1 h2, h3⟩⟩⟩
        have hcell : ((i < i ∧ ∃ j, j < n ∧ A i j ∧ B j k) ∨ (i = i ∧ ((∃ j', j' < j ∧ A i j' ∧ B j' k) ∨ (k < k ∧ A i j ∧ B j k)))) ↔ ∃ j', j' < j ∧ A i j' ∧ B j' k := by
          constructor
          · rintro (h | ⟨_, h | h⟩)
            · omega
            · exact h
            · omega
          · intro h; exact .inr ⟨rfl, .inl h⟩
        refine vec_row h4.2.1 hlt (vec_row h4.2.1 hlt (cell_row (h4.2.2.1 i hlt).1 hlk ?_))
        refine sel_cl (fun hO => ?_) (fun hO => ?_)
        · refine h4.put hlt hlk fun H5 h5 => ?_
          unfold zqx_7
          rw [wrap_succ (by omega)]
          exact ⟨⟨k + 1, rfl, by omega, fun _ => hA, next true H5 ⟨fun _ => .inl (hcell.1 hO), fun _ => rfl⟩ h5⟩, by dsimp only; omega⟩
        · refine (hb.ext h4.1).get hlj hlk ?_
          refine h4.put hlt hlk fun H5 h5 => ?_
          unfold zqx_7
          rw [wrap_succ (by omega)]
          exact ⟨⟨k + 1, rfl, by omega, fun _ => hA, next _ H5 (by rw [decide_eq_true_iff]; exact ⟨.inr, fun h => h.resolve_left fun h' => hO (hcell.2 h')⟩) h5⟩, by dsimp only; omega⟩
      · unfold zqx_12
        exact sel_ff (stop fun _ => by omega)
    · obtain rfl : j = n := by omega
      unfold zqx_3
      rw [wrap_succ (by omega)]
      refine ⟨⟨i + 1, rfl, by omega, h3.congr fun i' k' _ hk' => ?_⟩, by show ((j : Int) - ((i + 1 : Nat) : Int)).toNat < ((j : Int) - (i : Nat)).toNat; omega⟩
      constructor
      · rintro (h | ⟨h1, h2⟩)
        · exact ⟨by omega, h.2⟩
        · exact ⟨by omega, h2⟩
      · rintro ⟨h1, h2⟩
        by_cases e : i' = i
        · exact .inr ⟨e, h2⟩
        · exact .inl ⟨by omega, h2⟩
  · obtain rfl : i = n := by omega
    unfold zqx_1
    exact hk H2 p c ad (h2.congr fun i' k' hi' _ => ⟨fun h => h.2, fun h => ⟨hi', h⟩⟩)
def War (R : Nat → Nat → Prop) : Nat → Nat → Nat → Prop
  | 0, i, k => R i k
  | j + 1, i, k => War R j i k ∨ (War R j i j ∧ War R j j k)
theorem War.trans (R : Nat → Nat → Prop) : ∀ (j m i k : Nat), m < j → War R j i m → War R j m k → War R j i k
  | 0, m, i, k, h, _, _ => by omega
  | j + 1, m, i, k, h, h1, h2 => by
    unfold War at h1 h2 ⊢
    by_cases e : m = j
    · subst e
      exact .inr ⟨h1.elim id (·.1), h2.elim id (·.2)⟩
    · have T := fun a b => War.trans R j m a b (by omega)
      rcases h1 with h1 | ⟨h1, h3⟩ <;> rcases h2 with h2 | ⟨h2, h4⟩
      · exact .inl (T _ _ h1 h2)
      · exact .inr ⟨T _ _ h1 h2, h4⟩
      · exact .inr ⟨h1, T _ _ h3 h2⟩
      · exact .inr ⟨h1, h4⟩
theorem War.mono (R : Nat → Nat → Prop) {i k : Nat} (h : R i k) : ∀ j, War R j i k
  | 0 => h
  | j + 1 => .inl (War.mono R h j)
theorem Star.trans {R : Nat → Nat → Prop} {i j k : Nat} (h : Star R i j) (h2 : Star R j k) : Star R i k := by
  induction h with
  | none => exact h2
  | more h1 _ ih => exact .more h1 (ih h2)
theorem War.sound {A R : Nat → Nat → Prop} (hR : ∀ i k, R i k → Star A i k) : ∀ (j i k : Nat), War R j i k → Star A i k
  | 0, i, k, h => hR i k h
  | j + 1, i, k, h => by
    unfold War at h
    rcases h with h | ⟨h1, h2⟩
    · exact War.sound hR j i k h
    · exact (War.sound hR j i j h1).trans (War.sound hR j j k h2)
theorem war_star {A : Nat → Nat → Prop} {n : Nat} (hA : ∀ i k, A i k → i < n → k < n) {i k : Nat} (hi : i < n) : War (fun i k => k = i ∨ A i k) n i k ↔ Star A i k := by
  constructor
  · refine War.sound (fun i k h => ?_) n i k
    rcases h with rfl | h
    · exact .none _
    · exact .more h (.none _)
  · intro h
    induction h with
    | none i => exact War.mono _ (.inl rfl) n
    | more h1 h2 ih =>
      have := hA _ _ h1 hi
      exact War.trans _ n _ _ _ this (War.mono _ (.inr h1) n) (ih this)
open Classical in
set_option maxHeartbeats 1000000 in
theorem rstar_c {H : Heap} {n ca : Nat} {pa : OA} {A : Nat → Nat → Prop} {Q : QT} {E : ET} (hn : n ≤ 65536) (ha : RelH H pa n ca A) (hA : ∀ i k, A i k → i < n → k < n)
    (hk : ∀ H' p c ad, RelA H H' p n n c ad (Star A) → Q (.slice p n c) H') : Does Pr 86 #[.slice pa n ca] H Q E := by
  refine zqz_fn _ _ _ Q E H ?_
  unfold zqz zqz_47
  refine rstay_c hn fun H0 p0 c0 ad0 h0 => ⟨_, _, _, rfl, ?_⟩
  refine rboth_c hn h0.rel (ha.ext h0.1) fun H1 p c ad h1 => ⟨_, _, _, rfl, ?_⟩
  replace h1 := h1.base h0.1
  unfold zqz_43 zqz_40
  refine ⟨fun x H' => ∃ j : Nat, x = (j : Nat) ∧ j ≤ n ∧ RelA H H' p n n c ad (War (fun i k => k = i ∨ A i k) j), fun x _ => ((n : Int) - x).toNat, ⟨0, rfl, by omega, h1⟩, ?_⟩
  rintro x H2 ⟨j, rfl, hjn, h2⟩
  unfold zqz_37
  have hW := fun (i k : Nat) (hi : i < n) => war_star (A := A) (n := n) hA (i := i) (k := k) hi
  generalize (fun i k => k = i ∨ A i k) = R0 at h1 h2 hW
  refine sel_dec (fun hlj => ?_) (fun hgj => ?_)
  · have hlj : j < n := by omega
    unfold zqz_32 zqz_29
    refine ⟨fun x H' => ∃ i : Nat, x = (i : Nat) ∧ i ≤ n ∧ RelA H H' p n n c ad (fun i' k' => (i' < i ∧ War R0 (j + 1) i' k') ∨ (¬ i' < i ∧ War R0 j i' k')), fun x _ => ((n : Int) - x).toNat, ⟨0, rfl, by omega, h2.congr fun i k _ _ => by simp⟩, ?_⟩
    rintro x H3 ⟨i, rfl, hin, h3⟩
    unfold zqz_26
    refine sel_dec (fun hlt => ?_) (fun hge => ?_)
    · have hlt : i < n := by omega
      unfold zqz_21 zqz_18
      refine ⟨fun x H' => ∃ k : Nat, x = (k : Nat) ∧ k ≤ n ∧ RelA H H' p n n c ad (fun i' k' => (i' < i ∧ War R0 (j + 1) i' k') ∨ (¬ i' < i ∧ War R0 j i' k') ∨ (i' = i ∧ k' < k ∧ War R0 j i j ∧ War R0 j j k')), fun x _ => ((n : Int) - x).toNat, ⟨0, rfl, by omega, h3.congr fun i k _ _ => by simp⟩, ?_⟩
      rintro x H4 ⟨k, rfl, hkn, h4⟩
      have stop : (War R0 j i j → k = n) → zqz_5 (fun x4' H1 => (∃ j : Nat, x4' = (j : Nat) ∧ j ≤ n ∧ RelA H H1 p n n c ad (War R0 j)) ∧ ((n : Int) - x4').toNat < ((n : Int) - (j : Nat)).toNat)
            (fun x5' H1 => (∃ i : Nat, x5' = (i : Nat) ∧ i ≤ n ∧ RelA H H1 p n n c ad (fun i' k' => (i' < i ∧ War R0 (j + 1) i' k') ∨ (¬ i' < i ∧ War R0 j i' k'))) ∧ ((n : Int) - x5').toNat < ((n : Int) - (i : Nat)).toNat)
            Q E pa n ca p n c j i H4 := by
        intro hs
        unfold zqz_5
        rw [wrap_succ (by omega)]
        refine ⟨⟨i + 1, rfl, by omega, h4.congr fun i' k' _ hk' => ?_⟩, by omega⟩
        have eW : War R0 (j + 1) i' k' ↔ War R0 j i' k' ∨ (War R0 j i' j ∧ War R0 j j k') := Iff.rfl
        constructor
        · rintro (⟨h1, h2⟩ | ⟨h1, h2⟩ | ⟨h1, h2, h3⟩)
          · exact .inl ⟨by omega, h2⟩
          · by_cases e : i' = i
            · exact .inl ⟨by omega, eW.2 (.inl h2)⟩
            · exact .inr ⟨by omega, h2⟩
          · subst h1; exact .inl ⟨by omega, eW.2 (.inr h3)⟩
        · rintro (⟨h1, h2⟩ | ⟨h1, h2⟩)
          · by_cases e : i' = i
            · subst e
              rcases eW.1 h2 with h | h
              · exact .inr (.inl ⟨by omega, h⟩)
              · exact .inr (.inr ⟨rfl, by rw [hs h.1]; exact hk', h⟩)
            · exact .inl ⟨by omega, h2⟩
          · exact .inr (.inl ⟨by omega, h2⟩)
      unfold zqz_14
      refine sel_dec (fun hlk => ?_) (fun hgk => ?_)
      · have hlk : k < n := by omega
        have hij : ((i < i ∧ War R0 (j + 1) i j) ∨ (¬ i < i ∧ War R0 j i j) ∨ (i = i ∧ j < k ∧ War R0 j i j ∧ War R0 j j j)) ↔ War R0 j i j := by
          constructor
          · rintro (h | h | h)
            · omega
            · exact h.2
            · exact h.2.2.1
          · intro h; exact .inr (.inl ⟨by omega, h⟩)
        have hik : ((i < i ∧ War R0 (j + 1) i k) ∨ (¬ i < i ∧ War R0 j i k) ∨ (i = i ∧ k < k ∧ War R0 j i j ∧ War R0 j j k)) ↔ War R0 j i k := by
          constructor
          · rintro (h | h | h)
            · omega
            · exact h.2
            · omega
          · intro h; exact .inr (.inl ⟨by omega, h⟩)
        have hjk : ((j < i ∧ War R0 (j + 1) j k) ∨ (¬ j < i ∧ War R0 j j k) ∨ (j = i ∧ k < k ∧ War R0 j i j ∧ War R0 j j k)) ↔ War R0 j j k := by
          constructor
          · rintro (h | h | h)
            · exact h.2.elim id (·.2)
            · exact h.2
            · omega
          · intro h
            by_cases e : j < i
            · exact .inl ⟨e, .inl h⟩
            · exact .inr (.inl ⟨e, h⟩)
        refine vec_row h4.2.1 hlt (cell_row (h4.2.2.1 i hlt).1 hlj ?_)
        unfold zqz_12
        refine sel_cl (fun hO => ?_) (fun hO => stop fun h => absurd (hij.2 h) hO)
        have hO1 := hij.1 hO
        have next : ∀ (v : Bool) (H5 : Heap), (v = true ↔ War R0 j i k ∨ War R0 j j k) →
            RelA H H5 p n n c ad (upd (fun i' k' => (i' < i ∧ War R0 (j + 1) i' k') ∨ (¬ i' < i ∧ War R0 j i' k') ∨ (i' = i ∧ k' < k ∧ War R0 j i j ∧ War R0 j j k')) i k v) →
            RelA H H5 p n n c ad (fun i' k' => (i' < i ∧ War R0 (j + 1) i' k') ∨ (¬ i' < i ∧ War R0 j i' k') ∨ (i' = i ∧ k' < k + 1 ∧ War R0 j i j ∧ War R0 j j k')) := by
          intro v H5 hv h5
          refine h5.congr fun i' k' _ _ => ?_
          unfold upd
          by_cases e : i' = i ∧ k' = k
          · obtain ⟨rfl, rfl⟩ := e
            rw [hv]
            constructor
            · rintro (⟨_, _, h | h⟩ | h)
              · exact .inr (.inl ⟨by omega, h⟩)
              · exact .inr (.inr ⟨rfl, by omega, hO1, h⟩)
              · exact absurd ⟨rfl, rfl⟩ h.1
            · rintro (h | h | h)
              · omega
              · exact .inl ⟨rfl, rfl, .inl h.2⟩
              · exact .inl ⟨rfl, rfl, .inr h.2.2.2⟩
          · constructor
            · rintro (h | ⟨_, h | h | ⟨h1, h2, h3⟩⟩)
              · exact absurd ⟨h.1, h.2.1⟩ e
              · exact .inl h
              · exact .inr (.inl h)
              · exact .inr (.inr ⟨h1, by omega, h3⟩)
            · rintro (h | h | ⟨h1, h2, h3⟩)
              · exact .inr ⟨e, .inl h⟩
              · exact .inr ⟨e, .inr (.inl h)⟩
              · exact .inr ⟨e, .inr (.inr ⟨h1, by omega, h3⟩)⟩
        unfold zqz_9
        refine vec_row h4.2.1 hlt (vec_row h4.2.1 hlt (cell_row (h4.2.2.1 i hlt).1 hlk ?_))
        refine sel_cl (fun hK => ?_) (fun hK => ?_)
        · refine h4.put hlt hlk fun H5 h5 => ?_
          unfold zqz_7
          rw [wrap_succ (by omega)]
          exact ⟨⟨k + 1, rfl, by omega, next true H5 ⟨fun _ => .inl (hik.1 hK), fun _ => rfl⟩ h5⟩, by dsimp only; omega⟩
        · refine vec_row h4.2.1 hlj (cell_row (h4.2.2.1 j hlj).1 hlk ?_)
          refine h4.put hlt hlk fun H5 h5 => ?_
          unfold zqz_7
          rw [wrap_succ (by omega)]
          exact ⟨⟨k + 1, rfl, by omega, next _ H5 (by rw [dec_cl, hjk]; exact ⟨.inr, fun h => h.resolve_left fun h' => hK (hik.2 h')⟩) h5⟩, by dsimp only; omega⟩
      · unfold zqz_12
        exact sel_ff (stop fun _ => by omega)
    · obtain rfl : i = n := by omega
      unfold zqz_3
      rw [wrap_succ (by omega)]
      refine ⟨⟨j + 1, rfl, by omega, h3.congr fun i' k' hi' _ => ?_⟩, by show ((i : Int) - ((j + 1 : Nat) : Int)).toNat < ((i : Int) - (j : Nat)).toNat; omega⟩
      exact ⟨fun h => h.elim (·.2) (fun h => absurd hi' h.1), fun h => .inl ⟨hi', h⟩⟩
  · obtain rfl : j = n := by omega
    unfold zqz_1
    exact hk H2 p c ad (h2.congr fun i k hi _ => hW i k hi)
end Go.Proofs.Ytaffcoiomggpfaa

/- Valid and its reference: the sizes and the tree say the same. -/
namespace Go.Proofs.Ytaffcoiomggpfaa
open Go.V
set_option linter.unusedVariables false

def setZ (x : Nd) : Bool := decide (x.a = 0 ∧ x.b = 0 ∧ x.c = 0 ∧ x.d = 0)
def treeN : Nat → List Nd → Int → Int
  | 0, _, _ => -1
  | f + 1, l, n =>
    if n < 0 then -1
    else if (l.getD n.toNat default).k < 1 ∨ 9 < (l.getD n.toNat default).k ∨ (l.getD n.toNat default).k ≠ 2 ∧ setZ (l.getD n.toNat default) = false then -1
    else if kids2 (l.getD n.toNat default).k < 2 ∧ (l.getD n.toNat default).r ≠ 0 ∨ kids2 (l.getD n.toNat default).k < 1 ∧ (l.getD n.toNat default).l ≠ 0 then -1
    else if kids2 (l.getD n.toNat default).k = 0 then n
    else if kids2 (l.getD n.toNat default).k = 2 then
      if (l.getD n.toNat default).r ≠ n - 1 then -1
      else if treeN f l (n - 1) - 1 < 0 ∨ (l.getD n.toNat default).l ≠ treeN f l (n - 1) - 1 then -1 else treeN f l (treeN f l (n - 1) - 1)
    else if n - 1 < 0 ∨ (l.getD n.toNat default).l ≠ n - 1 then -1 else treeN f l (n - 1)
theorem kids_eq {k : Int} (h : ¬ k < 1) (h' : ¬ 9 < k) : kidsOf k = kids2 k ∧ (kids2 k = 0 ∨ kids2 k = 1 ∨ kids2 k = 2) := by
  have : k = 1 ∨ k = 2 ∨ k = 3 ∨ k = 4 ∨ k = 5 ∨ k = 6 ∨ k = 7 ∨ k = 8 ∨ k = 9 := by omega
  rcases this with rfl | rfl | rfl | rfl | rfl | rfl | rfl | rfl | rfl <;> decide
theorem kids_no {k : Int} (h : k < 1 ∨ 9 < k) : kidsOf k = -1 := by
  unfold kidsOf; rw [if_neg (by omega), if_neg (by omega), if_neg (by omega)]
theorem vsteps_snoc : ∀ (a : List Nd) (sz : List Int) (x : Nd), vsteps sz (a ++ [x]) = (vsteps sz a).bind fun s => vstep s x
  | [], sz, x => by
    show (match vstep sz x with | none => none | some sz' => some sz') = vstep sz x
    cases vstep sz x <;> rfl
  | y :: a, sz, x => by
    show (match vstep sz y with | none => none | some sz' => vsteps sz' (a ++ [x])) = (match vstep sz y with | none => none | some sz' => vsteps sz' a).bind fun s => vstep s x
    cases vstep sz y with
    | none => rfl
    | some s => exact vsteps_snoc a s x
theorem vsteps_next {l : List Nd} {n : Nat} {x : Nd} (hx : l[n]? = some x) : vsteps [] (l.take (n + 1)) = (vsteps [] (l.take n)).bind fun s => vstep s x := by
  rw [List.take_add_one, hx]; exact vsteps_snoc _ _ _
theorem vstep_some {sz sz' : List Int} {x : Nd} (h : vstep sz x = some sz') : (x.k = 2 ∨ setZ x = true) ∧
    (kidsOf x.k = 0 ∧ x.l = 0 ∧ x.r = 0 ∧ sz' = sz ++ [1] ∨
     kidsOf x.k = 2 ∧ 1 ≤ sz.length ∧ x.r = (sz.length : Int) - 1 ∧ 0 ≤ x.l ∧ x.l = (sz.length : Int) - (1 + sz.getD ((sz.length : Int) - 1).toNat 0) ∧ sz' = sz ++ [1 + sz.getD ((sz.length : Int) - 1).toNat 0 + sz.getD x.l.toNat 0] ∨
     kidsOf x.k = 1 ∧ 1 ≤ sz.length ∧ x.l = (sz.length : Int) - 1 ∧ x.r = 0 ∧ sz' = sz ++ [1 + sz.getD ((sz.length : Int) - 1).toNat 0]) := by
  unfold vstep at h
  dsimp only at h
  split at h
  · cases h
  rename_i hs
  refine ⟨by unfold setZ; by_cases h2 : x.k = 2
             · exact .inl h2
             · exact .inr (decide_eq_true (by by_cases hz : x.a = 0 ∧ x.b = 0 ∧ x.c = 0 ∧ x.d = 0
                                              · exact hz
                                              · exact absurd ⟨h2, hz⟩ hs)), ?_⟩
  split at h
  · split at h
    · rename_i h0 hlr
      cases h; exact .inl ⟨h0, hlr.1, hlr.2, rfl⟩
    · cases h
  split at h
  · split at h
    · cases h
    split at h
    · cases h
    split at h
    · rename_i h2 g1 g2 g3
      cases h
      exact .inr (.inl ⟨h2, by omega, g3.2, by omega, g3.1, by rw [g3.1]⟩)
    · cases h
  split at h
  · split at h
    · cases h
    split at h
    · rename_i h1 g1 g2
      cases h
      exact .inr (.inr ⟨h1, by omega, g2.1, g2.2, rfl⟩)
    · cases h
  · cases h
theorem vstep_app {sz sz' : List Int} {x : Nd} (h : vstep sz x = some sz') : ∃ v, sz' = sz ++ [v] := by
  rcases (vstep_some h).2 with ⟨_, _, _, e⟩ | ⟨_, _, _, _, _, e⟩ | ⟨_, _, _, _, e⟩
  · exact ⟨_, e⟩
  · exact ⟨_, e⟩
  · exact ⟨_, e⟩
theorem vsteps_len {l : List Nd} : ∀ (n : Nat) (sz : List Int), n ≤ l.length → vsteps [] (l.take n) = some sz → sz.length = n
  | 0, sz, _, h => by
    have : some [] = some sz := by rw [List.take_zero] at h; exact h
    cases this; rfl
  | n + 1, sz, hn, h => by
    have hx : l[n]? = some l[n] := List.getElem?_eq_getElem hn
    rw [vsteps_next hx] at h
    cases h0 : vsteps [] (l.take n) with
    | none => rw [h0] at h; cases h
    | some s =>
      rw [h0] at h
      obtain ⟨v, rfl⟩ := vstep_app h
      rw [List.length_append, vsteps_len n s (by omega) h0]; rfl
theorem vsteps_take {l : List Nd} {sz : List Int} : ∀ (d n : Nat), n + d ≤ l.length → vsteps [] (l.take (n + d)) = some sz → vsteps [] (l.take n) = some (sz.take n)
  | 0, n, hn, h => by
    have h : vsteps [] (l.take n) = some sz := h
    rw [h, List.take_of_length_le (by rw [vsteps_len n sz hn h]; exact Nat.le_refl _)]
  | d + 1, n, hn, h => by
    have hx : l[n + d]? = some (l[n + d]'(by omega)) := List.getElem?_eq_getElem (by omega)
    rw [show n + (d + 1) = (n + d) + 1 from rfl, vsteps_next hx] at h
    cases h0 : vsteps [] (l.take (n + d)) with
    | none => rw [h0] at h; cases h
    | some s =>
      rw [h0] at h
      obtain ⟨v, rfl⟩ := vstep_app h
      have hl := vsteps_len (n + d) s (by omega) h0
      rw [List.take_append_of_le_length (by omega)]
      exact vsteps_take d n (by omega) h0
theorem getD_take {a : List Int} {n j : Nat} (h : j < n) : (a.take n).getD j 0 = a.getD j 0 := by
  rw [List.getD_eq_getElem?_getD, List.getD_eq_getElem?_getD, List.getElem?_take_of_lt h]
theorem getD_snoc {a : List Int} {v : Int} {n : Nat} (h : a.length = n) : (a ++ [v]).getD n 0 = v := by subst h; simp [List.getD_eq_getElem?_getD]
theorem tree_of {l : List Nd} : ∀ (n f : Nat) (sz : List Int), n < f → n < l.length → vsteps [] (l.take (n + 1)) = some sz → treeN f l n = n - sz.getD n 0 + 1 ∧ 1 ≤ sz.getD n 0 ∧ sz.getD n 0 ≤ n + 1 := by
  intro n
  induction n using Nat.strongRecOn with
  | _ n ih =>
    intro f sz hf hn h
    cases f with
    | zero => omega
    | succ f =>
      have hx : l[n]? = some l[n] := List.getElem?_eq_getElem hn
      have hxd : l.getD n default = l[n] := by rw [List.getD_eq_getElem?_getD, hx]; rfl
      have hfull := h
      rw [vsteps_next hx] at h
      cases h0 : vsteps [] (l.take n) with
      | none => rw [h0] at h; cases h
      | some s =>
        rw [h0] at h
        have hl := vsteps_len n s (by omega) h0
        have early : ∀ m, m < n → ∀ f, m < f → treeN f l m = m - s.getD m 0 + 1 ∧ 1 ≤ s.getD m 0 ∧ s.getD m 0 ≤ m + 1 := fun m hm f hmf => by
          have h2 := vsteps_take (l := l) (sz := s) (n - (m + 1)) (m + 1) (by omega) (by rw [show m + 1 + (n - (m + 1)) = n by omega]; exact h0)
          have := ih m hm f (s.take (m + 1)) hmf (by omega) h2
          rw [getD_take (by omega)] at this; exact this
        obtain ⟨g1, g2⟩ := vstep_some h
        have hk19 : ¬ l[n].k < 1 ∧ ¬ 9 < l[n].k := by
          constructor
          · intro hk
            have := kids_no (k := l[n].k) (.inl hk)
            rcases g2 with ⟨e, _⟩ | ⟨e, _⟩ | ⟨e, _⟩ <;> omega
          · intro hk
            have := kids_no (k := l[n].k) (.inr hk)
            rcases g2 with ⟨e, _⟩ | ⟨e, _⟩ | ⟨e, _⟩ <;> omega
        obtain ⟨ke, _⟩ := kids_eq hk19.1 hk19.2
        unfold treeN
        rw [if_neg (show ¬ (n : Int) < 0 by omega), Int.toNat_natCast, hxd]
        rw [if_neg (show ¬ (l[n].k < 1 ∨ 9 < l[n].k ∨ l[n].k ≠ 2 ∧ setZ l[n] = false) by
          rintro (h | h | ⟨h, h'⟩)
          · exact hk19.1 h
          · exact hk19.2 h
          · rcases g1 with g1 | g1
            · exact h g1
            · rw [g1] at h'; cases h')]
        rcases g2 with ⟨e1, e2, e3, e4⟩ | ⟨e1, e2, e3, e4, e5, e6⟩ | ⟨e1, e2, e3, e4, e5⟩
        · rw [if_neg (by omega), if_pos (by omega)]
          rw [e4, getD_snoc hl]; omega
        · rw [hl] at e2 e3 e5 e6
          have hn1 : ((n : Int) - 1) = ((n - 1 : Nat) : Int) := by omega
          obtain ⟨a1, a2, a3⟩ := early (n - 1) (by omega) f (by omega)
          rw [hn1, Int.toNat_natCast] at e5 e6
          have hm : l[n].l = ((l[n].l.toNat : Nat) : Int) := by omega
          obtain ⟨b1, b2, b3⟩ := early l[n].l.toNat (by omega) f (by omega)
          rw [if_neg (by omega), if_neg (by omega), if_pos (by omega), if_neg (by omega), hn1, a1]
          have hlast : ((n - 1 : Nat) : Int) - s.getD (n - 1) 0 + 1 - 1 = l[n].l := by omega
          rw [hlast, if_neg (by omega), hm, b1]
          have hsz : sz.getD n 0 = 1 + s.getD (n - 1) 0 + s.getD l[n].l.toNat 0 := by rw [e6]; exact getD_snoc hl
          rw [hsz]
          omega
        · rw [hl] at e2 e3 e5
          have hn1 : ((n : Int) - 1) = ((n - 1 : Nat) : Int) := by omega
          obtain ⟨a1, a2, a3⟩ := early (n - 1) (by omega) f (by omega)
          rw [hn1, Int.toNat_natCast] at e5
          rw [if_neg (by omega), if_neg (by omega), if_neg (by omega), if_neg (by omega), hn1, a1]
          have hsz : sz.getD n 0 = 1 + s.getD (n - 1) 0 := by rw [e5]; exact getD_snoc hl
          rw [hsz]
          omega
theorem of_tree {l : List Nd} : ∀ (n f : Nat) (F : Int), n < f → n < l.length → treeN f l n = F → 0 ≤ F → F ≤ n ∧ ∀ s0, vsteps [] (l.take F.toNat) = some s0 →
    ∃ sz, vsteps [] (l.take (n + 1)) = some sz ∧ sz.getD n 0 = n - F + 1 := by
  intro n
  induction n using Nat.strongRecOn with
  | _ n ih =>
    intro f F hf hn h hF
    cases f with
    | zero => omega
    | succ f =>
      have hx : l[n]? = some l[n] := List.getElem?_eq_getElem hn
      have hxd : l.getD n default = l[n] := by rw [List.getD_eq_getElem?_getD, hx]; rfl
      unfold treeN at h
      rw [if_neg (show ¬ (n : Int) < 0 by omega), Int.toNat_natCast, hxd] at h
      by_cases c1 : l[n].k < 1 ∨ 9 < l[n].k ∨ l[n].k ≠ 2 ∧ setZ l[n] = false
      · rw [if_pos c1] at h; omega
      rw [if_neg c1] at h
      by_cases c2 : kids2 l[n].k < 2 ∧ l[n].r ≠ 0 ∨ kids2 l[n].k < 1 ∧ l[n].l ≠ 0
      · rw [if_pos c2] at h; omega
      rw [if_neg c2] at h
      obtain ⟨ke, kk⟩ := kids_eq (k := l[n].k) (by omega) (by omega)
      have hset : ¬ (l[n].k ≠ 2 ∧ ¬ (l[n].a = 0 ∧ l[n].b = 0 ∧ l[n].c = 0 ∧ l[n].d = 0)) := by
        rintro ⟨q1, q2⟩
        exact c1 (.inr (.inr ⟨q1, by unfold setZ; exact decide_eq_false q2⟩))
      -- the step at n, from the sizes before it
      have step : ∀ s v, vsteps [] (l.take n) = some s → s.length = n → vstep s l[n] = some (s ++ [v]) → v = n - F + 1 → ∃ sz, vsteps [] (l.take (n + 1)) = some sz ∧ sz.getD n 0 = n - F + 1 := by
        intro s v hs hl hv he
        refine ⟨s ++ [v], ?_, by rw [getD_snoc hl]; exact he⟩
        rw [vsteps_next hx, hs]; exact hv
      by_cases c3 : kids2 l[n].k = 0
      · rw [if_pos c3] at h
        subst h
        refine ⟨Int.le_refl _, fun s0 hs => ?_⟩
        rw [Int.toNat_natCast] at hs
        refine step s0 1 hs (vsteps_len n s0 (by omega) hs) ?_ (by omega)
        unfold vstep
        dsimp only
        rw [if_neg hset, if_pos (by omega), if_pos ⟨by omega, by omega⟩]
      rw [if_neg c3] at h
      by_cases c4 : kids2 l[n].k = 2
      · rw [if_pos c4] at h
        by_cases c5 : l[n].r ≠ (n : Int) - 1
        · rw [if_pos c5] at h; omega
        rw [if_neg c5] at h
        generalize hG : treeN f l ((n : Int) - 1) = G at h
        by_cases c6 : G - 1 < 0 ∨ l[n].l ≠ G - 1
        · rw [if_pos c6] at h; omega
        rw [if_neg c6] at h
        have hn0 : 1 ≤ n := by
          by_cases hz : n = 0
          · subst hz
            have : G = -1 := by
              rw [← hG]
              cases f with
              | zero => rfl
              | succ f => unfold treeN; rw [if_pos (by omega)]
            omega
          · omega
        have hn1 : ((n : Int) - 1) = ((n - 1 : Nat) : Int) := by omega
        rw [hn1] at hG
        obtain ⟨a1, a2⟩ := ih (n - 1) (by omega) f G (by omega) (by omega) hG (by omega)
        have hm : G - 1 = (((G - 1).toNat : Nat) : Int) := by omega
        rw [hm] at h
        obtain ⟨b1, b2⟩ := ih (G - 1).toNat (by omega) f F (by omega) (by omega) h hF
        refine ⟨by omega, fun s0 hs => ?_⟩
        obtain ⟨sm, m1, m2⟩ := b2 s0 hs
        obtain ⟨s, k1, k2⟩ := a2 sm (by rw [show G.toNat = (G - 1).toNat + 1 by omega]; exact m1)
        rw [show n - 1 + 1 = n by omega] at k1
        have hl := vsteps_len n s (by omega) k1
        have hpre := vsteps_take (l := l) (sz := s) (n - ((G - 1).toNat + 1)) ((G - 1).toNat + 1) (by omega) (by rw [show (G - 1).toNat + 1 + (n - ((G - 1).toNat + 1)) = n by omega]; exact k1)
        have hsm : s.getD (G - 1).toNat 0 = sm.getD (G - 1).toNat 0 := by
          rw [m1] at hpre
          rw [Option.some.inj hpre, getD_take (by omega)]
        refine step s (1 + s.getD (n - 1) 0 + s.getD (G - 1).toNat 0) k1 hl ?_ (by rw [hsm, m2, k2]; omega)
        unfold vstep
        dsimp only
        rw [hl, hn1, Int.toNat_natCast]
        rw [if_neg hset, if_neg (by omega), if_pos (by omega), if_neg (by omega), if_neg (by omega), if_pos ⟨by omega, by omega⟩]
        rw [show (n : Int) - (1 + s.getD (n - 1) 0) = G - 1 by omega]
      · rw [if_neg c4] at h
        by_cases c6 : (n : Int) - 1 < 0 ∨ l[n].l ≠ (n : Int) - 1
        · rw [if_pos c6] at h; omega
        rw [if_neg c6] at h
        have hn1 : ((n : Int) - 1) = ((n - 1 : Nat) : Int) := by omega
        rw [hn1] at h
        obtain ⟨a1, a2⟩ := ih (n - 1) (by omega) f F (by omega) (by omega) h hF
        refine ⟨by omega, fun s0 hs => ?_⟩
        obtain ⟨s, k1, k2⟩ := a2 s0 hs
        rw [show n - 1 + 1 = n by omega] at k1
        have hl := vsteps_len n s (by omega) k1
        refine step s (1 + s.getD (n - 1) 0) k1 hl ?_ (by rw [k2]; omega)
        unfold vstep
        dsimp only
        rw [hl, hn1, Int.toNat_natCast]
        rw [if_neg hset, if_neg (by omega), if_neg (by omega), if_pos (by omega), if_neg (by omega), if_pos ⟨by omega, by omega⟩]
theorem treeN_le (l : List Nd) : ∀ (f : Nat) (n : Int), treeN f l n = -1 ∨ 0 ≤ treeN f l n ∧ treeN f l n ≤ n
  | 0, _ => .inl rfl
  | f + 1, n => by
    unfold treeN
    split
    · exact .inl rfl
    split
    · exact .inl rfl
    split
    · exact .inl rfl
    split
    · exact .inr ⟨by omega, Int.le_refl _⟩
    split
    · split
      · exact .inl rfl
      · have h1 := treeN_le l f (n - 1)
        split
        · exact .inl rfl
        · rcases treeN_le l f (treeN f l (n - 1) - 1) with h | ⟨h, h'⟩
          · exact .inl h
          · exact .inr ⟨h, by omega⟩
    · split
      · exact .inl rfl
      · rcases treeN_le l f (n - 1) with h | ⟨h, h'⟩
        · exact .inl h
        · exact .inr ⟨h, by omega⟩
def rValid (l : List Nd) : Bool := decide (1 ≤ l.length) && decide (l.length ≤ 256) && decide (treeN 300 l ((l.length : Int) - 1) = 0)
theorem valid_eq (l : List Nd) : validOf l = rValid l := by
  unfold rValid
  cases l with
  | nil => rfl
  | cons x l =>
    have hval : validOf (x :: l) = if 256 < (x :: l).length then false else match vsteps [] (x :: l) with
      | none => false
      | some sz => decide (sz.getD ((x :: l).length - 1) 0 = (x :: l).length) := rfl
    rw [hval]
    generalize hL : x :: l = L
    have hpos : 0 < L.length := by rw [← hL]; simp
    by_cases hb : 256 < L.length
    · rw [if_pos hb, decide_eq_false (show ¬ L.length ≤ 256 by omega)]; simp
    rw [if_neg hb, decide_eq_true (show 1 ≤ L.length by omega), decide_eq_true (show L.length ≤ 256 by omega), Bool.true_and, Bool.true_and]
    have hn1 : ((L.length : Int) - 1) = ((L.length - 1 : Nat) : Int) := by omega
    have hfull : vsteps [] (L.take (L.length - 1 + 1)) = vsteps [] L := by rw [show L.length - 1 + 1 = L.length by omega, List.take_length]
    rw [hn1]
    cases hv : vsteps [] L with
    | some sz =>
      dsimp only
      obtain ⟨a1, a2, a3⟩ := tree_of (l := L) (L.length - 1) 300 sz (by omega) (by omega) (by rw [hfull, hv])
      rw [a1]
      by_cases he : sz.getD (L.length - 1) 0 = L.length
      · rw [decide_eq_true he, decide_eq_true (by omega)]
      · rw [decide_eq_false he, decide_eq_false (by omega)]
    | none =>
      dsimp only
      refine (decide_eq_false fun h => ?_).symm
      obtain ⟨sz, h1, _⟩ := (of_tree (l := L) (L.length - 1) 300 0 (by omega) (by omega) h (Int.le_refl _)).2 [] rfl
      rw [hfull, hv] at h1
      cases h1
end Go.Proofs.Ytaffcoiomggpfaa

/- Contract of jobmuxref08.Kids. -/
namespace Go.Proofs.Ytaffcoiomggpfaa
open Go.V
attribute [local irreducible] app
set_option linter.constructorNameAsVariable false
set_option linter.unusedVariables false

theorem Kids2_c {H : Heap} {k : Int} {Q : QT} {E : ET} (hk : Q (.int .i64 (kids2 k)) H) : Does Pr 42 #[.int .i64 k] H Q E := by
  refine zqc_fn _ Q E H ?_
  unfold zqc zqc_16 zqc_12 zqc_10
  have k2 : (k = 3 ∨ k = 4) → zqc_3 Q E H := fun h => by
    unfold zqc_3; unfold kids2 at hk; rw [if_pos h] at hk; exact hk
  have k1 : ¬ (k = 3 ∨ k = 4) → (k = 5 ∨ k = 6 ∨ k = 7) → Q (.int .i64 1) H := fun h h' => by
    unfold kids2 at hk; rw [if_neg h, if_pos h'] at hk; exact hk
  have k0 : ¬ (k = 3 ∨ k = 4) → ¬ (k = 5 ∨ k = 6 ∨ k = 7) → zqc_1 Q E H := fun h h' => by
    unfold zqc_1; unfold kids2 at hk; rw [if_neg h, if_neg h'] at hk; exact hk
  unfold zqc_7 zqc_5
  repeat' (refine sel_beq (fun _ => ?_) (fun _ => ?_))
  all_goals first | exact k2 (by omega) | exact k1 (by omega) (by omega) | exact k0 (by omega) (by omega) | (exfalso; omega)
end Go.Proofs.Ytaffcoiomggpfaa

/- Contracts of package jobmuxref08: tree, Valid. -/
namespace Go.Proofs.Ytaffcoiomggpfaa
open Go.V
attribute [local irreducible] app
set_option linter.unusedVariables false

theorem eqZ (x : Nd) : eqVs [.int .u64 x.a, .int .u64 x.b, .int .u64 x.c, .int .u64 x.d] [.int .u64 0, .int .u64 0, .int .u64 0, .int .u64 0] = setZ x := by
  simp only [eqVs, eqV, Bool.and_true, setZ]
  rw [Bool.eq_iff_iff]; simp
theorem tree_c {p : OA} {c : Nat} {l : List Nd} {E : Chain → Heap → Prop} (hs : l.length ≤ 4096) : ∀ (f : Nat) (n : Int) (H : Heap) (Q : Value → Heap → Prop), n < f → n < l.length → Nds H p l →
    (∀ H', Ext H H' → Q (.int .i64 (treeN f l n)) H') → Does Pr 75 #[.slice p l.length c, .int .i64 n] H Q E
  | 0, n, H, Q, hf, hn, hv, hk => by
    refine zqg_fn _ _ _ _ Q E H ?_
    unfold zqg zqg_46
    exact sel_dec (fun _ => hk H (.refl H)) (fun hd => by omega)
  | f + 1, n, H, Q, hf, hn, hv, hk => by
    refine zqg_fn _ _ _ _ Q E H ?_
    unfold zqg zqg_46
    unfold treeN at hk
    refine sel_dec (fun hd => ?_) (fun hd => ?_)
    · rw [if_pos (by omega)] at hk; exact hk H (.refl H)
    rw [if_neg (by omega)] at hk
    have hlt : n.toNat < l.length := by omega
    have hx : l[n.toNat]? = some l[n.toNat] := List.getElem?_eq_getElem hlt
    have hxd : l.getD n.toNat default = l[n.toNat] := by rw [List.getD_eq_getElem?_getD, hx]; rfl
    rw [hxd] at hk
    obtain ⟨a, rfl, hrd⟩ := hv _ _ hx
    revert hk hrd
    generalize l[n.toNat] = x
    intro hk hrd
    unfold zqg_43
    simp only [ptr_some]
    refine ⟨⟨by omega, by omega⟩, _, _, _, _, _, _, _, hrd, ?_⟩
    refine nw_ext fun i H1 hi he1 hc1 => ?_
    refine wr_new hc1 (by simp) rfl (c' := x.cells.toArray) rfl fun H2 hc2 hb2 => ?_
    have he2 : Ext H H2 := fun j o hj => by rw [hb2 j (fun e => by rw [e, hi] at hj; cases hj)]; exact he1 j o hj
    have hv2 := hv.ext he2
    have bad : ∀ H', Ext H2 H' → (x.k < 1 ∨ 9 < x.k ∨ x.k ≠ 2 ∧ setZ x = false) → Q (.int .i64 (-1)) H' := fun H' he h => by
      rw [if_pos h] at hk; exact hk H' (he2.trans he)
    -- from the kids on
    have rest : ¬ (x.k < 1 ∨ 9 < x.k ∨ x.k ≠ 2 ∧ setZ x = false) → zqg_37 Q E (some a) l.length c n (some ⟨i, 0, none⟩) false H2 := fun hok => by
      rw [if_neg hok] at hk
      unfold zqg_37
      refine sel_ff ?_
      unfold zqg_34
      simp only [ptr_some]
      refine ldI_at (n := x.k) hc2 rfl (Kids2_c ⟨_, rfl, ?_⟩)
      obtain ⟨_, kk⟩ := kids_eq (k := x.k) (by omega) (by omega)
      have good : ¬ (kids2 x.k < 2 ∧ x.r ≠ 0 ∨ kids2 x.k < 1 ∧ x.l ≠ 0) → zqg_28 Q E (some a) l.length c n (some ⟨i, 0, none⟩) (kids2 x.k) false H2 := fun hg => by
        rw [if_neg hg] at hk
        unfold zqg_28
        refine sel_ff ?_
        unfold zqg_25
        refine sel_beq (fun h0 => ?_) (fun h0 => ?_)
        · rw [if_pos h0] at hk; exact hk H2 he2
        rw [if_neg h0] at hk
        unfold zqg_22
        rw [IntWalk.i64_in (n - 1) (by omega)]
        unfold zqg_18 zqg_16
        refine sel_beq (fun h2 => ?_) (fun h2 => ?_)
        · rw [if_pos h2] at hk
          unfold zqg_11
          simp only [ptr_some, add_at, Nat.zero_add]
          refine ldI_at (n := x.r) hc2 rfl ?_
          refine sel_bne (fun hne => ?_) (fun heq => ?_)
          · rw [if_pos hne] at hk; exact hk H2 he2
          rw [if_neg (by omega)] at hk
          unfold zqg_9
          refine tree_c hs f (n - 1) H2 _ (by omega) (by omega) hv2 fun H3 he3 => ⟨_, rfl, ?_⟩
          have hb := treeN_le l f (n - 1)
          generalize treeN f l (n - 1) = G at hk hb
          rw [IntWalk.i64_in (G - 1) (by omega)]
          unfold zqg_5
          refine sel_dec (fun hd2 => ?_) (fun hd2 => ?_)
          · rw [if_pos (.inl hd2)] at hk
            unfold zqg_3
            exact sel_tt (hk H3 (he2.trans he3))
          simp only [ptr_some, add_at, Nat.zero_add]
          refine ldI_at (n := x.l) (he3 _ _ hc2) rfl ?_
          unfold zqg_3
          refine sel_bne (fun hne => ?_) (fun heq2 => ?_)
          · rw [if_pos (.inr hne)] at hk; exact hk H3 (he2.trans he3)
          rw [if_neg (by omega)] at hk
          unfold zqg_1
          refine tree_c hs f (G - 1) H3 _ (by omega) (by omega) (hv2.ext he3) fun H4 he4 => ⟨_, rfl, ?_⟩
          exact hk H4 ((he2.trans he3).trans he4)
        · rw [if_neg h2] at hk
          unfold zqg_14 zqg_5
          refine sel_dec (fun hd2 => ?_) (fun hd2 => ?_)
          · rw [if_pos (.inl hd2)] at hk
            unfold zqg_3
            exact sel_tt (hk H2 he2)
          simp only [ptr_some, add_at, Nat.zero_add]
          refine ldI_at (n := x.l) hc2 rfl ?_
          unfold zqg_3
          refine sel_bne (fun hne => ?_) (fun heq2 => ?_)
          · rw [if_pos (.inr hne)] at hk; exact hk H2 he2
          rw [if_neg (by omega)] at hk
          unfold zqg_1
          refine tree_c hs f (n - 1) H2 _ (by omega) (by omega) hv2 fun H4 he4 => ⟨_, rfl, ?_⟩
          exact hk H4 (he2.trans he4)
      have wrong : (kids2 x.k < 2 ∧ x.r ≠ 0 ∨ kids2 x.k < 1 ∧ x.l ≠ 0) → zqg_28 Q E (some a) l.length c n (some ⟨i, 0, none⟩) (kids2 x.k) true H2 := fun hg => by
        rw [if_pos hg] at hk
        unfold zqg_28
        exact sel_tt (hk H2 he2)
      have last : ∀ b : Bool, (b = true ↔ (kids2 x.k < 2 ∧ x.r ≠ 0 ∨ kids2 x.k < 1 ∧ x.l ≠ 0)) → zqg_28 Q E (some a) l.length c n (some ⟨i, 0, none⟩) (kids2 x.k) b H2 := fun b hb => by
        cases b with
        | true => exact wrong (hb.1 rfl)
        | false => exact good (fun h => absurd (hb.2 h) (by decide))
      unfold zqg_30
      refine sel_dec (fun hd1 => ?_) (fun hd1 => ?_)
      · simp only [ptr_some, add_at, Nat.zero_add]
        refine ldI_at (n := x.r) hc2 rfl ?_
        refine sel_bne (fun hne => wrong (.inl ⟨hd1, hne⟩)) (fun heq => ?_)
        refine sel_dec (fun hd2 => ?_) (fun hd2 => good (by omega))
        refine ldI_at (n := x.l) hc2 rfl (last _ ?_)
        simp only [bne_iff_ne, ne_eq]; omega
      · refine sel_dec (fun hd2 => by omega) (fun hd2 => good (by omega))
    unfold zqg_39
    simp only [ptr_some]
    refine ldI_at (n := x.k) hc2 rfl ?_
    refine sel_dec (fun hd1 => ?_) (fun hd1 => ?_)
    · unfold zqg_37; exact sel_tt (bad H2 (.refl _) (.inl hd1))
    refine ldI_at (n := x.k) hc2 rfl ?_
    refine sel_dec (fun hd2 => ?_) (fun hd2 => ?_)
    · unfold zqg_37; exact sel_tt (bad H2 (.refl _) (.inr (.inl (by omega))))
    refine ldI_at (n := x.k) hc2 rfl ?_
    refine sel_bne (fun hne => ?_) (fun heq => rest (by omega))
    refine ⟨x.a, x.b, x.c, x.d, ?_, ?_⟩
    · rw [add_at]
      exact rd_at hc2 _ _ 0 (fun j hj => by
        have hj : j < 4 := hj
        rcases (by omega : j = 0 ∨ j = 1 ∨ j = 2 ∨ j = 3) with rfl | rfl | rfl | rfl <;> rfl)
    rw [eqZ]
    cases hz : setZ x with
    | true => exact rest (by rintro (h | h | ⟨h, h'⟩); · omega
                             · omega
                             · rw [hz] at h'; cases h')
    | false =>
      show zqg_37 Q E (some a) l.length c n (some ⟨i, 0, none⟩) true H2
      unfold zqg_37; exact sel_tt (bad H2 (.refl _) (.inr (.inr ⟨hne, hz⟩)))
theorem rValid_c {H : Heap} {p : OA} {c : Nat} {l : List Nd} {Q : QT} {E : ET} (hs : l.length ≤ 1048576) (hv : Nds H p l)
    (hk : ∀ H', Ext H H' → Q (.bool (validOf l)) H') : Does Pr 41 #[.slice p l.length c] H Q E := by
  rw [valid_eq] at hk
  unfold rValid at hk
  refine zqb_fn _ _ _ Q E H ?_
  unfold zqb
  refine sel_dec (fun h1 => ?_) (fun h1 => ?_)
  · rw [decide_eq_true (show 1 ≤ l.length by omega), Bool.true_and] at hk
    refine sel_dec (fun h2 => ?_) (fun h2 => ?_)
    · rw [decide_eq_true (show l.length ≤ 256 by omega), Bool.true_and] at hk
      rw [IntWalk.i64_in (((l.length : Nat) : Int) - 1) (by omega)]
      refine tree_c (by omega) 300 _ H _ (by omega) (by omega) hv fun H' he => ⟨_, rfl, ?_⟩
      exact hk H' he
    · rw [decide_eq_false (show ¬ l.length ≤ 256 by omega), Bool.false_and] at hk
      exact hk H (.refl H)
  · rw [decide_eq_false (show ¬ 1 ≤ l.length by omega), Bool.false_and] at hk
    exact hk H (.refl H)
end Go.Proofs.Ytaffcoiomggpfaa
