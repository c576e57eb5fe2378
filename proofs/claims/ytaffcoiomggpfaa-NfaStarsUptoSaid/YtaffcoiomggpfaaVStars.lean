import Derived.Test.YtaffcoiomggpfaaVL10
/- The statement NfaStars: its contract. -/
namespace Go.Proofs.Ytaffcoiomggpfaa
open Go.V
attribute [local irreducible] app
set_option linter.constructorNameAsVariable false
set_option linter.unusedVariables false

def starS : Nat → ByteArray
  | 0 => ⟨[40, 97, 124, 98, 42, 41].toArray⟩
  | k + 1 => starS k ++ ⟨[42].toArray⟩
def starsC (k : Nat) : ByteArray := starS k ++ ⟨[99].toArray⟩
def manyS : ByteArray := ⟨[40, 97, 124, 98, 41, 42, 99].toArray⟩
def starT (A : Tr) : Nat → Tr
  | 0 => A
  | k + 1 => .star (starT A k)
def letter (b : Nat) : Tr := match treeOf ⟨[UInt8.ofNat b].toArray⟩ with
  | .leaf x => .leaf x
  | _ => .nil
theorem stars_many : treeOf manyS = .cat (.star (.alt (letter 97) (letter 98))) (letter 99) ∧ validOf (rParse manyS).1 = true ∧ (rParse manyS).2 = 0 := by decide +kernel
def starsL (k : Nat) : ByteArray := ⟨(([40, 97, 124, 98, 42, 41] ++ (List.replicate k 42 ++ [99]) : List UInt8)).toArray⟩
def okS (x : List Nd × Int) (k : Nat) : Bool := decide (x.2 = 0) && (validOf x.1 && decide (tr x.1 x.1.length (x.1.length - 1) = .cat (starT (.alt (letter 97) (.star (letter 98))) k) (letter 99)))
theorem stars_0 : ∀ k : _root_.Fin 5, okS (rParse (starsL (0 + k))) (0 + k) = true := by decide +kernel
theorem stars_1 : ∀ k : _root_.Fin 5, okS (rParse (starsL (5 + k))) (5 + k) = true := by decide +kernel
theorem stars_2 : ∀ k : _root_.Fin 5, okS (rParse (starsL (10 + k))) (10 + k) = true := by decide +kernel
theorem stars_3 : ∀ k : _root_.Fin 5, okS (rParse (starsL (15 + k))) (15 + k) = true := by decide +kernel
theorem stars_4 : ∀ k : _root_.Fin 5, okS (rParse (starsL (20 + k))) (20 + k) = true := by decide +kernel
theorem stars_5 : ∀ k : _root_.Fin 5, okS (rParse (starsL (25 + k))) (25 + k) = true := by decide +kernel
theorem stars_6 : ∀ k : _root_.Fin 5, okS (rParse (starsL (30 + k))) (30 + k) = true := by decide +kernel
theorem stars_7 : ∀ k : _root_.Fin 5, okS (rParse (starsL (35 + k))) (35 + k) = true := by decide +kernel
theorem stars_8 : ∀ k : _root_.Fin 5, okS (rParse (starsL (40 + k))) (40 + k) = true := by decide +kernel
theorem stars_9 : ∀ k : _root_.Fin 5, okS (rParse (starsL (45 + k))) (45 + k) = true := by decide +kernel
theorem stars_10 : ∀ k : _root_.Fin 5, okS (rParse (starsL (50 + k))) (50 + k) = true := by decide +kernel
theorem stars_11 : ∀ k : _root_.Fin 5, okS (rParse (starsL (55 + k))) (55 + k) = true := by decide +kernel
theorem stars_12 : ∀ k : _root_.Fin 5, okS (rParse (starsL (60 + k))) (60 + k) = true := by decide +kernel
theorem stars_13 : ∀ k : _root_.Fin 5, okS (rParse (starsL (65 + k))) (65 + k) = true := by decide +kernel
theorem stars_14 : ∀ k : _root_.Fin 5, okS (rParse (starsL (70 + k))) (70 + k) = true := by decide +kernel
theorem stars_15 : ∀ k : _root_.Fin 5, okS (rParse (starsL (75 + k))) (75 + k) = true := by decide +kernel
theorem stars_16 : ∀ k : _root_.Fin 5, okS (rParse (starsL (80 + k))) (80 + k) = true := by decide +kernel
theorem stars_17 : ∀ k : _root_.Fin 5, okS (rParse (starsL (85 + k))) (85 + k) = true := by decide +kernel
theorem stars_18 : ∀ k : _root_.Fin 5, okS (rParse (starsL (90 + k))) (90 + k) = true := by decide +kernel
theorem stars_19 : ∀ k : _root_.Fin 5, okS (rParse (starsL (95 + k))) (95 + k) = true := by decide +kernel
theorem okS_all {k : Nat} (h : k < 100) : okS (rParse (starsL k)) k = true := by
  have e : k = 5 * (k / 5) + k % 5 := by omega
  have hm : k % 5 < 5 := by omega
  have hd : k / 5 < 20 := by omega
  generalize k % 5 = r at e hm
  generalize k / 5 = q at e hd
  subst e
  match q, hd with
  | 0, _ => exact stars_0 ⟨r, hm⟩
  | 1, _ => exact stars_1 ⟨r, hm⟩
  | 2, _ => exact stars_2 ⟨r, hm⟩
  | 3, _ => exact stars_3 ⟨r, hm⟩
  | 4, _ => exact stars_4 ⟨r, hm⟩
  | 5, _ => exact stars_5 ⟨r, hm⟩
  | 6, _ => exact stars_6 ⟨r, hm⟩
  | 7, _ => exact stars_7 ⟨r, hm⟩
  | 8, _ => exact stars_8 ⟨r, hm⟩
  | 9, _ => exact stars_9 ⟨r, hm⟩
  | 10, _ => exact stars_10 ⟨r, hm⟩
  | 11, _ => exact stars_11 ⟨r, hm⟩
  | 12, _ => exact stars_12 ⟨r, hm⟩
  | 13, _ => exact stars_13 ⟨r, hm⟩
  | 14, _ => exact stars_14 ⟨r, hm⟩
  | 15, _ => exact stars_15 ⟨r, hm⟩
  | 16, _ => exact stars_16 ⟨r, hm⟩
  | 17, _ => exact stars_17 ⟨r, hm⟩
  | 18, _ => exact stars_18 ⟨r, hm⟩
  | 19, _ => exact stars_19 ⟨r, hm⟩
  | n + 20, h => omega
theorem starS_data : ∀ k : Nat, (starS k).data = (([40, 97, 124, 98, 42, 41] ++ List.replicate k 42 : List UInt8)).toArray
  | 0 => rfl
  | k + 1 => by
    show (starS k ++ ⟨[42].toArray⟩ : ByteArray).data = _
    rw [ByteArray.data_append, starS_data k, List.append_toArray, List.replicate_succ', List.append_assoc]
theorem starsC_L (k : Nat) : starsC k = starsL k := by
  apply ByteArray.ext
  show (starS k ++ ⟨[99].toArray⟩ : ByteArray).data = _
  rw [ByteArray.data_append, starS_data k, List.append_toArray, List.append_assoc]; rfl
theorem stars_all : ∀ k : _root_.Fin 100, treeOf (starsC k) = .cat (starT (.alt (letter 97) (.star (letter 98))) k) (letter 99) ∧ validOf (rParse (starsC k)).1 = true ∧ (rParse (starsC k)).2 = 0 := by
  intro k
  have h := okS_all k.2
  rw [← starsC_L] at h
  unfold okS at h
  simp only [Bool.and_eq_true, decide_eq_true_eq] at h
  exact ⟨h.2.2, h.2.1, h.1⟩
theorem star_star {R : Nat → Nat → Prop} {i j : Nat} : Star (Star R) i j ↔ Star R i j := by
  constructor
  · intro h
    induction h with
    | none i => exact .none i
    | more h1 _ ih => exact Star.trans h1 ih
  · intro h
    exact .more h (.none j)
theorem star_sub {A B : Nat → Nat → Prop} {i j : Nat} (h : Star B i j) : Star (fun i j => A i j ∨ B i j) i j := by
  induction h with
  | none i => exact .none i
  | more g _ ih => exact .more (.inr g) ih
theorem star_alt {A B : Nat → Nat → Prop} {i j : Nat} : Star (fun i j => A i j ∨ Star B i j) i j ↔ Star (fun i j => A i j ∨ B i j) i j := by
  constructor
  · intro h
    induction h with
    | none i => exact .none i
    | more h1 _ ih =>
      refine Star.trans ?_ ih
      rcases h1 with h1 | h1
      · exact .more (.inl h1) (.none _)
      · exact star_sub h1
  · intro h
    induction h with
    | none i => exact .none i
    | more h1 _ ih =>
      refine .more ?_ ih
      rcases h1 with h1 | h1
      · exact .inl h1
      · exact .inr (.more h1 (.none _))
theorem starT_mean (t : List Nat) (A : Tr) : ∀ (k : Nat) (i j : Nat), (starT A (k + 1)).mean t i j ↔ Star (A.mean t) i j
  | 0, i, j => Iff.rfl
  | k + 1, i, j => by
    show Star ((starT A (k + 1)).mean t) i j ↔ _
    have : (starT A (k + 1)).mean t = Star (A.mean t) := funext fun i => funext fun j => propext (starT_mean t A k i j)
    rw [this, star_star]
theorem stars_mean {k : Nat} (hk : k < 100) (hp : 0 < k) (t : List Nat) (i j : Nat) : (treeOf (starsC k)).mean t i j ↔ (treeOf manyS).mean t i j := by
  rw [(stars_all ⟨k, hk⟩).1, stars_many.1]
  obtain ⟨k, rfl⟩ : ∃ m, k = m + 1 := ⟨k - 1, by omega⟩
  show (∃ m, (starT _ (k + 1)).mean t i m ∧ (letter 99).mean t m j) ↔ ∃ m, Star (fun i j => (letter 97).mean t i j ∨ (letter 98).mean t i j) i m ∧ (letter 99).mean t m j
  refine exists_congr fun m => and_congr_left fun _ => ?_
  rw [starT_mean]
  exact star_alt
theorem stars_first {k : Nat} (hk : k < 100) (hp : 0 < k) (bs : List UInt8) : firstOf (rParse (starsC k)).1 bs = firstOf (rParse manyS).1 bs := by
  have h1 := firstOf_spec bs (stars_all ⟨k, hk⟩).2.1
  have h2 := firstOf_spec bs stars_many.2.1
  have e : Mn (rParse (starsC k)).1 (bs.map UInt8.toNat) = Mn (rParse manyS).1 (bs.map UInt8.toNat) := by
    funext n
    refine propext (exists_congr fun j => and_congr_right fun _ => exists_congr fun m => ?_)
    rw [mean_tr, mean_tr]
    exact stars_mean hk hp _ _ _
  rw [show ((⟨k, hk⟩ : _root_.Fin 100) : Nat) = k from rfl, e] at h1
  exact h1.unique h2
theorem starS_size : ∀ k : Nat, (starS k).size = k + 6
  | 0 => rfl
  | k + 1 => by
    show (starS k ++ ⟨[42].toArray⟩ : ByteArray).size = _
    rw [ByteArray.size_append, starS_size k]; simp [ByteArray.size]
theorem NfaStars_c {H : Heap} {k0 : Int} {pb : OA} {nb cb : Nat} {bs : List UInt8} {Q : QT} {E : ET} (hb : Byt H pb nb cb bs)
    (hk : ∀ H', Ext H H' → Q (.bool true) H') : Does Pr 11 #[.int .i64 k0, .slice pb nb cb] H Q E := by
  refine zqv_fn _ _ _ _ Q E H ?_
  unfold zqv zqv_36
  refine sane10_c fun H1 he1 => ⟨_, rfl, sel_ff ?_⟩
  unfold zqv_33
  refine sel_dec (fun _ => hk _ he1) (fun hnb => ?_)
  have hm := modOf_bounds (a := k0) (n := 100) (by omega) (by omega)
  change 0 ≤ modOf k0 100 ∧ modOf k0 100 < 100 at hm
  obtain ⟨k, ek⟩ : ∃ n : Nat, modOf k0 100 = (n : Nat) := ⟨(modOf k0 100).toNat, by omega⟩
  rw [ek] at hm
  unfold zqv_30 zqv_26
  refine Mod_c (by decide) ⟨_, rfl, ?_⟩
  rw [ek]
  have hlb := hb.1
  unfold zqv_23
  refine ⟨fun s x H' => ∃ j : Nat, s = starS (k - j) ∧ x = (j : Nat) ∧ j ≤ k ∧ H' = H1, fun _ x _ => x.toNat, ⟨k, by rw [Nat.sub_self]; rfl, rfl, Nat.le_refl _, rfl⟩, ?_⟩
  rintro s x H2 ⟨j, rfl, rfl, hj, rfl⟩
  have hsz := starS_size (k - j)
  unfold zqv_20
  refine sel_dec (fun hpos => ?_) (fun hneg => ?_)
  · unfold zqv_18
    have h42 : (⟨[42].toArray⟩ : ByteArray).size = 1 := rfl
    refine ⟨by rw [hsz, h42]; omega, ?_⟩
    have hw : IntKind.wrap .i64 ((j : Int) - 1) = ((j - 1 : Nat) : Int) := by rw [IntWalk.i64_in _ (by omega)]; omega
    rw [hw]
    refine ⟨⟨j - 1, ?_, rfl, by omega, rfl⟩, by dsimp only; omega⟩
    rw [show k - (j - 1) = (k - j) + 1 by omega]; rfl
  · obtain rfl : j = 0 := by omega
    rw [Nat.sub_zero] at hsz ⊢
    have hk100 : k < 100 := by omega
    have hall := stars_all ⟨k, hk100⟩
    have hmany := stars_many
    have hfirst := fun hp => stars_first hk100 hp bs
    change treeOf (starsC k) = _ ∧ validOf (rParse (starsC k)).1 = true ∧ (rParse (starsC k)).2 = 0 at hall
    unfold zqv_15
    have h99 : (⟨[99].toArray⟩ : ByteArray).size = 1 := rfl
    refine ⟨by rw [hsz, h99]; omega, ?_⟩
    change Does Pr 23 #[.string (starsC k)] H2 _ E
    refine rParse_c fun H3 p3 c3 L3 e3 hp3 hl3 he3 hv3 => ⟨_, _, _, _, rfl, ?_⟩
    unfold zqv_12
    change Does Pr 23 #[.string manyS] H3 _ E
    refine rParse_c fun H4 p4 c4 L4 e4 hp4 hl4 he4 hv4 => ⟨_, _, _, _, rfl, ?_⟩
    rw [hp3, hp4] at hfirst
    rw [hp3] at hall
    rw [hp4] at hmany
    dsimp only at hfirst hall hmany
    obtain ⟨_, hv3', rfl⟩ := hall
    obtain ⟨_, hv4', rfl⟩ := hmany
    unfold zqv_9
    refine Compile_c (hv3.ext he4) hv3' fun H5 p5 c5 he5 hv5 => ⟨_, _, _, _, rfl, ?_⟩
    unfold zqv_6
    refine Compile_c (hv4.ext he5) hv4' fun H6 p6 c6 he6 hv6 => ⟨_, _, _, _, rfl, ?_⟩
    have he16 := (((he1.trans he3).trans he4).trans he5).trans he6
    unfold zqv_3
    refine Mod_c (by decide) ⟨_, rfl, ?_⟩
    rw [ek]
    refine sel_beq (fun h0 => sel_tt (hk _ he16)) (fun h0 => ?_)
    unfold zqv_1
    refine sel_tt (sel_tt (sel_tt ?_))
    have hb6 := hb.ext he16
    refine nrun_c (hv5.ext he6) (build_NV hv3') hb6 (by omega) fun H7 he7 => ⟨_, rfl, ?_⟩
    refine nrun_c (hv6.ext he7) (build_NV hv4') (hb6.ext he7) (by omega) fun H8 he8 => ⟨_, rfl, ?_⟩
    rw [runOf_build bs hv3', runOf_build bs hv4', hfirst (by omega)]
    have ek2 : ∀ k : Int, ((k == k) : Bool) = true := fun k => by simp
    rw [ek2]
    exact hk H8 ((he16.trans he7).trans he8)
end Go.Proofs.Ytaffcoiomggpfaa
