import Derived.Test.YtaffcoiomggpfaaVAuto6
import Derived.Test.YtaffcoiomggpfaaVPats
import Derived.Test.YtaffcoiomggpfaaFr09
import Derived.Test.YtaffcoiomggpfaaVMean3
import Derived.Test.YtaffcoiomggpfaaVR08h
import Derived.Test.YtaffcoiomggpfaaVR08a
import Derived.Test.YtaffcoiomggpfaaVFirst
/- Relations between places: package r09 (1): what they look like, empty, stay, both, then, some. -/
namespace Go.Proofs.Ytaffcoiomggpfaa
open Go.V
attribute [local irreducible] app
set_option linter.constructorNameAsVariable false
set_option linter.unusedVariables false
open Classical in
noncomputable def rowC (R : Nat → Nat → Prop) (i n : Nat) : Array Value := ((List.range n).map fun k => Value.bool (decide (R i k))).toArray
theorem rowC_size (R : Nat → Nat → Prop) (i n : Nat) : (rowC R i n).size = n := by simp [rowC]
open Classical in
theorem rowC_get {R : Nat → Nat → Prop} {i k n : Nat} (hk : k < n) : (rowC R i n)[k]? = some (.bool (decide (R i k))) := by simp [rowC, hk]
theorem rowC_congr {R R' : Nat → Nat → Prop} {i n : Nat} (h : ∀ k, k < n → (R i k ↔ R' i k)) : rowC R i n = rowC R' i n := by
  unfold rowC
  congr 1
  refine List.map_congr_left fun k hk => ?_
  rw [List.mem_range] at hk
  exact congrArg Value.bool (decide_eq_decide.2 (h k hk))
def rowV (ad : Nat → Nat) (n i : Nat) : Value := .slice (some ⟨ad i, 0, none⟩) n n
def rowsV (ad : Nat → Nat) (n m : Nat) : List Value := (List.range m).map (rowV ad n)
theorem rowsV_get {ad : Nat → Nat} {n m i : Nat} (h : i < m) : (rowsV ad n m)[i]? = some (rowV ad n i) := by simp [rowsV, h]
/-- A relation in the heap, of m rows and n columns, in blocks of its own. -/
def RelA (H0 H : Heap) (p : Option Addr) (m n c : Nat) (ad : Nat → Nat) (R : Nat → Nat → Prop) : Prop :=
  Ext H0 H ∧ Vec H 1 p m c (rowsV ad n m) ∧ (∀ i, i < m → H (ad i) = some (.cells (rowC R i n) 4 (0, 0)) ∧ H0 (ad i) = none ∧ ¬ blk p (ad i)) ∧ (∀ i j, i < m → j < m → ad i = ad j → i = j) ∧ ∀ j, blk p j → H0 j = none
/-- A relation in the heap. -/
def RelH (H : Heap) (p : Option Addr) (n c : Nat) (R : Nat → Nat → Prop) : Prop := ∃ ad : Nat → Nat, Vec H 1 p n c (rowsV ad n n) ∧ ∀ i, i < n → H (ad i) = some (.cells (rowC R i n) 4 (0, 0))
theorem RelA.rel {H0 H : Heap} {p : Option Addr} {n c : Nat} {ad : Nat → Nat} {R : Nat → Nat → Prop} (h : RelA H0 H p n n c ad R) : RelH H p n c R := ⟨ad, h.2.1, fun i hi => (h.2.2.1 i hi).1⟩
theorem RelH.ext {H H' : Heap} {p : Option Addr} {n c : Nat} {R : Nat → Nat → Prop} (h : RelH H p n c R) (he : Ext H H') : RelH H' p n c R := by
  obtain ⟨ad, h1, h2⟩ := h
  exact ⟨ad, h1.ext he, fun i hi => he _ _ (h2 i hi)⟩
theorem RelH.congr {H : Heap} {p : Option Addr} {n c : Nat} {R R' : Nat → Nat → Prop} (h : RelH H p n c R) (e : ∀ i k, i < n → k < n → (R i k ↔ R' i k)) : RelH H p n c R' := by
  obtain ⟨ad, h1, h2⟩ := h
  exact ⟨ad, h1, fun i hi => by rw [← rowC_congr (R := R) (fun k hk => e i k hi hk)]; exact h2 i hi⟩
theorem RelA.congr {H0 H : Heap} {p : Option Addr} {m n c : Nat} {ad : Nat → Nat} {R R' : Nat → Nat → Prop} (h : RelA H0 H p m n c ad R) (e : ∀ i k, i < m → k < n → (R i k ↔ R' i k)) : RelA H0 H p m n c ad R' := by
  obtain ⟨h1, h2, h3, h4, h5⟩ := h
  exact ⟨h1, h2, fun i hi => ⟨by rw [← rowC_congr (R := R) (fun k hk => e i k hi hk)]; exact (h3 i hi).1, (h3 i hi).2⟩, h4, h5⟩
theorem RelA.base {H0 H1 H : Heap} {p : Option Addr} {m n c : Nat} {ad : Nat → Nat} {R : Nat → Nat → Prop} (h : RelA H1 H p m n c ad R) (he : Ext H0 H1) : RelA H0 H p m n c ad R := by
  obtain ⟨h1, h2, h3, h4, h5⟩ := h
  exact ⟨he.trans h1, h2, fun i hi => ⟨(h3 i hi).1, he.free (h3 i hi).2.1, (h3 i hi).2.2⟩, h4, fun j hj => he.free (h5 j hj)⟩
/-- The row of a relation is read. -/
theorem vec_row {H : Heap} {p : Option Addr} {m n c i : Nat} {ad : Nat → Nat} {K : Option Addr → Nat → Nat → Prop} (h : Vec H 1 p m c (rowsV ad n m)) (hi : i < m) (hk : K (some ⟨ad i, 0, none⟩) n n) :
    (0 ≤ (i : Int) ∧ (i : Int) < ((m : Nat) : Int)) ∧ ptr p fun q => ldSl (Addr.add q ((i : Int).toNat * 1)) H K := by
  refine ⟨⟨by omega, by omega⟩, ?_⟩
  obtain ⟨b, t, cs, rfl, q, g⟩ := vec_at1 h (n := i) (rowsV_get hi)
  simp only [ptr_some, add_at, Int.toNat_natCast, Nat.mul_one, Nat.zero_add]
  exact ldSl_at q g hk
open Classical in
theorem cell_row {H : Heap} {R : Nat → Nat → Prop} {a i k n : Nat} {K : Bool → Prop} (h : H a = some (.cells (rowC R i n) 4 (0, 0))) (hk : k < n) (hK : K (decide (R i k))) :
    (0 ≤ (k : Int) ∧ (k : Int) < ((n : Nat) : Int)) ∧ ptr (some ⟨a, 0, none⟩) fun q => ldB (Addr.add q ((k : Int).toNat * 1)) H K := by
  refine ⟨⟨by omega, by omega⟩, ?_⟩
  simp only [ptr_some, add_at, Int.toNat_natCast, Nat.mul_one, Nat.zero_add]
  exact ldB_at h (rowC_get hk) hK
open Classical in
/-- A pair of places is looked up. -/
theorem RelH.get {H : Heap} {p : Option Addr} {n c i k : Nat} {R : Nat → Nat → Prop} {K : Bool → Prop} (h : RelH H p n c R) (hi : i < n) (hk : k < n) (hK : K (decide (R i k))) :
    (0 ≤ (i : Int) ∧ (i : Int) < ((n : Nat) : Int)) ∧ ptr p fun q => ldSl (Addr.add q ((i : Int).toNat * 1)) H fun p' l' _ =>
      (0 ≤ (k : Int) ∧ (k : Int) < ((l' : Nat) : Int)) ∧ ptr p' fun q' => ldB (Addr.add q' ((k : Int).toNat * 1)) H K := by
  obtain ⟨ad, h1, h2⟩ := h
  exact vec_row h1 hi (cell_row (h2 i hi) hk hK)
/-- One pair is set. -/
def upd (R : Nat → Nat → Prop) (i k : Nat) (v : Bool) (i' k' : Nat) : Prop := (i' = i ∧ k' = k ∧ v = true) ∨ (¬ (i' = i ∧ k' = k) ∧ R i' k')
theorem upd_row {R : Nat → Nat → Prop} {i k n : Nat} {v : Bool} (hk : k < n) : over (rowC R i n) k [.bool v] = rowC (upd R i k v) i n := by
  apply Array.ext
  · simp [over, rowC_size]
  · intro j h1 h2
    have e : ∀ (a b : Array Value) (g1 : j < a.size) (g2 : j < b.size), a[j]? = b[j]? → a[j] = b[j] := fun a b g1 g2 h => by simpa [g1, g2] using h
    refine e _ _ h1 h2 ?_
    have hj : j < n := by rw [rowC_size] at h2; exact h2
    rw [over_get _ _ _ _ (by rw [rowC_size]; simp; omega)]
    by_cases hjk : j = k
    · subst hjk
      rw [if_pos (by simp), rowC_get hj, Nat.sub_self]
      show some (Value.bool v) = _
      congr 2
      cases v <;> simp [upd]
    · rw [if_neg (by simp; omega), rowC_get hj, rowC_get hj]
      congr 2
      exact decide_eq_decide.2 (by simp [upd, hjk])
theorem RelA.put {H0 H : Heap} {p : Option Addr} {m n c i k : Nat} {ad : Nat → Nat} {R : Nat → Nat → Prop} {v : Bool} {K : Heap → Prop} (h : RelA H0 H p m n c ad R) (hi : i < m) (hk : k < n)
    (hK : ∀ H', RelA H0 H' p m n c ad (upd R i k v) → K H') : (0 ≤ (k : Int) ∧ (k : Int) < ((n : Nat) : Int)) ∧ ptr (some ⟨ad i, 0, none⟩) fun q => wr (Addr.add q ((k : Int).toNat * 1)) [.bool v] H K := by
  obtain ⟨h1, h2, h3, h4, h5⟩ := h
  obtain ⟨a1, a2, a3⟩ := h3 i hi
  refine ⟨⟨by omega, by omega⟩, ?_⟩
  simp only [ptr_some, add_at, Int.toNat_natCast, Nat.mul_one, Nat.zero_add]
  refine wr_at a1 (by rw [rowC_size]; simp; omega) rfl ?_
  rw [upd_row hk]
  refine hK _ ⟨h1.set a2 _, h2.keep fun j hj _ => Heap.set_ne _ _ (fun e => a3 (e ▸ hj)), fun j hj => ⟨?_, (h3 j hj).2⟩, h4, h5⟩
  by_cases e : j = i
  · subst e; exact Heap.set_self _ _ _
  · rw [Heap.set_ne _ _ (fun e' => e (h4 j i hj hi e')), (h3 j hj).1]
    congr 2
    exact rowC_congr fun k' _ => by simp [upd, e]
theorem sl79 : SlT Pr 79 1 := .of (by kernel_rfl)
theorem rowC_false (i n : Nat) : rowC (fun _ _ => False) i n = (rep n [Value.bool false]).toArray := by
  rw [rep_one]
  unfold rowC
  congr 1
  apply List.ext_getElem
  · simp
  · intro j h1 h2; simp
theorem rempty_c {H : Heap} {n : Nat} {Q : Value → Heap → Prop} {E : Chain → Heap → Prop} (hn : n ≤ 65536) (hk : ∀ H' p c ad, RelA H H' p n n c ad (fun _ _ => False) → Q (.slice p n c) H') : Does Pr 99 #[.int .i64 (n : Nat)] H Q E := by
  refine zqs_fn _ Q E H ?_
  unfold zqs zqs_15 zqs_11 zqs_8
  refine ⟨fun p l c x H' => ∃ (k : Nat) (ad : Nat → Nat), x = (k : Nat) ∧ l = k ∧ k ≤ n ∧ RelA H H' p k n c ad (fun _ _ => False), fun _ _ _ x _ => ((n : Int) - x).toNat,
    ⟨0, fun _ => 0, rfl, rfl, by omega, Ext.refl _, Vec.nil _ 1, fun i hi => by omega, fun i j hi => by omega, fun j hj => by obtain ⟨a, ha, _⟩ := hj; cases ha⟩, ?_⟩
  rintro p l c x H1 ⟨k, ad, rfl, rfl, hkn, h1, h2, h3, h4, h5⟩
  unfold zqs_5
  refine sel_dec (fun hlt => ?_) (fun hge => ?_)
  · have hlt : l < n := by omega
    unfold zqs_3
    refine ⟨⟨by omega, by omega, by omega, by omega⟩, ?_⟩
    rw [Int.toNat_natCast]
    refine nw_ext fun i H2 hi he2 hc2 => ?_
    refine nw_ext fun i3 H3 hi3 he3 hc3 => ?_
    have hw : IntKind.wrap .i64 ((l : Int) + 1) = ((l + 1 : Nat) : Int) := by rw [IntWalk.i64_in _ (by omega)]; omega
    rw [hw]
    refine app_one (sz := 1) (ws := [.slice (some ⟨i, 0, none⟩) n n]) sl79 ((h2.ext he2).ext he3) hc3 rfl rfl (by omega) (by omega) fun p' c' H4 hv4 hs4 hb4 => ?_
    have hip : ¬ blk p i := fun hb => h2.known hb hi
    have hia : ∀ j, j < l → ad j ≠ i := fun j hj e => by rw [← e, (h3 j hj).1] at hi; cases hi
    refine ⟨⟨l + 1, fun j => if j = l then i else ad j, rfl, rfl, by omega, ext_app ((h1.trans he2).trans he3) h5 hs4, ?_, fun j hj => ?_, fun j j' hj hj' e => ?_, fresh_app ((h1.trans he2).trans he3) h5 hb4⟩, by dsimp only; omega⟩
    · have : rowsV (fun j => if j = l then i else ad j) n (l + 1) = rowsV ad n l ++ [.slice (some ⟨i, 0, none⟩) n n] := by
        unfold rowsV
        rw [List.range_succ, List.map_append]
        congr 1
        · refine List.map_congr_left fun j hj => ?_
          rw [List.mem_range] at hj
          unfold rowV
          simp only [if_neg (show ¬ j = l by omega)]
        · simp [rowV]
      rw [this]; exact hv4
    · dsimp only
      by_cases e : j = l
      · subst e
        simp only [if_true]
        have h13 : H3 i = some (.cells (rep n [Value.bool false]).toArray 4 (0, 0)) := he3 _ _ hc2
        refine ⟨?_, h1.free hi, fun hb => ?_⟩
        · rw [hs4 i hip (by rw [h13]; simp), h13, rowC_false]
        · rcases hb4 i hb with h | h
          · exact hip h
          · rw [h13] at h; cases h
      · simp only [if_neg e]
        obtain ⟨a1, a2, a3⟩ := h3 j (by omega)
        have a13 : H3 (ad j) = some (.cells (rowC (fun _ _ => False) j n) 4 (0, 0)) := he3 _ _ (he2 _ _ a1)
        refine ⟨?_, a2, fun hb => ?_⟩
        · rw [hs4 _ a3 (by rw [a13]; simp), a13]
        · rcases hb4 _ hb with h | h
          · exact a3 h
          · rw [a13] at h; cases h
    · dsimp only at e
      by_cases e1 : j = l <;> by_cases e2 : j' = l
      · omega
      · rw [if_pos e1, if_neg e2] at e; exact absurd e.symm (hia j' (by omega))
      · rw [if_neg e1, if_pos e2] at e; exact absurd e (hia j (by omega))
      · rw [if_neg e1, if_neg e2] at e; exact h4 j j' (by omega) (by omega) e
  · obtain rfl : l = n := by omega
    unfold zqs_1
    exact hk H1 p c ad ⟨h1, h2, h3, h4, h5⟩
theorem wrap_succ {k : Nat} (h : k ≤ 1048576) : IntKind.wrap .i64 ((k : Int) + 1) = ((k + 1 : Nat) : Int) := by rw [IntWalk.i64_in _ (by omega)]; omega
theorem rstay_c {H : Heap} {n : Nat} {Q : Value → Heap → Prop} {E : Chain → Heap → Prop} (hn : n ≤ 65536) (hk : ∀ H' p c ad, RelA H H' p n n c ad (fun i k => k = i) → Q (.slice p n c) H') : Does Pr 87 #[.int .i64 (n : Nat)] H Q E := by
  refine zqz1_fn _ Q E H ?_
  unfold zqz1 zqz1_15
  refine rempty_c hn fun H1 p c ad h1 => ⟨_, _, _, rfl, ?_⟩
  unfold zqz1_11 zqz1_8
  refine ⟨fun x H' => ∃ k : Nat, x = (k : Nat) ∧ k ≤ n ∧ RelA H H' p n n c ad (fun i' k' => k' = i' ∧ i' < k), fun x _ => ((n : Int) - x).toNat, ⟨0, rfl, by omega, h1.congr fun i k _ _ => by simp⟩, ?_⟩
  rintro x H2 ⟨k, rfl, hkn, h2⟩
  unfold zqz1_5
  refine sel_dec (fun hlt => ?_) (fun hge => ?_)
  · have hlt : k < n := by omega
    unfold zqz1_3
    refine vec_row h2.2.1 hlt (h2.put hlt hlt fun H3 h3 => ?_)
    rw [wrap_succ (by omega)]
    refine ⟨⟨k + 1, rfl, by omega, h3.congr fun i' k' _ _ => ?_⟩, by dsimp only; omega⟩
    simp [upd]; omega
  · obtain rfl : k = n := by omega
    unfold zqz1_1
    exact hk H2 p c ad (h2.congr fun i' k' _ _ => by constructor <;> (intro h; first | exact h.1 | exact ⟨h, by omega⟩))
open Classical in
theorem rboth_c {H : Heap} {n ca cb : Nat} {pa pb : Option Addr} {A B : Nat → Nat → Prop} {Q : Value → Heap → Prop} {E : Chain → Heap → Prop} (hn : n ≤ 65536) (ha : RelH H pa n ca A) (hb : RelH H pb n cb B)
    (hk : ∀ H' p c ad, RelA H H' p n n c ad (fun i k => A i k ∨ B i k) → Q (.slice p n c) H') : Does Pr 85 #[.slice pa n ca, .slice pb n cb] H Q E := by
  refine zqx1_fn _ _ _ _ _ _ Q E H ?_
  unfold zqx1 zqx1_31
  refine rempty_c hn fun H1 p c ad h1 => ⟨_, _, _, rfl, ?_⟩
  unfold zqx1_27 zqx1_24
  refine ⟨fun x H' => ∃ i : Nat, x = (i : Nat) ∧ i ≤ n ∧ RelA H H' p n n c ad (fun i' k' => i' < i ∧ (A i' k' ∨ B i' k')), fun x _ => ((n : Int) - x).toNat, ⟨0, rfl, by omega, h1.congr fun i k _ _ => by simp⟩, ?_⟩
  rintro x H2 ⟨i, rfl, hin, h2⟩
  unfold zqx1_21
  refine sel_dec (fun hlt => ?_) (fun hge => ?_)
  · have hlt : i < n := by omega
    unfold zqx1_16 zqx1_13
    refine ⟨fun x H' => ∃ k : Nat, x = (k : Nat) ∧ k ≤ n ∧ RelA H H' p n n c ad (fun i' k' => (i' < i ∨ (i' = i ∧ k' < k)) ∧ (A i' k' ∨ B i' k')), fun x _ => ((n : Int) - x).toNat, ⟨0, rfl, by omega, h2.congr fun i k _ _ => by simp⟩, ?_⟩
    rintro x H3 ⟨k, rfl, hkn, h3⟩
    unfold zqx1_10
    refine sel_dec (fun hlk => ?_) (fun hgk => ?_)
    · have hlk : k < n := by omega
      have next : ∀ (v : Bool) (H4 : Heap), (v = true ↔ A i k ∨ B i k) → RelA H H4 p n n c ad (upd (fun i' k' => (i' < i ∨ (i' = i ∧ k' < k)) ∧ (A i' k' ∨ B i' k')) i k v) →
          zqx1_5 (fun x6' H1 => (∃ i : Nat, x6' = (i : Nat) ∧ i ≤ n ∧ RelA H H1 p n n c ad (fun i' k' => i' < i ∧ (A i' k' ∨ B i' k'))) ∧ ((n : Int) - x6').toNat < ((n : Int) - (i : Nat)).toNat)
            (fun x7' H1 => (∃ k : Nat, x7' = (k : Nat) ∧ k ≤ n ∧ RelA H H1 p n n c ad (fun i' k' => (i' < i ∨ (i' = i ∧ k' < k)) ∧ (A i' k' ∨ B i' k'))) ∧ ((n : Int) - x7').toNat < ((n : Int) - (k : Nat)).toNat)
            Q E pa n ca pb n cb p n c i k H4 := by
        intro v H4 hv h4
        unfold zqx1_5
        rw [wrap_succ (by omega)]
        refine ⟨⟨k + 1, rfl, by omega, h4.congr fun i' k' _ _ => ?_⟩, by omega⟩
        unfold upd
        by_cases e : i' = i ∧ k' = k
        · obtain ⟨rfl, rfl⟩ := e
          rw [hv]
          constructor
          · rintro (h | h)
            · exact ⟨.inr ⟨rfl, by omega⟩, h.2.2⟩
            · exact absurd ⟨rfl, rfl⟩ h.1
          · rintro ⟨_, h⟩; exact .inl ⟨rfl, rfl, h⟩
        · have : (i' < i ∨ i' = i ∧ k' < k + 1) ↔ (i' < i ∨ i' = i ∧ k' < k) := by omega
          rw [this]
          constructor
          · rintro (h | h)
            · exact absurd ⟨h.1, h.2.1⟩ e
            · exact h.2
          · intro h; exact .inr ⟨e, h⟩
      unfold zqx1_7
      refine vec_row h3.2.1 hlt ?_
      refine (ha.ext h3.1).get hlt hlk (sel_dec (fun hA => ?_) (fun hA => ?_))
      · exact h3.put hlt hlk fun H4 h4 => next true H4 ⟨fun _ => .inl hA, fun _ => rfl⟩ h4
      · refine (hb.ext h3.1).get hlt hlk ?_
        exact h3.put hlt hlk fun H4 h4 => next _ H4 (by rw [decide_eq_true_iff]; exact ⟨.inr, fun h => h.resolve_left hA⟩) h4
    · obtain rfl : k = n := by omega
      unfold zqx1_3
      rw [wrap_succ (by omega)]
      refine ⟨⟨i + 1, rfl, by omega, h3.congr fun i' k' _ hk' => ?_⟩, by show ((k : Int) - ((i + 1 : Nat) : Int)).toNat < ((k : Int) - (i : Nat)).toNat; omega⟩
      have : (i' < i ∨ i' = i ∧ k' < k) ↔ i' < i + 1 := by omega
      rw [this]
  · obtain rfl : i = n := by omega
    unfold zqx1_1
    exact hk H2 p c ad (h2.congr fun i' k' hi' _ => ⟨fun h => h.2, fun h => ⟨hi', h⟩⟩)
open Classical in
theorem rsome_c {H : Heap} {n ca : Nat} {pa : Option Addr} {A : Nat → Nat → Prop} {Q : Value → Heap → Prop} {E : Chain → Heap → Prop} (hn : n ≤ 65536) (ha : RelH H pa n ca A)
    (hk : ∀ b : Bool, (b = true ↔ ∃ i k, i < n ∧ k < n ∧ A i k) → Q (.bool b) H) : Does Pr 54 #[.slice pa n ca] H Q E := by
  refine zqu1_fn _ _ _ Q E H ?_
  unfold zqu1 zqu1_27 zqu1_24
  refine ⟨fun x H' => ∃ i : Nat, x = (i : Nat) ∧ i ≤ n ∧ H' = H ∧ ∀ i' k', i' < i → k' < n → ¬ A i' k', fun x _ => ((n : Int) - x).toNat, ⟨0, rfl, by omega, rfl, fun _ _ h => by omega⟩, ?_⟩
  rintro x H2 ⟨i, rfl, hin, rfl, hno⟩
  unfold zqu1_21
  refine sel_dec (fun hlt => ?_) (fun hge => ?_)
  · have hlt : i < n := by omega
    unfold zqu1_16 zqu1_13
    refine ⟨fun x H' => ∃ k : Nat, x = (k : Nat) ∧ k ≤ n ∧ H' = H2 ∧ ∀ k', k' < k → ¬ A i k', fun x _ => ((n : Int) - x).toNat, ⟨0, rfl, by omega, rfl, fun _ h => by omega⟩, ?_⟩
    rintro x H3 ⟨k, rfl, hkn, rfl, hno2⟩
    unfold zqu1_10
    refine sel_dec (fun hlk => ?_) (fun hgk => ?_)
    · have hlk : k < n := by omega
      unfold zqu1_7
      refine ha.get hlt hlk (sel_dec (fun hA => ?_) (fun hA => ?_))
      · exact hk true ⟨fun _ => ⟨i, k, hlt, hlk, hA⟩, fun _ => rfl⟩
      · unfold zqu1_5
        rw [wrap_succ (by omega)]
        refine ⟨⟨k + 1, rfl, by omega, rfl, fun k' hk' => ?_⟩, by dsimp only; omega⟩
        by_cases e : k' = k
        · rw [e]; exact hA
        · exact hno2 k' (by omega)
    · obtain rfl : k = n := by omega
      unfold zqu1_3
      rw [wrap_succ (by omega)]
      refine ⟨⟨i + 1, rfl, by omega, rfl, fun i' k' hi' hk' => ?_⟩, by show ((k : Int) - ((i + 1 : Nat) : Int)).toNat < ((k : Int) - (i : Nat)).toNat; omega⟩
      by_cases e : i' = i
      · rw [e]; exact hno2 k' hk'
      · exact hno i' k' (by omega) hk'
  · obtain rfl : i = n := by omega
    unfold zqu1_1
    exact hk false ⟨fun h => (by cases h), fun ⟨i', k', h1, h2, h3⟩ => absurd h3 (hno i' k' h1 h2)⟩
end Go.Proofs.Ytaffcoiomggpfaa

/- Relations between places: package r09 (2): then, star. -/
namespace Go.Proofs.Ytaffcoiomggpfaa
open Go.V
attribute [local irreducible] app
set_option linter.constructorNameAsVariable false
set_option linter.unusedVariables false
theorem sel_cl {p : Prop} {inst : Decidable p} {X Y : Prop} (h1 : p → X) (h2 : ¬ p → Y) : sel (@decide p inst) X Y :=
  sel_mk (fun h => h1 (by simpa using h)) (fun h => h2 (by simpa using h))
theorem dec_cl {p : Prop} {inst : Decidable p} : (@decide p inst = true) ↔ p := by simp
open Classical in
set_option maxHeartbeats 1000000 in
theorem rthen_c {H : Heap} {n ca cb : Nat} {pa pb : Option Addr} {A B : Nat → Nat → Prop} {Q : Value → Heap → Prop} {E : Chain → Heap → Prop} (hn : n ≤ 65536) (ha : RelH H pa n ca A) (hb : RelH H pb n cb B)
    (hk : ∀ H' p c ad, RelA H H' p n n c ad (fun i k => ∃ j, j < n ∧ A i j ∧ B j k) → Q (.slice p n c) H') : Does Pr 84 #[.slice pa n ca, .slice pb n cb] H Q E := by
  refine zqw1_fn _ _ _ _ _ _ Q E H ?_
  unfold zqw1 zqw1_47
  refine rempty_c hn fun H1 p c ad h1 => ⟨_, _, _, rfl, ?_⟩
  unfold zqw1_43 zqw1_40
  refine ⟨fun x H' => ∃ i : Nat, x = (i : Nat) ∧ i ≤ n ∧ RelA H H' p n n c ad (fun i' k' => i' < i ∧ ∃ j, j < n ∧ A i' j ∧ B j k'), fun x _ => ((n : Int) - x).toNat, ⟨0, rfl, by omega, h1.congr fun i k _ _ => by simp⟩, ?_⟩
  rintro x H2 ⟨i, rfl, hin, h2⟩
  unfold zqw1_37
  refine sel_dec (fun hlt => ?_) (fun hge => ?_)
  · have hlt : i < n := by omega
    unfold zqw1_32 zqw1_29
    refine ⟨fun x H' => ∃ j : Nat, x = (j : Nat) ∧ j ≤ n ∧ RelA H H' p n n c ad (fun i' k' => (i' < i ∧ ∃ j, j < n ∧ A i' j ∧ B j k') ∨ (i' = i ∧ ∃ j', j' < j ∧ A i' j' ∧ B j' k')), fun x _ => ((n : Int) - x).toNat, ⟨0, rfl, by omega, h2.congr fun i k _ _ => by simp⟩, ?_⟩
    rintro x H3 ⟨j, rfl, hjn, h3⟩
    unfold zqw1_26
    refine sel_dec (fun hlj => ?_) (fun hgj => ?_)
    · have hlj : j < n := by omega
      unfold zqw1_21 zqw1_18
      refine ⟨fun x H' => ∃ k : Nat, x = (k : Nat) ∧ k ≤ n ∧ (0 < k → A i j) ∧ RelA H H' p n n c ad (fun i' k' => (i' < i ∧ ∃ j, j < n ∧ A i' j ∧ B j k') ∨ (i' = i ∧ ((∃ j', j' < j ∧ A i' j' ∧ B j' k') ∨ (k' < k ∧ A i j ∧ B j k')))), fun x _ => ((n : Int) - x).toNat, ⟨0, rfl, by omega, fun h => by omega, h3.congr fun i k _ _ => by simp⟩, ?_⟩
      rintro x H4 ⟨k, rfl, hkn, hA0, h4⟩
      have stop : (A i j → k = n) → zqw1_5 (fun x6' H1 => (∃ i : Nat, x6' = (i : Nat) ∧ i ≤ n ∧ RelA H H1 p n n c ad (fun i' k' => i' < i ∧ ∃ j, j < n ∧ A i' j ∧ B j k')) ∧ ((n : Int) - x6').toNat < ((n : Int) - (i : Nat)).toNat)
            (fun x7' H1 => (∃ j : Nat, x7' = (j : Nat) ∧ j ≤ n ∧ RelA H H1 p n n c ad (fun i' k' => (i' < i ∧ ∃ j, j < n ∧ A i' j ∧ B j k') ∨ (i' = i ∧ ∃ j', j' < j ∧ A i' j' ∧ B j' k'))) ∧ ((n : Int) - x7').toNat < ((n : Int) - (j : Nat)).toNat)
            Q E pa n ca pb n cb p n c i j H4 := by
        intro hs
        unfold zqw1_5
        rw [wrap_succ (by omega)]
        refine ⟨⟨j + 1, rfl, by omega, h4.congr fun i' k' _ hk' => ?_⟩, by omega⟩
        refine or_congr Iff.rfl (and_congr_right fun hi' => ?_)
        subst hi'
        constructor
        · rintro (⟨j', h1, h2⟩ | ⟨h1, h2⟩)
          · exact ⟨j', by omega, h2⟩
          · exact ⟨j, by omega, h2⟩
        · rintro ⟨j', h1, h2⟩
          by_cases e : j' = j
          · subst e; exact .inr ⟨by rw [hs h2.1]; exact hk', h2⟩
          · exact .inl ⟨j', by omega, h2⟩
      unfold zqw1_14
      refine sel_dec (fun hlk => ?_) (fun hgk => ?_)
      · have hlk : k < n := by omega
        refine (ha.ext h4.1).get hlt hlj ?_
        unfold zqw1_12
        refine sel_dec (fun hA => ?_) (fun hA => stop fun h => absurd h hA)
        unfold zqw1_9
        have next : ∀ (v : Bool) (H5 : Heap), (v = true ↔ (∃ j', j' < j ∧ A i j' ∧ B j' k) ∨ B j k) →
            RelA H H5 p n n c ad (upd (fun i' k' => (i' < i ∧ ∃ j, j < n ∧ A i' j ∧ B j k') ∨ (i' = i ∧ ((∃ j', j' < j ∧ A i' j' ∧ B j' k') ∨ (k' < k ∧ A i j ∧ B j k')))) i k v) →
            RelA H H5 p n n c ad (fun i' k' => (i' < i ∧ ∃ j, j < n ∧ A i' j ∧ B j k') ∨ (i' = i ∧ ((∃ j', j' < j ∧ A i' j' ∧ B j' k') ∨ (k' < k + 1 ∧ A i j ∧ B j k')))) := by
          intro v H5 hv h5
          refine h5.congr fun i' k' _ _ => ?_
          unfold upd
          by_cases e : i' = i ∧ k' = k
          · obtain ⟨rfl, rfl⟩ := e
            rw [hv]
            constructor
            · rintro (⟨_, _, h | h⟩ | h)
              · exact .inr ⟨rfl, .inl h⟩
              · exact .inr ⟨rfl, .inr ⟨by omega, hA, h⟩⟩
              · exact absurd ⟨rfl, rfl⟩ h.1
            · rintro (h | ⟨_, h | h⟩)
              · omega
              · exact .inl ⟨rfl, rfl, .inl h⟩
              · exact .inl ⟨rfl, rfl, .inr h.2.2⟩
          · have hk1 : i' = i → (k' < k + 1 ↔ k' < k) := fun h => by omega
            constructor
            · rintro (h | ⟨_, h | ⟨h1, h2 | ⟨h2, h3⟩⟩⟩)
              · exact absurd ⟨h.1, h.2.1⟩ e
              · exact .inl h
              · exact .inr ⟨h1, .inl h2⟩
              · exact .inr ⟨h1, .inr ⟨by omega, h3⟩⟩
            · rintro (h | ⟨h1, h2 | ⟨h2, h3⟩⟩)
              · exact .inr ⟨e, .inl h⟩
              · exact .inr ⟨e, .inr ⟨h1, .inl h2⟩⟩
              · exact .inr ⟨e, .inr ⟨h1, .inr ⟨(hk1 h1).1 h2, h3⟩⟩⟩
        have hcell : ((i < i ∧ ∃ j, j < n ∧ A i j ∧ B j k) ∨ (i = i ∧ ((∃ j', j' < j ∧ A i j' ∧ B j' k) ∨ (k < k ∧ A i j ∧ B j k)))) ↔ ∃ j', j' < j ∧ A i j' ∧ B j' k := by
          constructor
          · rintro (h | ⟨_, h | h⟩)
            · omega
            · exact h
            · omega
          · intro h; exact .inr ⟨rfl, .inl h⟩
        refine vec_row h4.2.1 hlt (vec_row h4.2.1 hlt (cell_row (h4.2.2.1 i hlt).1 hlk ?_))
        refine sel_cl (fun hO => ?_) (fun hO => ?_)
        · refine h4.put hlt hlk fun H5 h5 => ?_
          unfold zqw1_7
          rw [wrap_succ (by omega)]
          exact ⟨⟨k + 1, rfl, by omega, fun _ => hA, next true H5 ⟨fun _ => .inl (hcell.1 hO), fun _ => rfl⟩ h5⟩, by dsimp only; omega⟩
        · refine (hb.ext h4.1).get hlj hlk ?_
          refine h4.put hlt hlk fun H5 h5 => ?_
          unfold zqw1_7
          rw [wrap_succ (by omega)]
          exact ⟨⟨k + 1, rfl, by omega, fun _ => hA, next _ H5 (by rw [decide_eq_true_iff]; exact ⟨.inr, fun h => h.resolve_left fun h' => hO (hcell.2 h')⟩) h5⟩, by dsimp only; omega⟩
      · unfold zqw1_12
        exact sel_ff (stop fun _ => by omega)
    · obtain rfl : j = n := by omega
      unfold zqw1_3
      rw [wrap_succ (by omega)]
      refine ⟨⟨i + 1, rfl, by omega, h3.congr fun i' k' _ hk' => ?_⟩, by show ((j : Int) - ((i + 1 : Nat) : Int)).toNat < ((j : Int) - (i : Nat)).toNat; omega⟩
      constructor
      · rintro (h | ⟨h1, h2⟩)
        · exact ⟨by omega, h.2⟩
        · exact ⟨by omega, h2⟩
      · rintro ⟨h1, h2⟩
        by_cases e : i' = i
        · exact .inr ⟨e, h2⟩
        · exact .inl ⟨by omega, h2⟩
  · obtain rfl : i = n := by omega
    unfold zqw1_1
    exact hk H2 p c ad (h2.congr fun i' k' hi' _ => ⟨fun h => h.2, fun h => ⟨hi', h⟩⟩)
/-- Warshall: what is reached over places below j. -/
def War (R : Nat → Nat → Prop) : Nat → Nat → Nat → Prop
  | 0, i, k => R i k
  | j + 1, i, k => War R j i k ∨ (War R j i j ∧ War R j j k)
theorem War.trans (R : Nat → Nat → Prop) : ∀ (j m i k : Nat), m < j → War R j i m → War R j m k → War R j i k
  | 0, m, i, k, h, _, _ => by omega
  | j + 1, m, i, k, h, h1, h2 => by
    unfold War at h1 h2 ⊢
    by_cases e : m = j
    · subst e
      exact .inr ⟨h1.elim id (·.1), h2.elim id (·.2)⟩
    · have T := fun a b => War.trans R j m a b (by omega)
      rcases h1 with h1 | ⟨h1, h3⟩ <;> rcases h2 with h2 | ⟨h2, h4⟩
      · exact .inl (T _ _ h1 h2)
      · exact .inr ⟨T _ _ h1 h2, h4⟩
      · exact .inr ⟨h1, T _ _ h3 h2⟩
      · exact .inr ⟨h1, h4⟩
theorem War.mono (R : Nat → Nat → Prop) {i k : Nat} (h : R i k) : ∀ j, War R j i k
  | 0 => h
  | j + 1 => .inl (War.mono R h j)
theorem Star.trans {R : Nat → Nat → Prop} {i j k : Nat} (h : Star R i j) (h2 : Star R j k) : Star R i k := by
  induction h with
  | none => exact h2
  | more h1 _ ih => exact .more h1 (ih h2)
theorem War.sound {A R : Nat → Nat → Prop} (hR : ∀ i k, R i k → Star A i k) : ∀ (j i k : Nat), War R j i k → Star A i k
  | 0, i, k, h => hR i k h
  | j + 1, i, k, h => by
    unfold War at h
    rcases h with h | ⟨h1, h2⟩
    · exact War.sound hR j i k h
    · exact (War.sound hR j i j h1).trans (War.sound hR j j k h2)
theorem war_star {A : Nat → Nat → Prop} {n : Nat} (hA : ∀ i k, A i k → i < n → k < n) {i k : Nat} (hi : i < n) : War (fun i k => k = i ∨ A i k) n i k ↔ Star A i k := by
  constructor
  · refine War.sound (fun i k h => ?_) n i k
    rcases h with rfl | h
    · exact .none _
    · exact .more h (.none _)
  · intro h
    induction h with
    | none i => exact War.mono _ (.inl rfl) n
    | more h1 h2 ih =>
      have := hA _ _ h1 hi
      exact War.trans _ n _ _ _ this (War.mono _ (.inr h1) n) (ih this)
open Classical in
set_option maxHeartbeats 1000000 in
theorem rstar_c {H : Heap} {n ca : Nat} {pa : Option Addr} {A : Nat → Nat → Prop} {Q : Value → Heap → Prop} {E : Chain → Heap → Prop} (hn : n ≤ 65536) (ha : RelH H pa n ca A) (hA : ∀ i k, A i k → i < n → k < n)
    (hk : ∀ H' p c ad, RelA H H' p n n c ad (Star A) → Q (.slice p n c) H') : Does Pr 86 #[.slice pa n ca] H Q E := by
  refine zqy1_fn _ _ _ Q E H ?_
  unfold zqy1 zqy1_47
  refine rstay_c hn fun H0 p0 c0 ad0 h0 => ⟨_, _, _, rfl, ?_⟩
  refine rboth_c hn h0.rel (ha.ext h0.1) fun H1 p c ad h1 => ⟨_, _, _, rfl, ?_⟩
  replace h1 := h1.base h0.1
  unfold zqy1_43 zqy1_40
  refine ⟨fun x H' => ∃ j : Nat, x = (j : Nat) ∧ j ≤ n ∧ RelA H H' p n n c ad (War (fun i k => k = i ∨ A i k) j), fun x _ => ((n : Int) - x).toNat, ⟨0, rfl, by omega, h1⟩, ?_⟩
  rintro x H2 ⟨j, rfl, hjn, h2⟩
  unfold zqy1_37
  have hW := fun (i k : Nat) (hi : i < n) => war_star (A := A) (n := n) hA (i := i) (k := k) hi
  generalize (fun i k => k = i ∨ A i k) = R0 at h1 h2 hW
  refine sel_dec (fun hlj => ?_) (fun hgj => ?_)
  · have hlj : j < n := by omega
    unfold zqy1_32 zqy1_29
    refine ⟨fun x H' => ∃ i : Nat, x = (i : Nat) ∧ i ≤ n ∧ RelA H H' p n n c ad (fun i' k' => (i' < i ∧ War R0 (j + 1) i' k') ∨ (¬ i' < i ∧ War R0 j i' k')), fun x _ => ((n : Int) - x).toNat, ⟨0, rfl, by omega, h2.congr fun i k _ _ => by simp⟩, ?_⟩
    rintro x H3 ⟨i, rfl, hin, h3⟩
    unfold zqy1_26
    refine sel_dec (fun hlt => ?_) (fun hge => ?_)
    · have hlt : i < n := by omega
      unfold zqy1_21 zqy1_18
      refine ⟨fun x H' => ∃ k : Nat, x = (k : Nat) ∧ k ≤ n ∧ RelA H H' p n n c ad (fun i' k' => (i' < i ∧ War R0 (j + 1) i' k') ∨ (¬ i' < i ∧ War R0 j i' k') ∨ (i' = i ∧ k' < k ∧ War R0 j i j ∧ War R0 j j k')), fun x _ => ((n : Int) - x).toNat, ⟨0, rfl, by omega, h3.congr fun i k _ _ => by simp⟩, ?_⟩
      rintro x H4 ⟨k, rfl, hkn, h4⟩
      have stop : (War R0 j i j → k = n) → zqy1_5 (fun x4' H1 => (∃ j : Nat, x4' = (j : Nat) ∧ j ≤ n ∧ RelA H H1 p n n c ad (War R0 j)) ∧ ((n : Int) - x4').toNat < ((n : Int) - (j : Nat)).toNat)
            (fun x5' H1 => (∃ i : Nat, x5' = (i : Nat) ∧ i ≤ n ∧ RelA H H1 p n n c ad (fun i' k' => (i' < i ∧ War R0 (j + 1) i' k') ∨ (¬ i' < i ∧ War R0 j i' k'))) ∧ ((n : Int) - x5').toNat < ((n : Int) - (i : Nat)).toNat)
            Q E pa n ca p n c j i H4 := by
        intro hs
        unfold zqy1_5
        rw [wrap_succ (by omega)]
        refine ⟨⟨i + 1, rfl, by omega, h4.congr fun i' k' _ hk' => ?_⟩, by omega⟩
        have eW : War R0 (j + 1) i' k' ↔ War R0 j i' k' ∨ (War R0 j i' j ∧ War R0 j j k') := Iff.rfl
        constructor
        · rintro (⟨h1, h2⟩ | ⟨h1, h2⟩ | ⟨h1, h2, h3⟩)
          · exact .inl ⟨by omega, h2⟩
          · by_cases e : i' = i
            · exact .inl ⟨by omega, eW.2 (.inl h2)⟩
            · exact .inr ⟨by omega, h2⟩
          · subst h1; exact .inl ⟨by omega, eW.2 (.inr h3)⟩
        · rintro (⟨h1, h2⟩ | ⟨h1, h2⟩)
          · by_cases e : i' = i
            · subst e
              rcases eW.1 h2 with h | h
              · exact .inr (.inl ⟨by omega, h⟩)
              · exact .inr (.inr ⟨rfl, by rw [hs h.1]; exact hk', h⟩)
            · exact .inl ⟨by omega, h2⟩
          · exact .inr (.inl ⟨by omega, h2⟩)
      unfold zqy1_14
      refine sel_dec (fun hlk => ?_) (fun hgk => ?_)
      · have hlk : k < n := by omega
        have hij : ((i < i ∧ War R0 (j + 1) i j) ∨ (¬ i < i ∧ War R0 j i j) ∨ (i = i ∧ j < k ∧ War R0 j i j ∧ War R0 j j j)) ↔ War R0 j i j := by
          constructor
          · rintro (h | h | h)
            · omega
            · exact h.2
            · exact h.2.2.1
          · intro h; exact .inr (.inl ⟨by omega, h⟩)
        have hik : ((i < i ∧ War R0 (j + 1) i k) ∨ (¬ i < i ∧ War R0 j i k) ∨ (i = i ∧ k < k ∧ War R0 j i j ∧ War R0 j j k)) ↔ War R0 j i k := by
          constructor
          · rintro (h | h | h)
            · omega
            · exact h.2
            · omega
          · intro h; exact .inr (.inl ⟨by omega, h⟩)
        have hjk : ((j < i ∧ War R0 (j + 1) j k) ∨ (¬ j < i ∧ War R0 j j k) ∨ (j = i ∧ k < k ∧ War R0 j i j ∧ War R0 j j k)) ↔ War R0 j j k := by
          constructor
          · rintro (h | h | h)
            · exact h.2.elim id (·.2)
            · exact h.2
            · omega
          · intro h
            by_cases e : j < i
            · exact .inl ⟨e, .inl h⟩
            · exact .inr (.inl ⟨e, h⟩)
        refine vec_row h4.2.1 hlt (cell_row (h4.2.2.1 i hlt).1 hlj ?_)
        unfold zqy1_12
        refine sel_cl (fun hO => ?_) (fun hO => stop fun h => absurd (hij.2 h) hO)
        have hO1 := hij.1 hO
        have next : ∀ (v : Bool) (H5 : Heap), (v = true ↔ War R0 j i k ∨ War R0 j j k) →
            RelA H H5 p n n c ad (upd (fun i' k' => (i' < i ∧ War R0 (j + 1) i' k') ∨ (¬ i' < i ∧ War R0 j i' k') ∨ (i' = i ∧ k' < k ∧ War R0 j i j ∧ War R0 j j k')) i k v) →
            RelA H H5 p n n c ad (fun i' k' => (i' < i ∧ War R0 (j + 1) i' k') ∨ (¬ i' < i ∧ War R0 j i' k') ∨ (i' = i ∧ k' < k + 1 ∧ War R0 j i j ∧ War R0 j j k')) := by
          intro v H5 hv h5
          refine h5.congr fun i' k' _ _ => ?_
          unfold upd
          by_cases e : i' = i ∧ k' = k
          · obtain ⟨rfl, rfl⟩ := e
            rw [hv]
            constructor
            · rintro (⟨_, _, h | h⟩ | h)
              · exact .inr (.inl ⟨by omega, h⟩)
              · exact .inr (.inr ⟨rfl, by omega, hO1, h⟩)
              · exact absurd ⟨rfl, rfl⟩ h.1
            · rintro (h | h | h)
              · omega
              · exact .inl ⟨rfl, rfl, .inl h.2⟩
              · exact .inl ⟨rfl, rfl, .inr h.2.2.2⟩
          · constructor
            · rintro (h | ⟨_, h | h | ⟨h1, h2, h3⟩⟩)
              · exact absurd ⟨h.1, h.2.1⟩ e
              · exact .inl h
              · exact .inr (.inl h)
              · exact .inr (.inr ⟨h1, by omega, h3⟩)
            · rintro (h | h | ⟨h1, h2, h3⟩)
              · exact .inr ⟨e, .inl h⟩
              · exact .inr ⟨e, .inr (.inl h)⟩
              · exact .inr ⟨e, .inr (.inr ⟨h1, by omega, h3⟩)⟩
        unfold zqy1_9
        refine vec_row h4.2.1 hlt (vec_row h4.2.1 hlt (cell_row (h4.2.2.1 i hlt).1 hlk ?_))
        refine sel_cl (fun hK => ?_) (fun hK => ?_)
        · refine h4.put hlt hlk fun H5 h5 => ?_
          unfold zqy1_7
          rw [wrap_succ (by omega)]
          exact ⟨⟨k + 1, rfl, by omega, next true H5 ⟨fun _ => .inl (hik.1 hK), fun _ => rfl⟩ h5⟩, by dsimp only; omega⟩
        · refine vec_row h4.2.1 hlj (cell_row (h4.2.2.1 j hlj).1 hlk ?_)
          refine h4.put hlt hlk fun H5 h5 => ?_
          unfold zqy1_7
          rw [wrap_succ (by omega)]
          exact ⟨⟨k + 1, rfl, by omega, next _ H5 (by rw [dec_cl, hjk]; exact ⟨.inr, fun h => h.resolve_left fun h' => hK (hik.2 h')⟩) h5⟩, by dsimp only; omega⟩
      · unfold zqy1_12
        exact sel_ff (stop fun _ => by omega)
    · obtain rfl : i = n := by omega
      unfold zqy1_3
      rw [wrap_succ (by omega)]
      refine ⟨⟨j + 1, rfl, by omega, h3.congr fun i' k' hi' _ => ?_⟩, by show ((i : Int) - ((j + 1 : Nat) : Int)).toNat < ((i : Int) - (j : Nat)).toNat; omega⟩
      exact ⟨fun h => h.elim (·.2) (fun h => absurd hi' h.1), fun h => .inl ⟨hi', h⟩⟩
  · obtain rfl : j = n := by omega
    unfold zqy1_1
    exact hk H2 p c ad (h2.congr fun i k hi _ => hW i k hi)
end Go.Proofs.Ytaffcoiomggpfaa

/- Relations between places: package r09 (3): leaf; what nodes mean, without fuel. -/
namespace Go.Proofs.Ytaffcoiomggpfaa
open Go.V
attribute [local irreducible] app
set_option linter.constructorNameAsVariable false
set_option linter.unusedVariables false

theorem byt_get {H : Heap} {p : Option Addr} {n c i : Nat} {bs : List UInt8} {w : UInt8} {K : Int → Prop} (h : Byt H p n c bs) (hw : bs[i]? = some w) (hK : K (w.toNat : Nat)) :
    (0 ≤ (i : Int) ∧ (i : Int) < ((n : Nat) : Int)) ∧ ptr p fun q => ldI .u8 (Addr.add q ((i : Int).toNat * 1)) H K := by
  obtain ⟨h1, h2, h3⟩ := h
  have hlt := (List.getElem?_eq_some_iff.1 hw).1
  refine ⟨⟨by omega, by omega⟩, ?_⟩
  cases p with
  | none =>
    have : bs.map byteV = [] := h3
    simp at this; subst this; simp at hlt
  | some ad =>
    have hcell : H.cell? (ad.add (0 + i)) = some (byteV w) := rd_get h3 (by simp [hw])
    rw [Nat.zero_add] at hcell
    simp only [ptr_some, Int.toNat_natCast, Nat.mul_one]
    exact ⟨(w.toNat : Nat), hcell, hK⟩
theorem byte_ten (w : UInt8) : (((w.toNat : Nat) : Int) == 10) = true ↔ w.toNat = 10 := by simp; omega
theorem text_at {bs : List UInt8} {i : Nat} {w : UInt8} (h : bs[i]? = some w) : (bs.map UInt8.toNat)[i]? = some w.toNat := by simp [h]
set_option maxHeartbeats 1000000 in
theorem rleaf_c {H : Heap} {x : Nd} {pt : Option Addr} {nt ct : Nat} {bs : List UInt8} {Q : Value → Heap → Prop} {E : Chain → Heap → Prop} (hn : nt < 65536) (hb : Byt H pt nt ct bs) (hkind : x.k = 1 ∨ x.k = 2 ∨ x.k = 8 ∨ x.k = 9)
    (hk : ∀ H' p c ad, RelA H H' p (nt + 1) (nt + 1) c ad (leafR x (bs.map UInt8.toNat)) → Q (.slice p (nt + 1) c) H') :
    Does Pr 88 #[.agg #[.int .i64 x.k, .int .i64 x.l, .int .i64 x.r, .int .u64 x.a, .int .u64 x.b, .int .u64 x.c, .int .u64 x.d], .slice pt nt ct] H Q E := by
  refine zqr_fn _ _ _ _ _ _ _ _ _ _ Q E H ?_
  unfold zqr
  refine nw_ext fun m H1 hm he1 hc1 => ?_
  replace hb := hb.ext he1
  have hlen := hb.1
  unfold zqr_57 zqr_54
  rw [wrap_succ (by omega)]
  refine rempty_c (n := nt + 1) (by omega) fun H2 p c ad h2 => ⟨_, _, _, rfl, ?_⟩
  unfold zqr_50 zqr_47
  refine ⟨fun y H' => ∃ i : Nat, y = (i : Nat) ∧ i ≤ nt + 1 ∧ RelA H1 H' p (nt + 1) (nt + 1) c ad (fun i' j' => i' < i ∧ leafR x (bs.map UInt8.toNat) i' j'), fun y _ => ((nt : Int) + 1 - y).toNat, ⟨0, rfl, by omega, h2.congr fun i k _ _ => by simp⟩, ?_⟩
  rintro y H3 ⟨i, rfl, hin, h3⟩
  unfold zqr_44
  refine sel_dec (fun hle => ?_) (fun hgt => ?_)
  · have hlt : i < nt + 1 := by omega
    have hb3 := hb.ext h3.1
    have hc3 : H3 m = some (.cells #[.int .i64 x.k, .int .i64 x.l, .int .i64 x.r, .int .u64 x.a, .int .u64 x.b, .int .u64 x.c, .int .u64 x.d] 48 (0, 0)) := h3.1 _ _ hc1
    have step : ∀ (R : Nat → Nat → Prop) (H' : Heap), RelA H1 H' p (nt + 1) (nt + 1) c ad R → (∀ i' j', i' < nt + 1 → j' < nt + 1 → (R i' j' ↔ i' < i + 1 ∧ leafR x (bs.map UInt8.toNat) i' j')) →
        zqr_3 (fun x7' H1' => (∃ i : Nat, x7' = (i : Nat) ∧ i ≤ nt + 1 ∧ RelA H1 H1' p (nt + 1) (nt + 1) c ad (fun i' j' => i' < i ∧ leafR x (bs.map UInt8.toNat) i' j')) ∧ ((nt : Int) + 1 - x7').toNat < ((nt : Int) + 1 - (i : Nat)).toNat)
          Q E pt nt ct (some ⟨m, 0, none⟩) nt p (nt + 1) c i H' := by
      intro R H' h' e
      unfold zqr_3
      rw [wrap_succ (by omega)]
      exact ⟨⟨i + 1, rfl, by omega, h'.congr e⟩, by omega⟩
    -- one pair on the diagonal is set
    have diag : ∀ (v : Bool) (H' : Heap), (∀ j', leafR x (bs.map UInt8.toNat) i j' ↔ j' = i ∧ v = true) → RelA H1 H' p (nt + 1) (nt + 1) c ad (upd (fun i' j' => i' < i ∧ leafR x (bs.map UInt8.toNat) i' j') i i v) →
        zqr_3 (fun x7' H1' => (∃ i : Nat, x7' = (i : Nat) ∧ i ≤ nt + 1 ∧ RelA H1 H1' p (nt + 1) (nt + 1) c ad (fun i' j' => i' < i ∧ leafR x (bs.map UInt8.toNat) i' j')) ∧ ((nt : Int) + 1 - x7').toNat < ((nt : Int) + 1 - (i : Nat)).toNat)
          Q E pt nt ct (some ⟨m, 0, none⟩) nt p (nt + 1) c i H' := by
      intro v H' hv h'
      refine step _ H' h' fun i' j' _ _ => ?_
      unfold upd
      by_cases e : i' = i
      · subst e
        rw [hv]
        constructor
        · rintro (h | h)
          · exact ⟨by omega, h.2⟩
          · omega
        · rintro ⟨_, h⟩; exact .inl ⟨rfl, h⟩
      · constructor
        · rintro (h | h)
          · exact absurd h.1 e
          · exact ⟨by omega, h.2.2⟩
        · rintro ⟨h1, h2⟩; exact .inr ⟨fun h => e h.1, by omega, h2⟩
    unfold zqr_39
    simp only [ptr_some]
    refine ldI_at (n := x.k) hc3 rfl ?_
    unfold zqr_35 zqr_33
    refine sel_beq (fun h1 => ?_) (fun h1 => ?_)
    · unfold zqr_5
      refine vec_row h3.2.1 hlt (h3.put hlt hlt fun H4 h4 => diag true H4 (fun j' => ?_) h4)
      unfold leafR
      rw [if_neg (by omega), if_neg (by omega), if_neg (by omega)]; simp
    unfold zqr_30 zqr_28
    refine sel_beq (fun h8 => ?_) (fun h8 => ?_)
    · have hl : ∀ j', leafR x (bs.map UInt8.toNat) i j' ↔ j' = i ∧ bolAt (bs.map UInt8.toNat) i := fun j' => by
        unfold leafR
        rw [if_neg (by omega), if_pos h8]
      unfold zqr_7
      refine vec_row h3.2.1 hlt (sel_beq (fun h0 => ?_) (fun h0 => ?_))
      · refine h3.put hlt hlt fun H4 h4 => diag true H4 (fun j' => ?_) h4
        rw [hl]
        exact and_congr_right fun _ => ⟨fun _ => rfl, fun _ => .inl (by omega)⟩
      · have hi1 : i - 1 < bs.length := by omega
        have hw : IntKind.wrap .i64 ((i : Int) - 1) = ((i - 1 : Nat) : Int) := by rw [IntWalk.i64_in _ (by omega)]; omega
        rw [hw]
        have hbk : bs[i - 1]? = some bs[i - 1] := List.getElem?_eq_getElem hi1
        generalize bs[i - 1] = w at hbk
        refine byt_get hb3 hbk (h3.put hlt hlt fun H4 h4 => diag _ H4 (fun j' => ?_) h4)
        rw [hl, byte_ten]
        refine and_congr_right fun _ => ?_
        unfold bolAt
        rw [text_at hbk]
        constructor
        · rintro (h | h)
          · omega
          · exact Option.some.inj h
        · intro h; exact .inr (by rw [h])
    unfold zqr_25 zqr_23
    refine sel_beq (fun h9 => ?_) (fun h9 => ?_)
    · have hl : ∀ j', leafR x (bs.map UInt8.toNat) i j' ↔ j' = i ∧ eolAt (bs.map UInt8.toNat) i := fun j' => by
        unfold leafR
        rw [if_neg (by omega), if_neg (by omega), if_pos h9]
      unfold zqr_9
      refine vec_row h3.2.1 hlt (sel_dec (fun hi => ?_) (fun hi => ?_))
      · have hi1 : i < bs.length := by omega
        have hbk : bs[i]? = some bs[i] := List.getElem?_eq_getElem hi1
        generalize bs[i] = w at hbk
        refine byt_get hb3 hbk (h3.put hlt hlt fun H4 h4 => diag _ H4 (fun j' => ?_) h4)
        rw [hl, byte_ten]
        refine and_congr_right fun _ => ?_
        unfold eolAt
        rw [text_at hbk]; simp
      · refine h3.put hlt hlt fun H4 h4 => diag false H4 (fun j' => ?_) h4
        rw [hl]
        refine and_congr_right fun _ => ?_
        unfold eolAt
        rw [List.getElem?_eq_none (by simp; omega)]; simp
    unfold zqr_20 zqr_18
    refine sel_beq (fun h2 => ?_) (fun h2 => by omega)
    unfold zqr_13
    have hl : ∀ i' j', leafR x (bs.map UInt8.toNat) i' j' ↔ j' = i' + 1 ∧ ∃ b, (bs.map UInt8.toNat)[i']? = some b ∧ x.set.has b = true := fun i' j' => by
      unfold leafR
      rw [if_pos h2]
    refine sel_dec (fun hi => ?_) (fun hi => ?_)
    · have hi1 : i < bs.length := by omega
      have hbk : bs[i]? = some bs[i] := List.getElem?_eq_getElem hi1
      generalize bs[i] = w at hbk
      have hw255 : w.toNat ≤ 255 := by have := w.toNat_lt; omega
      simp only [ptr_some]
      refine ⟨x.a, x.b, x.c, x.d, rd_at hc3 _ 3 0 fun j hj => by
        simp only [List.length_cons, List.length_nil] at hj
        match j, hj with
        | 0, _ => rfl
        | 1, _ => rfl
        | 2, _ => rfl
        | 3, _ => rfl, ?_⟩
      refine byt_get hb3 hbk ?_
      refine Has_c (s := x.set) hw255 fun H4 he4 => ⟨_, rfl, ?_⟩
      have h4 : RelA H1 H4 p (nt + 1) (nt + 1) c ad (fun i' j' => i' < i ∧ leafR x (bs.map UInt8.toNat) i' j') :=
        ⟨h3.1.trans he4, h3.2.1.ext he4, fun j hj => ⟨he4 _ _ (h3.2.2.1 j hj).1, (h3.2.2.1 j hj).2⟩, h3.2.2.2.1, h3.2.2.2.2⟩
      unfold zqr_11
      refine sel_mk (fun ht => ?_) (fun hf => ?_)
      · rw [wrap_succ (by omega)]
        refine vec_row h4.2.1 hlt (h4.put (k := i + 1) hlt (by omega) fun H5 h5 => step _ H5 h5 fun i' j' _ _ => ?_)
        unfold upd
        by_cases e : i' = i
        · subst e
          rw [hl, text_at hbk]
          constructor
          · rintro (h | h)
            · exact ⟨by omega, h.2.1, _, rfl, ht⟩
            · omega
          · rintro ⟨_, h, _⟩; exact .inl ⟨rfl, h, rfl⟩
        · constructor
          · rintro (h | h)
            · exact absurd h.1 e
            · exact ⟨by omega, h.2.2⟩
          · rintro ⟨h1, h2⟩; exact .inr ⟨fun h => e h.1, by omega, h2⟩
      · refine step _ H4 h4 fun i' j' _ _ => ?_
        by_cases e : i' = i
        · subst e
          rw [hl, text_at hbk]
          constructor
          · rintro ⟨h, _⟩; omega
          · rintro ⟨_, _, b, hb1, hb2⟩
            rw [Option.some.inj hb1] at hf
            rw [hf] at hb2; cases hb2
        · have : i' < i ↔ i' < i + 1 := by omega
          rw [this]
    · unfold zqr_11
      refine sel_ff (step _ H3 h3 fun i' j' _ _ => ?_)
      by_cases e : i' = i
      · subst e
        rw [hl, List.getElem?_eq_none (by simp; omega)]
        constructor
        · rintro ⟨h, _⟩; omega
        · rintro ⟨_, _, b, hb1, _⟩; cases hb1
      · have : i' < i ↔ i' < i + 1 := by omega
        rw [this]
  · obtain rfl : i = nt + 1 := by omega
    unfold zqr_1
    exact hk H3 p c ad ((h3.base he1).congr fun i' j' hi' _ => ⟨fun h => h.2, fun h => ⟨hi', h⟩⟩)
/-! ### The meaning without fuel -/
theorem kids_of {l : List Nd} {g : Nat → Nat} (hz : Sz l g) {n : Nat} (hn : n < l.length) :
    ((l.getD n default).k = 3 ∨ (l.getD n default).k = 4 → (l.getD n default).l.toNat < n ∧ (l.getD n default).r.toNat < n ∧ 0 ≤ (l.getD n default).l ∧ 0 ≤ (l.getD n default).r) ∧
    ((l.getD n default).k = 5 ∨ (l.getD n default).k = 6 ∨ (l.getD n default).k = 7 → (l.getD n default).l.toNat < n ∧ 0 ≤ (l.getD n default).l) ∧
    (¬ ((l.getD n default).k = 3 ∨ (l.getD n default).k = 4 ∨ (l.getD n default).k = 5 ∨ (l.getD n default).k = 6 ∨ (l.getD n default).k = 7) → (l.getD n default).k = 1 ∨ (l.getD n default).k = 2 ∨ (l.getD n default).k = 8 ∨ (l.getD n default).k = 9) := by
  obtain ⟨x, hx⟩ : ∃ x, l[n]? = some x := ⟨_, List.getElem?_eq_getElem hn⟩
  have hxd : l.getD n default = x := by rw [List.getD_eq_getElem?_getD, hx]; rfl
  obtain ⟨g1, g2, g3⟩ := hz n x hx
  rw [hxd]
  have hkk : (kidsOf x.k = 0 → x.k = 1 ∨ x.k = 2 ∨ x.k = 8 ∨ x.k = 9) ∧ (kidsOf x.k = 1 → x.k = 5 ∨ x.k = 6 ∨ x.k = 7) ∧ (kidsOf x.k = 2 → x.k = 3 ∨ x.k = 4) := by
    unfold kidsOf
    split
    · simp; omega
    · split
      · simp; omega
      · split <;> simp <;> omega
  refine ⟨fun h => ?_, fun h => ?_, fun h => ?_⟩
  · rcases g3 with g3 | g3 | g3
    · have := hkk.1 g3; omega
    · have := hkk.2.1 g3.1; omega
    · omega
  · rcases g3 with g3 | g3 | g3
    · have := hkk.1 g3; omega
    · omega
    · have := hkk.2.2 g3.1; omega
  · rcases g3 with g3 | g3 | g3
    · exact hkk.1 g3
    · have := hkk.2.1 g3.1; omega
    · have := hkk.2.2 g3.1; omega
theorem mean_fuel {t : List Nat} {l : List Nd} {g : Nat → Nat} (hz : Sz l g) : ∀ (f f' n : Nat), n < l.length → n < f → n < f' → mean t l f n = mean t l f' n
  | 0, _, _, _, h, _ => by omega
  | f + 1, 0, _, _, _, h => by omega
  | f + 1, f' + 1, n, hn, h1, h2 => by
    obtain ⟨k2, k1, _⟩ := kids_of hz hn
    funext i j
    unfold mean
    dsimp only
    have ih : ∀ c, c < n → mean t l f c = mean t l f' c := fun c hc => mean_fuel hz f f' c (by omega) (by omega) (by omega)
    split
    · rfl
    split
    · obtain ⟨a, b, _⟩ := k2 (.inl ‹_›); rw [ih _ a, ih _ b]
    split
    · obtain ⟨a, b, _⟩ := k2 (.inr ‹_›); rw [ih _ a, ih _ b]
    split
    · rw [ih _ (k1 (.inr (.inr ‹_›))).1]
    split
    · rw [ih _ (k1 (.inl ‹_›)).1]
    split
    · rw [ih _ (k1 (.inr (.inl ‹_›))).1]
    · rfl
/-- What a node means. -/
def mn (t : List Nat) (l : List Nd) (n : Nat) : Nat → Nat → Prop := mean t l (n + 1) n
theorem mean_mn {t : List Nat} {l : List Nd} {g : Nat → Nat} (hz : Sz l g) {f n : Nat} (hn : n < l.length) (hf : n < f) : mean t l f n = mn t l n := mean_fuel hz f (n + 1) n hn hf (by omega)
theorem mn_eq {t : List Nat} {l : List Nd} {g : Nat → Nat} (hz : Sz l g) {n : Nat} (hn : n < l.length) (i j : Nat) : mn t l n i j =
    if (l.getD n default).k = 2 ∨ (l.getD n default).k = 8 ∨ (l.getD n default).k = 9 then leafR (l.getD n default) t i j
    else if (l.getD n default).k = 3 then ∃ m, mn t l (l.getD n default).l.toNat i m ∧ mn t l (l.getD n default).r.toNat m j
    else if (l.getD n default).k = 4 then mn t l (l.getD n default).l.toNat i j ∨ mn t l (l.getD n default).r.toNat i j
    else if (l.getD n default).k = 7 then mn t l (l.getD n default).l.toNat i j ∨ j = i
    else if (l.getD n default).k = 5 then Star (mn t l (l.getD n default).l.toNat) i j
    else if (l.getD n default).k = 6 then ∃ m, mn t l (l.getD n default).l.toNat i m ∧ Star (mn t l (l.getD n default).l.toNat) m j
    else j = i := by
  obtain ⟨k2, k1, _⟩ := kids_of hz hn
  have ih : ∀ c, c < n → mean t l n c = mn t l c := fun c hc => mean_mn hz (by omega) hc
  unfold mn
  conv => lhs; unfold mean
  dsimp only
  split
  · rfl
  split
  · obtain ⟨a, b, _⟩ := k2 (.inl ‹_›); rw [ih _ a, ih _ b]; rfl
  split
  · obtain ⟨a, b, _⟩ := k2 (.inr ‹_›); rw [ih _ a, ih _ b]; rfl
  split
  · rw [ih _ (k1 (.inr (.inr ‹_›))).1]; rfl
  split
  · rw [ih _ (k1 (.inl ‹_›)).1]; rfl
  split
  · rw [ih _ (k1 (.inr (.inl ‹_›))).1]; rfl
  · rfl
theorem star_le {R : Nat → Nat → Prop} {N : Nat} (hR : ∀ i j, R i j → i ≤ j ∧ (i ≤ N → j ≤ N)) {i j : Nat} (h : Star R i j) : i ≤ j ∧ (i ≤ N → j ≤ N) := by
  induction h with
  | none i => exact ⟨Nat.le_refl _, id⟩
  | more h1 _ ih =>
    have := hR _ _ h1
    exact ⟨by omega, fun h => ih.2 (this.2 h)⟩
theorem leafR_le {x : Nd} {t : List Nat} {i j : Nat} (h : leafR x t i j) : i ≤ j ∧ (i ≤ t.length → j ≤ t.length) := by
  unfold leafR at h
  split at h
  · obtain ⟨rfl, b, hb, _⟩ := h
    have := (List.getElem?_eq_some_iff.1 hb).1
    exact ⟨by omega, fun _ => by omega⟩
  · split at h
    · exact ⟨by omega, fun _ => by omega⟩
    · split at h <;> exact ⟨by omega, fun _ => by omega⟩
theorem mean_le {t : List Nat} {l : List Nd} : ∀ (f n i j : Nat), mean t l f n i j → i ≤ j ∧ (i ≤ t.length → j ≤ t.length)
  | 0, n, i, j, h => by
    have h : j = i := h
    exact ⟨by omega, fun _ => by omega⟩
  | f + 1, n, i, j, h => by
    unfold mean at h
    dsimp only at h
    split at h
    · exact leafR_le h
    split at h
    · obtain ⟨m, h1, h2⟩ := h
      have a := mean_le f _ i m h1
      have b := mean_le f _ m j h2
      exact ⟨by omega, fun h => b.2 (a.2 h)⟩
    split at h
    · exact h.elim (mean_le f _ i j) (mean_le f _ i j)
    split at h
    · exact h.elim (mean_le f _ i j) (fun h => ⟨by omega, fun _ => by omega⟩)
    split at h
    · exact star_le (fun i j h => mean_le f _ i j h) h
    split at h
    · obtain ⟨m, h1, h2⟩ := h
      have a := mean_le f _ i m h1
      have b := star_le (fun i j h => mean_le f _ i j h) h2
      exact ⟨by omega, fun h => b.2 (a.2 h)⟩
    · exact ⟨by omega, fun _ => by omega⟩
theorem mn_le {t : List Nat} {l : List Nd} {n i j : Nat} (h : mn t l n i j) : i ≤ j ∧ (i ≤ t.length → j ≤ t.length) := mean_le _ _ _ _ h
end Go.Proofs.Ytaffcoiomggpfaa

/- Relations between places: package r09 (4): root, First. -/
namespace Go.Proofs.Ytaffcoiomggpfaa
open Go.V
attribute [local irreducible] app
set_option linter.constructorNameAsVariable false
set_option linter.unusedVariables false

theorem ext_sm {H H' : Heap} (he : Ext H H') {z : Nat} (hz : H z ≠ none) : H' z = H z := by
  cases e : H z with
  | none => exact absurd e hz
  | some o => exact he z o e
theorem sl134 : SlT Pr 134 1 := .of (by kernel_rfl)
/-- All relations so far: a slice of its own, whose parts lie in the base. -/
def AllR (H0 HB H : Heap) (p : Option Addr) (m c N : Nat) (ps : Nat → Option Addr) (cs : Nat → Nat) (M : Nat → Nat → Nat → Prop) : Prop :=
  Ext H0 HB ∧ Ext HB H ∧ Vec H 1 p m c ((List.range m).map fun i => Value.slice (ps i) N (cs i)) ∧ (∀ j, blk p j → HB j = none) ∧ ∀ i, i < m → RelH HB (ps i) N (cs i) (M i)
theorem AllR.get {H0 HB H : Heap} {p : Option Addr} {m c N i : Nat} {ps : Nat → Option Addr} {cs : Nat → Nat} {M : Nat → Nat → Nat → Prop} {K : Option Addr → Nat → Nat → Prop} (h : AllR H0 HB H p m c N ps cs M) {H' : Heap} (he : Ext H H') (hi : i < m)
    (hK : K (ps i) N (cs i)) : (0 ≤ (i : Int) ∧ (i : Int) < ((m : Nat) : Int)) ∧ ptr p fun q => ldSl (Addr.add q ((i : Int).toNat * 1)) H' K := by
  refine ⟨⟨by omega, by omega⟩, ?_⟩
  obtain ⟨b, t, cc, rfl, q, g⟩ := vec_at1 (h.2.2.1.ext he) (n := i) (v := .slice (ps i) N (cs i)) (by simp [hi])
  simp only [ptr_some, add_at, Int.toNat_natCast, Nat.mul_one, Nat.zero_add]
  exact ldSl_at q g hK
theorem AllR.rel {H0 HB H : Heap} {p : Option Addr} {m c N i : Nat} {ps : Nat → Option Addr} {cs : Nat → Nat} {M : Nat → Nat → Nat → Prop} (h : AllR H0 HB H p m c N ps cs M) {H' : Heap} (he : Ext H H') (hi : i < m) : RelH H' (ps i) N (cs i) (M i) :=
  (h.2.2.2.2 i hi).ext (h.2.1.trans he)
/-- The next relation is put at the end. -/
theorem AllR.push {H0 HB H H3 H4 : Heap} {p p' : Option Addr} {m c N c' : Nat} {ps : Nat → Option Addr} {cs : Nat → Nat} {M : Nat → Nat → Nat → Prop} {ad : Nat → Nat} {R : Nat → Nat → Prop} {K : Option Addr → Nat → Nat → Heap → Prop}
    (h : AllR H0 HB H p m c N ps cs M) (he : Ext H H3) (hr : RelA H3 H4 p' N N c' ad R) (hm : m < 65536) (hR : ∀ i k, i < N → k < N → (R i k ↔ M m i k))
    (hk : ∀ p2 c2 HB' H' ps' cs', AllR H0 HB' H' p2 (m + 1) c2 N ps' cs' M → K p2 (m + 1) c2 H') :
    nw (.cells #[.slice p' N c'] 79 (0, 0)) H4 fun i H5 => app Pr 134 p m c (.slice (some ⟨i, 0, none⟩) 1 1) H5 K := by
  obtain ⟨h1, h2, h3, h4, h5⟩ := h
  obtain ⟨r1, r2, r3, r4, r5⟩ := id hr
  have hx : Ext H H4 := he.trans r1
  have base1 : Ext HB (beside HB H3 H4) := fun q o hq => by
    rw [beside_some (by rw [hq]; simp)]
    exact hx q o (h2 q o hq)
  have base2 : Ext (beside HB H3 H4) H4 := beside_ext _ _ _
  have hnew : RelH (beside HB H3 H4) p' N c' R :=
    ⟨ad, r2.keep fun j hj _ => beside_free (r5 j hj), fun i hi => by rw [beside_free (r3 i hi).2.1]; exact (r3 i hi).1⟩
  refine nw_ext fun q H5 hq he5 hc5 => ?_
  refine app_one (sz := 1) (ws := [.slice p' N c']) sl134 ((h3.ext hx).ext he5) hc5 rfl rfl (by omega) (by omega) fun p2 c2 H6 hv6 hs6 hb6 => ?_
  have hfb : ∀ j, blk p j → (beside HB H3 H4) j = none := fun j hj => beside_priv (h4 j hj) (fun e => (h3.ext he).known hj e)
  refine hk p2 c2 (beside HB H3 H4) H6 (fun i => if i = m then p' else ps i) (fun i => if i = m then c' else cs i) ⟨h1.trans base1, ext_app (base2.trans he5) hfb hs6, ?_, fresh_app (base2.trans he5) hfb hb6, fun i hi => ?_⟩
  · have : ((List.range (m + 1)).map fun i => Value.slice (if i = m then p' else ps i) N (if i = m then c' else cs i)) = ((List.range m).map fun i => Value.slice (ps i) N (cs i)) ++ [.slice p' N c'] := by
      rw [List.range_succ, List.map_append]
      congr 1
      · refine List.map_congr_left fun j hj => ?_
        rw [List.mem_range] at hj
        simp only [if_neg (show ¬ j = m by omega)]
      · simp
    rw [this]; exact hv6
  · dsimp only
    by_cases e : i = m
    · subst e; simp only [if_true]; exact hnew.congr hR
    · simp only [if_neg e]; exact (h5 i (by omega)).ext base1
set_option maxHeartbeats 2000000 in
theorem rroot_c {H : Heap} {p pt : Option Addr} {c nt ct : Nat} {l : List Nd} {g : Nat → Nat} {bs : List UInt8} {Q : Value → Heap → Prop} {E : Chain → Heap → Prop} (hz : Sz l g) (hpos : 0 < l.length) (hsz : l.length ≤ 256) (hv : Nds H p l) (hb : Byt H pt nt ct bs) (hn : nt < 60000)
    (hk : ∀ H' p c, Ext H H' → RelH H' p (nt + 1) c (mn (bs.map UInt8.toNat) l (l.length - 1)) → Q (.slice p (nt + 1) c) H') : Does Pr 55 #[.slice p l.length c, .slice pt nt ct] H Q E := by
  refine zqv1_fn _ _ _ _ _ _ Q E H ?_
  have hbl := hb.1
  unfold zqv1 zqv1_28 zqv1_24 zqv1_21
  refine ⟨fun p' l' c' x H' => ∃ (m : Nat) (HB : Heap) (ps : Nat → Option Addr) (cs : Nat → Nat), x = (m : Nat) ∧ l' = m ∧ m ≤ l.length ∧ AllR H HB H' p' m c' (nt + 1) ps cs (mn (bs.map UInt8.toNat) l), fun _ _ _ x _ => ((l.length : Int) - x).toNat,
    ⟨0, H, fun _ => none, fun _ => 0, rfl, rfl, by omega, Ext.refl _, Ext.refl _, Vec.nil _ 1, fun j hj => (by obtain ⟨a, ha, _⟩ := hj; cases ha), fun i hi => by omega⟩, ?_⟩
  rintro p5 l5 c5 x H1 ⟨m, HB, ps, cs, rfl, rfl, hml, hall⟩
  unfold zqv1_18
  refine sel_dec (fun hlt => ?_) (fun hge => ?_)
  · have hlt : l5 < l.length := by omega
    have he1 : Ext H H1 := hall.1.trans hall.2.1
    obtain ⟨a, rfl, hrd⟩ := (hv.ext he1) l5 (l.getD l5 default) (getD_some hlt)
    obtain ⟨k2, k1, k0⟩ := kids_of hz hlt
    have hmn := fun i j => mn_eq (t := bs.map UInt8.toNat) hz hlt i j
    unfold zqv1_13
    refine ⟨⟨by omega, by omega⟩, ?_⟩
    simp only [ptr_some, Int.toNat_natCast]
    generalize l.getD l5 default = X at hrd k2 k1 k0 hmn
    refine ⟨X.k, X.l, X.r, X.a, X.b, X.c, X.d, hrd, ?_⟩
    refine nw_ext fun i H2 hi2 he2 hc2 => ?_
    refine wr_new hc2 (by simp) rfl (c' := X.cells.toArray) rfl fun H3 hc3 hb3 => ?_
    have he3 : Ext H1 H3 := ext_but he2 hi2 hb3
    clear hc2 hb3 he2
    have hc3 : H3 i = some (.cells #[.int .i64 X.k, .int .i64 X.l, .int .i64 X.r, .int .u64 X.a, .int .u64 X.b, .int .u64 X.c, .int .u64 X.d] 48 (0, 0)) := hc3
    -- the next node
    have next : ∀ (p' : Option Addr) (c' : Nat) (ad : Nat → Nat) (R : Nat → Nat → Prop) (H4 : Heap), RelA H3 H4 p' (nt + 1) (nt + 1) c' ad R → (∀ i k, i < nt + 1 → k < nt + 1 → (R i k ↔ mn (bs.map UInt8.toNat) l l5 i k)) →
        zqv1_5 (fun p' l' c' x' H1' => (∃ (m : Nat) (HB : Heap) (ps : Nat → Option Addr) (cs : Nat → Nat), x' = (m : Nat) ∧ l' = m ∧ m ≤ l.length ∧ AllR H HB H1' p' m c' (nt + 1) ps cs (mn (bs.map UInt8.toNat) l)) ∧ ((l.length : Int) - x').toNat < ((l.length : Int) - (l5 : Nat)).toNat)
          Q E (some a) l.length c pt nt ct p5 l5 c5 l5 p' (nt + 1) c' H4 := by
      intro p' c' ad R H4 hr hR
      unfold zqv1_5
      refine hall.push he3 hr (by omega) hR fun p2 c2 HB' H' ps' cs' h' => ?_
      unfold zqv1_3
      rw [wrap_succ (by omega)]
      exact ⟨⟨l5 + 1, HB', ps', cs', rfl, rfl, by omega, h'⟩, by omega⟩
    have hmle : ∀ n i k, i < nt + 1 → mn (bs.map UInt8.toNat) l n i k → k < nt + 1 := fun n i k hi h => by
      have := (mn_le h).2 (by simp; omega)
      simp at this; omega
    have hsle : ∀ n i k, i < nt + 1 → Star (mn (bs.map UInt8.toNat) l n) i k → k < nt + 1 := fun n i k hi h => by
      have := (star_le (N := (bs.map UInt8.toNat).length) (fun i j h => mn_le h) h).2 (by simp; omega)
      simp at this; omega
    unfold zqv1_10 zqv1_7
    simp only [ptr_some, add_at, Nat.zero_add]
    refine ldI_at (n := X.k) hc3 rfl ?_
    refine sel_beq (fun h3 => ?_) (fun h3 => ?_)
    · obtain ⟨ha, hr, ha0, hr0⟩ := k2 (.inl h3)
      obtain ⟨La, ea⟩ : ∃ n : Nat, X.l = (n : Nat) := ⟨X.l.toNat, by omega⟩
      obtain ⟨Ra, er⟩ : ∃ n : Nat, X.r = (n : Nat) := ⟨X.r.toNat, by omega⟩
      rw [ea, Int.toNat_natCast] at ha
      rw [er, Int.toNat_natCast] at hr
      refine ldI_at (n := X.l) hc3 rfl ?_
      rw [ea]
      refine hall.get he3 ha ?_
      refine ldI_at (n := X.r) hc3 rfl ?_
      rw [er]
      refine hall.get he3 hr ?_
      refine rthen_c (by omega) (hall.rel he3 ha) (hall.rel he3 hr) fun H4 p' c' ad hr4 => ⟨_, _, _, rfl, next p' c' ad _ H4 hr4 fun i k hi hk' => ?_⟩
      rw [hmn, if_neg (by omega), if_pos h3, ea, er]
      simp only [Int.toNat_natCast]
      exact ⟨fun ⟨j, _, h⟩ => ⟨j, h⟩, fun ⟨j, h⟩ => ⟨j, hmle _ _ _ hi h.1, h⟩⟩
    refine sel_beq (fun h4 => ?_) (fun h4 => ?_)
    · obtain ⟨ha, hr, ha0, hr0⟩ := k2 (.inr h4)
      obtain ⟨La, ea⟩ : ∃ n : Nat, X.l = (n : Nat) := ⟨X.l.toNat, by omega⟩
      obtain ⟨Ra, er⟩ : ∃ n : Nat, X.r = (n : Nat) := ⟨X.r.toNat, by omega⟩
      rw [ea, Int.toNat_natCast] at ha
      rw [er, Int.toNat_natCast] at hr
      refine ldI_at (n := X.l) hc3 rfl ?_
      rw [ea]
      refine hall.get he3 ha ?_
      refine ldI_at (n := X.r) hc3 rfl ?_
      rw [er]
      refine hall.get he3 hr ?_
      refine rboth_c (by omega) (hall.rel he3 ha) (hall.rel he3 hr) fun H4 p' c' ad hr4 => ⟨_, _, _, rfl, next p' c' ad _ H4 hr4 fun i k hi hk' => ?_⟩
      rw [hmn, if_neg (by omega), if_neg h3, if_pos h4, ea, er]
      simp only [Int.toNat_natCast]
    refine sel_beq (fun h5 => ?_) (fun h5 => ?_)
    · obtain ⟨ha, ha0⟩ := k1 (.inl h5)
      obtain ⟨La, ea⟩ : ∃ n : Nat, X.l = (n : Nat) := ⟨X.l.toNat, by omega⟩
      rw [ea, Int.toNat_natCast] at ha
      refine ldI_at (n := X.l) hc3 rfl ?_
      rw [ea]
      refine hall.get he3 ha ?_
      refine rstar_c (by omega) (hall.rel he3 ha) (fun i k h hi => hmle _ _ _ hi h) fun H4 p' c' ad hr4 => ⟨_, _, _, rfl, next p' c' ad _ H4 hr4 fun i k hi hk' => ?_⟩
      rw [hmn, if_neg (by omega), if_neg h3, if_neg h4, if_neg (by omega), if_pos h5, ea]
      simp only [Int.toNat_natCast]
    refine sel_beq (fun h6 => ?_) (fun h6 => ?_)
    · obtain ⟨ha, ha0⟩ := k1 (.inr (.inl h6))
      obtain ⟨La, ea⟩ : ∃ n : Nat, X.l = (n : Nat) := ⟨X.l.toNat, by omega⟩
      rw [ea, Int.toNat_natCast] at ha
      refine ⟨fun _ => True, trivial, ldI_at (n := X.l) hc3 rfl ?_⟩
      rw [ea]
      have hz1 : ∀ (Z : Nat → Prop) (K : Option Addr → Nat → Nat → Prop), (∀ z, Z z) → K (ps La) (nt + 1) (cs La) → (0 ≤ (La : Int) ∧ (La : Int) < ((l5 : Nat) : Int)) ∧ ptr p5 fun q => Z (Addr.block (Addr.add q ((La : Int).toNat * 1))) ∧ ldSl (Addr.add q ((La : Int).toNat * 1)) H3 K := by
        intro Z K hZ hK
        obtain ⟨g1, g2⟩ := hall.get (K := K) he3 ha hK
        refine ⟨g1, ?_⟩
        cases p5 with
        | none => exact g2.elim
        | some q => exact ⟨hZ _, g2⟩
      refine hz1 (fun _ => True) _ (fun _ => trivial) ?_
      refine ldI_at (n := X.l) hc3 rfl ?_
      rw [ea]
      refine hall.get he3 ha ?_
      refine rstar_c (by omega) (hall.rel he3 ha) (fun i k h hi => hmle _ _ _ hi h) fun H4 p' c' ad hr4 => ⟨_, _, _, rfl, fun z _ hz' => ext_sm hr4.1 hz', ?_⟩
      refine rthen_c (by omega) ((hall.rel he3 ha).ext hr4.1) hr4.rel fun H5 p2 c2 ad2 hr5 => ⟨_, _, _, rfl, next p2 c2 ad2 _ H5 (hr5.base hr4.1) fun i k hi hk' => ?_⟩
      rw [hmn, if_neg (by omega), if_neg h3, if_neg h4, if_neg (by omega), if_neg h5, if_pos h6, ea]
      simp only [Int.toNat_natCast]
      exact ⟨fun ⟨j, _, h⟩ => ⟨j, h⟩, fun ⟨j, h⟩ => ⟨j, hmle _ _ _ hi h.1, h⟩⟩
    refine sel_beq (fun h7 => ?_) (fun h7 => ?_)
    · obtain ⟨ha, ha0⟩ := k1 (.inr (.inr h7))
      obtain ⟨La, ea⟩ : ∃ n : Nat, X.l = (n : Nat) := ⟨X.l.toNat, by omega⟩
      rw [ea, Int.toNat_natCast] at ha
      refine ⟨fun _ => True, trivial, ldI_at (n := X.l) hc3 rfl ?_⟩
      rw [ea]
      have hz1 : ∀ (Z : Nat → Prop) (K : Option Addr → Nat → Nat → Prop), (∀ z, Z z) → K (ps La) (nt + 1) (cs La) → (0 ≤ (La : Int) ∧ (La : Int) < ((l5 : Nat) : Int)) ∧ ptr p5 fun q => Z (Addr.block (Addr.add q ((La : Int).toNat * 1))) ∧ ldSl (Addr.add q ((La : Int).toNat * 1)) H3 K := by
        intro Z K hZ hK
        obtain ⟨g1, g2⟩ := hall.get (K := K) he3 ha hK
        refine ⟨g1, ?_⟩
        cases p5 with
        | none => exact g2.elim
        | some q => exact ⟨hZ _, g2⟩
      refine hz1 (fun _ => True) _ (fun _ => trivial) ?_
      rw [wrap_succ (by omega)]
      refine rstay_c (by omega) fun H4 p' c' ad hr4 => ⟨_, _, _, rfl, fun z _ hz' => ext_sm hr4.1 hz', ?_⟩
      refine rboth_c (by omega) hr4.rel ((hall.rel he3 ha).ext hr4.1) fun H5 p2 c2 ad2 hr5 => ⟨_, _, _, rfl, next p2 c2 ad2 _ H5 (hr5.base hr4.1) fun i k hi hk' => ?_⟩
      rw [hmn, if_neg (by omega), if_neg h3, if_neg h4, if_pos h7, ea]
      simp only [Int.toNat_natCast]
      exact or_comm
    · have hk4 := k0 (by omega)
      refine ⟨X.k, X.l, X.r, X.a, X.b, X.c, X.d, rd_at hc3 _ 0 0 fun j hj => by
        simp only [Nat.zero_add, List.getElem?_toArray], ?_⟩
      refine rleaf_c (x := X) (by omega) (hb.ext (he1.trans he3)) hk4 fun H4 p' c' ad hr4 => ⟨_, _, _, rfl, next p' c' ad _ H4 hr4 fun i k hi hk' => ?_⟩
      rw [hmn]
      by_cases h : X.k = 2 ∨ X.k = 8 ∨ X.k = 9
      · rw [if_pos h]
      · rw [if_neg h, if_neg h3, if_neg h4, if_neg h7, if_neg h5, if_neg h6]
        unfold leafR
        rw [if_neg (by omega), if_neg (by omega), if_neg (by omega)]
  · obtain rfl : l5 = l.length := by omega
    unfold zqv1_1
    have hw : IntKind.wrap .i64 (((l.length : Nat) : Int) - 1) = ((l.length - 1 : Nat) : Int) := by rw [IntWalk.i64_in _ (by omega)]; omega
    rw [hw]
    refine hall.get (Ext.refl _) (by omega) ?_
    exact hk H1 _ _ (hall.1.trans hall.2.1) (hall.rel (Ext.refl _) (by omega))
/-- First, as the reference has it. -/
theorem rFirst_c {H : Heap} {p pt : Option Addr} {c nt ct : Nat} {l : List Nd} {bs : List UInt8} {Q : Value → Heap → Prop} {E : Chain → Heap → Prop} (hv : Nds H p l) (hb : Byt H pt nt ct bs) (hn : nt < 60000) (hsz : l.length ≤ 1048576)
    (hk : ∀ H', Ext H H' → Q (.int .i64 (firstOf l bs)) H') : Does Pr 20 #[.slice p l.length c, .slice pt nt ct] H Q E := by
  refine zqt1_fn _ _ _ _ _ _ Q E H ?_
  unfold zqt1 zqt1_18
  have hbl := hb.1
  refine rValid_c hsz hv fun H1 he1 => ⟨_, rfl, ?_⟩
  refine sel_not (fun hval => ?_) (fun hval => ?_)
  · have : firstOf l bs = -1 := if_neg (by rw [hval]; simp)
    rw [this] at hk; exact hk H1 he1
  obtain ⟨hpos, h256, g, hz⟩ := valid_sz hval
  have hspec := firstOf_spec bs hval
  have hMn : ∀ n, n ≤ bs.length → (Mn l (bs.map UInt8.toNat) n ↔ ∃ i k, i < n + 1 ∧ k < n + 1 ∧ mn ((bs.take n).map UInt8.toNat) l (l.length - 1) i k) := fun n hn => by
    unfold Mn
    rw [← List.map_take, mean_mn hz (by omega) (by omega)]
    constructor
    · rintro ⟨j, hj, k, h⟩
      refine ⟨j, k, by omega, ?_, h⟩
      have := (mn_le h).2 (by simp; omega)
      simp at this; omega
    · rintro ⟨j, k, hj, _, h⟩
      exact ⟨j, by omega, k, h⟩
  unfold zqt1_14 zqt1_11
  refine ⟨fun x H' => ∃ n : Nat, x = (n : Nat) ∧ n ≤ nt + 1 ∧ Ext H H' ∧ ∀ k, k < n → ¬ Mn l (bs.map UInt8.toNat) k, fun x _ => ((nt : Int) + 1 - x).toNat, ⟨0, rfl, by omega, he1, fun k hk => by omega⟩, ?_⟩
  rintro x H2 ⟨n, rfl, hnn, he2, hno⟩
  unfold zqt1_8
  refine sel_dec (fun hle => ?_) (fun hgt => ?_)
  · unfold zqt1_5
    refine ⟨⟨by omega, by have := hb.2.1; omega⟩, ?_⟩
    rw [Int.toNat_natCast]
    have hbt := (hb.ext he2).take n (by omega)
    refine rroot_c hz hpos h256 (hv.ext he2) hbt (by omega) fun H3 p3 c3 he3 hr3 => ⟨_, _, _, rfl, ?_⟩
    rw [Nat.sub_zero] at hr3 ⊢
    refine rsome_c (by omega) hr3 fun b hb' => ⟨_, rfl, ?_⟩
    rw [← hMn n (by omega)] at hb'
    refine sel_mk (fun ht => ?_) (fun hf => ?_)
    · have : firstOf l bs = (n : Nat) := hspec.unique (.inr ⟨n, by omega, by omega, rfl, hb'.1 ht, fun k' _ hk' => hno k' hk'⟩)
      rw [this] at hk
      exact hk H3 (he2.trans he3)
    · unfold zqt1_3
      rw [wrap_succ (by omega)]
      refine ⟨⟨n + 1, rfl, by omega, he2.trans he3, fun k hk' => ?_⟩, by dsimp only; omega⟩
      by_cases e : k = n
      · subst e; exact fun h => by rw [hb'.2 h] at hf; cases hf
      · exact hno k (by omega)
  · unfold zqt1_1
    have : firstOf l bs = -1 := hspec.unique (.inl ⟨rfl, fun k _ hk' => hno k (by omega)⟩)
    rw [this] at hk
    exact hk H2 he2
end Go.Proofs.Ytaffcoiomggpfaa
