/- Contracts of package jobmuxref08 (2): the parser's small functions, classes, lists of nodes. -/
import Derived.Test.YtaffcoiomggpfaaVR08a
import Derived.Test.YtaffcoiomggpfaaVKids
namespace Go.Proofs.Ytaffcoiomggpfaa
open Go.V
attribute [local irreducible] app
set_option linter.constructorNameAsVariable false
set_option linter.unusedVariables false

structure PS where
  s : ByteArray
  at_ : Nat
  deep : Nat
  e : Int
namespace PS
def cells (q : PS) : Array Value := #[.string q.s, .int .i64 q.at_, .int .i64 q.deep, .int .i64 q.e]
def fail (q : PS) (e : Int) : PS := if q.e = 0 then { q with e := e } else q
def inc (q : PS) : PS := { q with at_ := q.at_ + 1 }
def more (q : PS) : Bool := decide (q.e = 0) && decide (q.at_ < q.s.size)
def byte (q : PS) : Nat := byteAt q.s q.at_
def escape8 (q : PS) : S4 × Bool × PS :=
  if q.s.size ≤ q.at_ then (S4.zero, false, q.fail 82)
  else match named8 q.byte with
    | (s, x, y) => (s, x, (if y = true then q else q.fail 82).inc)
def single8 (q : PS) : S4 × Bool × PS :=
  if q.byte = 92 then q.inc.escape8 else if q.byte = 94 ∨ q.byte = 45 ∨ q.byte = 93 then (S4.zero, false, q.inc.fail 80) else (S4.zero.with1 q.byte, true, q.inc)
def element8 (q : PS) : S4 × PS :=
  match q.single8 with
  | (a, one, q1) =>
    if q1.more = true ∧ q1.byte = 45 then
      if one = false ∨ q1.s.size ≤ q1.at_ + 1 then (a, q1.inc.fail 80)
      else match q1.inc.single8 with
        | (b, two, q3) => (S4.zero.with_ (only8 a) (only8 b), if q3.e = 0 ∧ (two = false ∨ only8 b < only8 a) then q3.fail 80 else q3)
    else (a, q1)
def classLoop8 : Nat → Bool → Nat → S4 → PS → S4 × PS
  | 0, _, _, s, q => (s, q)
  | f + 1, neg, n, s, q =>
    if q.more = true then
      if q.byte = 93 then (if neg = true then s.not else s, (if n = 0 then q.fail 80 else q).inc)
      else match q.element8 with
        | (x, q1) => classLoop8 f neg (n + 1) (s.or x) q1
    else (s, q.fail 80)
def class8 (q : PS) : S4 × PS :=
  let neg := q.more && decide (q.byte = 94)
  classLoop8 (q.s.size + 28) neg 0 S4.zero (if neg = true then q.inc else q)
/-- On the way: the same text, not back, not less deep. -/
structure Mo (q q' : PS) : Prop where
  s : q'.s = q.s
  at_ : q.at_ ≤ q'.at_
  deep : q.deep ≤ q'.deep
theorem Mo.refl (q : PS) : Mo q q := ⟨rfl, Nat.le_refl _, Nat.le_refl _⟩
theorem Mo.trans {a b c : PS} (h : Mo a b) (g : Mo b c) : Mo a c := ⟨g.s.trans h.s, Nat.le_trans h.at_ g.at_, Nat.le_trans h.deep g.deep⟩
theorem Mo.fail (q : PS) (e : Int) : Mo q (q.fail e) := by unfold PS.fail; split <;> exact ⟨rfl, Nat.le_refl _, Nat.le_refl _⟩
theorem Mo.inc (q : PS) : Mo q q.inc := ⟨rfl, Nat.le_succ _, Nat.le_refl _⟩
theorem fail_at (q : PS) (e : Int) : (q.fail e).at_ = q.at_ ∧ (q.fail e).s = q.s ∧ (q.fail e).deep = q.deep := by unfold PS.fail; split <;> exact ⟨rfl, rfl, rfl⟩
theorem fail_e (q : PS) {e : Int} (he : e ≠ 0) : (q.fail e).e ≠ 0 := by
  unfold PS.fail
  by_cases h : q.e = 0
  · rw [if_pos h]; exact he
  · rw [if_neg h]; exact h
theorem more_iff {q : PS} : q.more = true ↔ q.e = 0 ∧ q.at_ < q.s.size := by simp [PS.more]
theorem escape8_mo (q : PS) : Mo q q.escape8.2.2 := by
  unfold PS.escape8
  split
  · exact Mo.fail _ _
  · split
    rename_i s x y _
    cases y
    · exact (Mo.fail _ _).trans (Mo.inc _)
    · exact Mo.inc _
theorem single8_mo (q : PS) : Mo q q.single8.2.2 ∧ q.at_ < q.single8.2.2.at_ := by
  unfold PS.single8
  split
  · have := escape8_mo q.inc
    exact ⟨(Mo.inc q).trans this, Nat.lt_of_lt_of_le (Nat.lt_succ_self _) this.at_⟩
  · split
    · exact ⟨(Mo.inc q).trans (Mo.fail _ _), by rw [(fail_at q.inc 80).1]; exact Nat.lt_succ_self _⟩
    · exact ⟨Mo.inc q, Nat.lt_succ_self _⟩
theorem element8_mo (q : PS) : Mo q q.element8.2 ∧ q.at_ < q.element8.2.at_ := by
  have h := single8_mo q
  unfold PS.element8
  revert h
  generalize q.single8 = R
  obtain ⟨a, one, q1⟩ := R
  intro h
  dsimp only at h ⊢
  split
  · have h1 := h.1.trans (Mo.inc q1)
    have h2 : q.at_ < q1.inc.at_ := Nat.lt_trans h.2 (Nat.lt_succ_self _)
    split
    · exact ⟨h1.trans (Mo.fail _ _), Nat.lt_of_lt_of_le h2 (Mo.fail _ _).at_⟩
    · have h3 := (single8_mo q1.inc).1
      revert h3
      generalize q1.inc.single8 = R
      obtain ⟨b, two, q3⟩ := R
      intro h3
      dsimp only at h3 ⊢
      split
      · exact ⟨(h1.trans h3).trans (Mo.fail _ _), Nat.lt_of_lt_of_le h2 (h3.trans (Mo.fail _ _)).at_⟩
      · exact ⟨h1.trans h3, Nat.lt_of_lt_of_le h2 h3.at_⟩
  · exact h
theorem classLoop8_mo : ∀ (f : Nat) (neg : Bool) (n : Nat) (s : S4) (q : PS), Mo q (classLoop8 f neg n s q).2
  | 0, _, _, _, q => Mo.refl q
  | f + 1, neg, n, s, q => by
    unfold classLoop8
    split
    · split
      · dsimp only
        split
        · exact (Mo.fail _ _).trans (Mo.inc _)
        · exact Mo.inc _
      · have h := (element8_mo q).1
        revert h
        generalize q.element8 = R
        obtain ⟨x, q1⟩ := R
        intro h
        exact h.trans (classLoop8_mo f neg _ _ _)
    · exact Mo.fail _ _
theorem class8_mo (q : PS) : Mo q q.class8.2 := by
  unfold PS.class8
  dsimp only
  split
  · exact (Mo.inc q).trans (classLoop8_mo _ _ _ _ _)
  · exact classLoop8_mo _ _ _ _ _
end PS

/-- All but block b is as it was. -/
def Exb (b : Nat) (H H' : Heap) : Prop := ∀ j o, j ≠ b → H j = some o → H' j = some o
theorem Exb.refl (b : Nat) (H : Heap) : Exb b H H := fun _ _ _ h => h
theorem Exb.trans {b : Nat} {A B C : Heap} (h : Exb b A B) (g : Exb b B C) : Exb b A C := fun j o hj x => g j o hj (h j o hj x)
theorem _root_.Go.V.Ext.exb {H H' : Heap} (h : Ext H H') (b : Nat) : Exb b H H' := fun j o _ x => h j o x
theorem Exb.upd {b : Nat} {H H' : Heap} (h : Exb b H H') (o : Obj) : Exb b H (H'.set b o) := fun j x hj hx => by rw [Heap.set_ne _ _ hj]; exact h j x hj hx
theorem Exb.set {b i : Nat} {H H' : Heap} (h : Exb b H H') (hi : H i = none) (o : Obj) : Exb b H (H'.set i o) := fun j x hj hx => by
  rw [Heap.set_ne _ _ (fun e => by rw [e, hi] at hx; cases hx)]; exact h j x hj hx
/-- The parser in block b. -/
def PSs (H : Heap) (b : Nat) (q : PS) : Prop :=
  q.s.size ≤ 4096 ∧ q.at_ + q.deep ≤ q.s.size + 26 ∧ (q.e = 0 → q.at_ ≤ q.s.size ∧ q.deep ≤ 24) ∧ H b = some (.cells q.cells 83 (0, 0))
section
variable {H : Heap} {b : Nat} {q : PS} {Q : Value → Heap → Prop} {E : Chain → Heap → Prop}
theorem PSs.ext {H' : Heap} (h : PSs H b q) (he : Ext H H') : PSs H' b q := ⟨h.1, h.2.1, h.2.2.1, he _ _ h.2.2.2⟩
theorem PSs.other {i : Nat} {o : Obj} (h : PSs H b q) (hi : b ≠ i) : PSs (H.set i o) b q := ⟨h.1, h.2.1, h.2.2.1, by rw [Heap.set_ne _ _ hi]; exact h.2.2.2⟩
theorem PSs.ne {i : Nat} (h : PSs H b q) (hi : H i = none) : b ≠ i := ne_of h.2.2.2 hi
theorem PSs.ldAt {K : Int → Prop} (h : PSs H b q) (hk : K (q.at_ : Nat)) : ldI .i64 (Addr.add ⟨b, 0, none⟩ 1) H K := by rw [add_at]; exact ldI_at (n := (q.at_ : Nat)) h.2.2.2 rfl hk
theorem PSs.ldDeep {K : Int → Prop} (h : PSs H b q) (hk : K (q.deep : Nat)) : ldI .i64 (Addr.add ⟨b, 0, none⟩ 2) H K := by rw [add_at]; exact ldI_at (n := (q.deep : Nat)) h.2.2.2 rfl hk
theorem PSs.ldE {K : Int → Prop} (h : PSs H b q) (hk : K q.e) : ldI .i64 (Addr.add ⟨b, 0, none⟩ 3) H K := by rw [add_at]; exact ldI_at (n := q.e) h.2.2.2 rfl hk
theorem PSs.ldStr {K : ByteArray → Prop} (h : PSs H b q) (hk : K q.s) : ldS ⟨b, 0, none⟩ H K := ldS_at (n := q.s) h.2.2.2 rfl hk
theorem PSs.incS {K : Heap → Prop} (h : PSs H b q) (h1 : q.at_ + 1 + q.deep ≤ q.s.size + 26) (h2 : q.e = 0 → q.at_ < q.s.size)
    (hk : ∀ H', PSs H' b q.inc → Exb b H H' → K H') : wr (Addr.add ⟨b, 0, none⟩ 1) [.int .i64 (IntKind.wrap .i64 ((q.at_ : Nat) + 1))] H K := by
  obtain ⟨a1, a2, a3, a4⟩ := h
  rw [add_at]
  have hw : IntKind.wrap .i64 (((q.at_ : Nat) : Int) + 1) = ((q.at_ + 1 : Nat) : Int) := by rw [IntWalk.i64_in _ (by omega)]; omega
  rw [hw]
  refine wr_at a4 (by simp [PS.cells]) rfl (hk _ ⟨a1, by simpa [PS.inc] using h1, fun he => ⟨h2 he, (a3 he).2⟩, Heap.set_self _ _ _⟩ ((Exb.refl _ _).upd _))
theorem pfail_c {e : Int} (he : e ≠ 0) (h : PSs H b q) (hk : ∀ H', PSs H' b (q.fail e) → Exb b H H' → Q (.tuple #[]) H') : Does Pr 57 #[.pointer (some ⟨b, 0, none⟩), .int .i64 e] H Q E := by
  refine zqe_fn _ _ Q E H ?_
  unfold zqe
  simp only [ptr_some]
  refine h.ldE (sel_beq (fun h0 => ?_) (fun h0 => ?_))
  · obtain ⟨a1, a2, a3, a4⟩ := h
    have hf : q.fail e = { q with e := e } := if_pos h0
    rw [hf] at hk
    rw [add_at]
    exact wr_at a4 (by simp [PS.cells]) rfl (hk _ ⟨a1, a2, fun h => absurd h he, Heap.set_self _ _ _⟩ ((Exb.refl _ _).upd _))
  · have hf : q.fail e = q := if_neg h0
    rw [hf] at hk
    exact hk _ h (Exb.refl _ _)
theorem more_c (h : PSs H b q) (hk : Q (.bool q.more) H) : Does Pr 90 #[.pointer (some ⟨b, 0, none⟩)] H Q E := by
  refine zqi_fn _ Q E H ?_
  unfold zqi
  simp only [ptr_some]
  refine h.ldE (sel_beq (fun h0 => ?_) (fun h0 => ?_))
  · refine h.ldAt (h.ldStr ?_)
    have e : q.more = decide (((q.at_ : Nat) : Int) < (q.s.size : Nat)) := by unfold PS.more; rw [decide_eq_true h0]; simp
    rwa [e] at hk
  · have e : q.more = false := by unfold PS.more; rw [decide_eq_false h0]; rfl
    rwa [e] at hk
theorem escape8_c (h : PSs H b q) (h0 : q.e = 0) (hk : ∀ H' s x q', q.escape8 = (s, x, q') → PSs H' b q' → Exb b H H' → Q (.tuple #[.agg s.cells, .bool x]) H') : Does Pr 109 #[.pointer (some ⟨b, 0, none⟩)] H Q E := by
  refine zqq_fn _ Q E H ?_
  unfold zqq
  refine nw_ext fun i H1 hi he1 hc1 => ?_
  have hc1 : H1 i = some (cs S4.zero) := hc1
  have hbi := h.ne hi
  have h1 := h.ext he1
  have hib : i ≠ b := Ne.symm hbi
  obtain ⟨g1, g2, g3, g4⟩ := id h
  unfold zqq_9
  simp only [ptr_some]
  refine h1.ldAt (h1.ldStr (sel_dec (fun hd => ?_) (fun hd => ?_)))
  · refine pfail_c (by decide) h1 fun H2 h2 hx2 => ?_
    refine S4.wr S4.zero (hx2 _ _ hib hc1) ⟨_, _, _, _, S4.rd (s := S4.zero) (Heap.set_self _ _ _), ?_⟩
    exact hk _ S4.zero false (q.fail 82) (by unfold PS.escape8; rw [if_pos (by omega)]) (h2.other hbi) (((he1.exb b).trans hx2).set hi _)
  · have hlt : q.at_ < q.s.size := by omega
    unfold zqq_6
    simp only [ptr_some]
    refine h1.ldStr (h1.ldAt ⟨⟨by omega, by omega⟩, ?_⟩)
    rw [sAt_nat]
    refine named8_c (byteAt_le _ _) fun H2 s x y he2 hn => ⟨_, _, _, _, _, _, rfl, ?_⟩
    have h2 := h1.ext he2
    refine nw_ext fun j H3 hj he3 hc3 => ?_
    have hc3 : H3 j = some (cs S4.zero) := hc3
    have hbj := h2.ne hj
    have hij : i ≠ j := ne_of (he2 _ _ hc1) hj
    refine S4.wr s hc3 ?_
    have h4 : PSs (H3.set j (cs s)) b q := (h2.ext he3).other hbj
    have hj4 : (H3.set j (cs s)) j = some (cs s) := Heap.set_self _ _ _
    have hi4 : (H3.set j (cs s)) i = some (cs S4.zero) := by rw [Heap.set_ne _ _ hij]; exact he3 _ _ (he2 _ _ hc1)
    have hx4 : Exb b H (H3.set j (cs s)) := (((he1.trans he2).trans he3).set ((he1.trans he2).free hj) _).exb b
    change zqq_3 _ _ _ _ _ _ _ (H3.set j (cs s))
    revert h4 hj4 hi4 hx4
    generalize H3.set j (cs s) = H4
    intro h4 hj4 hi4 hx4
    have fin : ∀ (q1 : PS) (H5 : Heap), (if y = true then q else q.fail 82) = q1 → PSs H5 b q1 → Exb b H4 H5 → zqq_1 Q E (some ⟨b, 0, none⟩) (some ⟨i, 0, none⟩) (some ⟨j, 0, none⟩) x H5 := by
      intro q1 H5 hq h5 hx5
      have hq1 : q1.at_ = q.at_ ∧ q1.s = q.s ∧ q1.deep = q.deep := by
        rw [← hq]; split
        · exact ⟨rfl, rfl, rfl⟩
        · exact PS.fail_at q 82
      unfold zqq_1
      simp only [ptr_some]
      refine h5.ldAt (h5.incS (by have := (g3 h0).2; rw [hq1.1, hq1.2.1, hq1.2.2]; omega) (fun _ => by rw [hq1.1, hq1.2.1]; exact hlt) fun H6 h6 hx6 => ?_)
      refine ⟨_, _, _, _, S4.rd (hx6 _ _ (Ne.symm hbj) (hx5 _ _ (Ne.symm hbj) hj4)), ?_⟩
      refine S4.wr s (hx6 _ _ hib (hx5 _ _ hib hi4)) ⟨_, _, _, _, S4.rd (s := s) (Heap.set_self _ _ _), ?_⟩
      exact hk _ s x q1.inc (by unfold PS.escape8; rw [if_neg (by omega)]; unfold PS.byte; rw [hn]; dsimp only; rw [hq]) (h6.other hbi) (((hx4.trans hx5).trans hx6).set hi _)
    unfold zqq_3
    refine sel_not (fun hy => ?_) (fun hy => ?_)
    · exact pfail_c (by decide) h4 fun H5 h5 hx5 => fin _ H5 (by rw [if_neg (by simp [hy])]) h5 hx5
    · exact fin q H4 (by rw [if_pos hy]) h4 (Exb.refl _ _)
theorem single8_c (h : PSs H b q) (h0 : q.e = 0) (hlt : q.at_ < q.s.size) (hk : ∀ H' s x q', q.single8 = (s, x, q') → PSs H' b q' → Exb b H H' → Q (.tuple #[.agg s.cells, .bool x]) H') : Does Pr 124 #[.pointer (some ⟨b, 0, none⟩)] H Q E := by
  refine zqg2_fn _ Q E H ?_
  unfold zqg2
  refine nw_ext fun i H1 hi he1 hc1 => ?_
  have hc1 : H1 i = some (cs S4.zero) := hc1
  have hbi := h.ne hi
  have h1 := h.ext he1
  have hib : i ≠ b := Ne.symm hbi
  obtain ⟨g1, g2, g3, g4⟩ := id h
  unfold zqg2_23
  simp only [ptr_some]
  refine h1.ldStr (h1.ldAt ⟨⟨by omega, by omega⟩, ?_⟩)
  rw [sAt_nat]
  unfold zqg2_20 zqg2_16 zqg2_12 zqg2_10
  simp only [ptr_some]
  refine h1.ldAt (h1.incS (by have := (g3 h0).2; omega) (fun _ => hlt) fun H2 h2 hx2 => ?_)
  have hbyte : byteAt q.s q.at_ = q.byte := rfl
  have hb255 : q.byte ≤ 255 := byteAt_le _ _
  rw [hbyte]
  have hc2 := hx2 _ _ hib hc1
  have hxx := (he1.exb b).trans hx2
  refine sel_beq (fun hc => ?_) (fun hc => ?_)
  · unfold zqg2_3
    refine escape8_c h2 h0 fun H3 s x q3 hq3 h3 hx3 => ⟨_, _, _, _, _, rfl, ?_⟩
    simp only [ptr_some]
    refine S4.wr s (hx3 _ _ hib hc2) ⟨_, _, _, _, S4.rd (s := s) (Heap.set_self _ _ _), ?_⟩
    exact hk _ s x q3 (by unfold PS.single8; rw [if_pos (by omega), hq3]) (h3.other hbi) ((hxx.trans hx3).set hi _)
  · have bad : (q.byte = 94 ∨ q.byte = 45 ∨ q.byte = 93) → zqg2_5 Q E (some ⟨b, 0, none⟩) (some ⟨i, 0, none⟩) (q.byte : Nat) true H2 := by
      intro hbad
      unfold zqg2_5
      refine sel_tt (pfail_c (by decide) h2 fun H3 h3 hx3 => ?_)
      simp only [ptr_some]
      refine S4.wr S4.zero (hx3 _ _ hib hc2) ⟨_, _, _, _, S4.rd (s := S4.zero) (Heap.set_self _ _ _), ?_⟩
      exact hk _ S4.zero false (q.inc.fail 80) (by unfold PS.single8; rw [if_neg (by omega), if_pos hbad]) (h3.other hbi) ((hxx.trans hx3).set hi _)
    unfold zqg2_7
    refine sel_mk (fun h94 => ?_) (fun h94 => ?_)
    · rw [h94]; exact bad (.inl (by have h : (q.byte : Int) = 94 := (by simpa using h94); omega))
    refine sel_mk (fun h45 => ?_) (fun h45 => ?_)
    · rw [h45]; exact bad (.inr (.inl (by have : (q.byte : Int) = 45 := by simpa using h45
                                          omega)))
    cases h93 : ((q.byte : Int) == 93) with
    | true => exact bad (.inr (.inr (by have : (q.byte : Int) = 93 := by simpa using h93
                                        omega)))
    | false =>
      have h94 : (q.byte : Int) ≠ 94 := by simpa using h94
      have h45 : (q.byte : Int) ≠ 45 := by simpa using h45
      have h93 : (q.byte : Int) ≠ 93 := by simpa using h93
      unfold zqg2_5
      refine sel_ff ?_
      unfold zqg2_1
      refine With_c (s := S4.zero) hb255 fun H3 he3 => ⟨_, _, _, _, rfl, ?_⟩
      simp only [ptr_some]
      refine S4.wr (S4.zero.with1 q.byte) (he3 _ _ hc2) ⟨_, _, _, _, S4.rd (s := S4.zero.with1 q.byte) (Heap.set_self _ _ _), ?_⟩
      exact hk _ _ true q.inc (by unfold PS.single8; rw [if_neg (by omega), if_neg (by omega)]) ((h2.ext he3).other hbi) ((hxx.trans (he3.exb b)).set hi _)
end
end Go.Proofs.Ytaffcoiomggpfaa
