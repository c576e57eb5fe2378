import Derived.Test.YtaffcoiomggpfaaVR08d
import Derived.Test.YtaffcoiomggpfaaVPats
import Derived.Test.YtaffcoiomggpfaaVR08h
import Derived.Test.YtaffcoiomggpfaaFl10
import Derived.Test.YtaffcoiomggpfaaFr10
/- Contracts of package jobmuxref08 (5): the parser. -/
namespace Go.Proofs.Ytaffcoiomggpfaa
open Go.V
attribute [local irreducible] app
set_option linter.constructorNameAsVariable false
set_option linter.unusedVariables false

namespace PS
def up (q : PS) : PS := { q with deep := q.deep + 1 }
def out (q : PS) : PS := { q with at_ := q.at_ + 1, deep := q.deep - 1 }
def atom8 (alt : PS → List Nd × PS) (q : PS) : List Nd × PS :=
  if q.byte = 46 then ([ndI 2 (S4.zero.with1 10).not], q.inc)
  else if q.byte = 94 then ([ndI 8 S4.zero], q.inc)
  else if q.byte = 36 then ([ndI 9 S4.zero], q.inc)
  else if q.byte = 92 then ([ndI 2 q.inc.escape8.1], q.inc.escape8.2.2)
  else if q.byte = 91 then ([ndI 2 q.inc.class8.1], q.inc.class8.2)
  else if q.byte = 93 then ([ndI 2 (S4.zero.with1 q.byte)], q.inc.fail 80)
  else if q.byte = 42 ∨ q.byte = 43 ∨ q.byte = 63 then ([ndI 2 (S4.zero.with1 q.byte)], q.inc.fail 81)
  else if q.byte = 40 then
    if 24 < q.deep + 1 then ([], q.inc.up.fail 84)
    else
      let x := alt q.inc.up
      (x.1, (if x.2.e = 0 ∧ x.2.s.size ≤ x.2.at_ then x.2.fail 83 else x.2).out)
  else ([ndI 2 (S4.zero.with1 q.byte)], q.inc)
def signs8 : Nat → List Nd → PS → List Nd × PS
  | 0, l, q => (l, q)
  | f + 1, l, q =>
    if q.more = true ∧ signOf q.byte ≠ 0 then signs8 f (joinN (signOf q.byte : Nat) l []) q.inc
    else (l, q)
def part8 (alt : PS → List Nd × PS) (q : PS) : List Nd × PS := signs8 (q.s.size + 28) (atom8 alt q).1 (atom8 alt q).2
def catLoop8 (alt : PS → List Nd × PS) : Nat → List Nd → PS → List Nd × PS
  | 0, l, q => (l, q)
  | f + 1, l, q =>
    if q.more = true ∧ q.byte ≠ 124 ∧ q.byte ≠ 41 then
      let x := part8 alt q
      if x.2.e ≠ 0 then ([], x.2)
      else catLoop8 alt f (if l.length = 0 then x.1 else joinN 3 l x.1) x.2
    else (if l.length = 0 then [ndI 1 S4.zero] else l, q)
def cat8 (alt : PS → List Nd × PS) (q : PS) : List Nd × PS := catLoop8 alt (q.s.size + 28) [] q
def altLoop8 (alt : PS → List Nd × PS) : Nat → List Nd → PS → List Nd × PS
  | 0, l, q => (l, q)
  | f + 1, l, q =>
    if q.more = true ∧ q.byte = 124 then
      let x := cat8 alt q.inc
      if x.2.e ≠ 0 then ([], x.2) else altLoop8 alt f (joinN 4 l x.1) x.2
    else (l, q)
def alt8 (alt : PS → List Nd × PS) (q : PS) : List Nd × PS := altLoop8 alt (q.s.size + 28) (cat8 alt q).1 (cat8 alt q).2
def altN8 : Nat → PS → List Nd × PS
  | 0, q => ([], q)
  | n + 1, q => alt8 (altN8 n) q
structure Wa (q : PS) (x : List Nd × PS) (d : Int) (m : Nat) : Prop where
  mo : Mo q x.2
  at_ : q.at_ + m ≤ x.2.at_
  len : (x.1.length : Int) + 2 * q.at_ ≤ 2 * x.2.at_ + d
theorem atom8_wa {alt : PS → List Nd × PS} (ha : ∀ q, Wa q (alt q) 1 0) (q : PS) : Wa q (atom8 alt q) (-1) 1 := by
  have one : ∀ (x : Nd) (q' : PS), Mo q.inc q' → Wa q ([x], q') (-1) 1 := fun x q' h => by
    have := h.at_
    simp only [PS.inc] at this
    exact ⟨(Mo.inc q).trans h, this, by simp only [List.length_singleton]; omega⟩
  unfold atom8
  split
  · exact one _ _ (Mo.refl _)
  split
  · exact one _ _ (Mo.refl _)
  split
  · exact one _ _ (Mo.refl _)
  split
  · exact one _ _ (escape8_mo _)
  split
  · exact one _ _ (class8_mo _)
  split
  · exact one _ _ (Mo.fail _ _)
  split
  · exact one _ _ (Mo.fail _ _)
  split
  · split
    · have h0 : Mo q.inc q.inc.up := ⟨rfl, Nat.le_refl _, Nat.le_succ _⟩
      have h : Mo q (q.inc.up.fail 84) := ((Mo.inc q).trans h0).trans (Mo.fail _ 84)
      have e : (q.inc.up.fail 84).at_ = q.at_ + 1 := (fail_at _ _).1
      exact ⟨h, by rw [e]; exact Nat.le_refl _, by rw [e]; simp only [List.length_nil]; omega⟩
    · have h := ha q.inc.up
      dsimp only
      generalize alt q.inc.up = X at h
      obtain ⟨h1, h2, h3⟩ := h
      have f1 : ∀ y : PS, (y.out.s = y.s ∧ y.out.at_ = y.at_ + 1 ∧ y.out.deep = y.deep - 1) := fun y => ⟨rfl, rfl, rfl⟩
      have e : ∀ y, (if X.2.e = 0 ∧ X.2.s.size ≤ X.2.at_ then X.2.fail 83 else X.2) = y → y.s = X.2.s ∧ y.at_ = X.2.at_ ∧ y.deep = X.2.deep := fun y hy => by
        rw [← hy]; split
        · have := fail_at X.2 83; exact ⟨this.2.1, this.1, this.2.2⟩
        · exact ⟨rfl, rfl, rfl⟩
      obtain ⟨e1, e2, e3⟩ := e _ rfl
      have g1 := h1.s; have g2 := h1.at_; have g3 := h1.deep
      simp only [PS.up, PS.inc] at g1 g2 g3 h2 h3
      refine ⟨⟨by rw [(f1 _).1, e1, g1], by rw [(f1 _).2.1, e2]; omega, by rw [(f1 _).2.2, e3]; omega⟩, ?_, ?_⟩
      · simp only [(f1 _).2.1, e2]; omega
      · simp only [(f1 _).2.1, e2]; omega
  · exact one _ _ (Mo.refl _)
theorem signs8_wa : ∀ (f : Nat) (l : List Nd) (q : PS), Wa q (signs8 f l q) l.length 0
  | 0, l, q => ⟨Mo.refl _, Nat.le_refl _, by simp only [signs8]; omega⟩
  | f + 1, l, q => by
    unfold signs8
    split
    · have h := signs8_wa f (joinN (signOf q.byte : Nat) l []) q.inc
      have g := h.at_
      have k := h.len
      rw [joinN_length] at k
      have e : q.inc.at_ = q.at_ + 1 := rfl
      rw [e] at g k
      rw [List.length_nil] at k
      exact ⟨(Mo.inc q).trans h.mo, by omega, by push_cast at k; omega⟩
    · exact ⟨Mo.refl _, Nat.le_refl _, by show (l.length : Int) + 2 * q.at_ ≤ 2 * q.at_ + l.length; omega⟩
theorem part8_wa {alt : PS → List Nd × PS} (ha : ∀ q, Wa q (alt q) 1 0) (q : PS) : Wa q (part8 alt q) (-1) 1 := by
  have h1 := atom8_wa ha q
  have h2 := signs8_wa (q.s.size + 28) (atom8 alt q).1 (atom8 alt q).2
  exact ⟨h1.mo.trans h2.mo, by have := h1.at_; have := h2.at_; unfold part8; omega, by have := h1.len; have := h2.len; unfold part8; omega⟩
theorem catLoop8_wa {alt : PS → List Nd × PS} (ha : ∀ q, Wa q (alt q) 1 0) : ∀ (f : Nat) (l : List Nd) (q : PS), Wa q (catLoop8 alt f l q) (if l.length = 0 then 1 else l.length) 0
  | 0, l, q => ⟨Mo.refl _, Nat.le_refl _, by simp only [catLoop8]; split <;> omega⟩
  | f + 1, l, q => by
    unfold catLoop8
    split
    · have h1 := part8_wa ha q
      dsimp only
      generalize part8 alt q = X at h1
      obtain ⟨a1, a2, a3⟩ := h1
      split
      · exact ⟨a1, by simpa using Nat.le_of_succ_le a2, by simp only [List.length_nil]; split <;> omega⟩
      · have h2 := catLoop8_wa ha f (if l.length = 0 then X.1 else joinN 3 l X.1) X.2
        obtain ⟨b1, b2, b3⟩ := h2
        refine ⟨a1.trans b1, by omega, ?_⟩
        by_cases hl : l.length = 0
        · rw [if_pos hl] at b3
          rw [if_pos hl]
          split at b3 <;> omega
        · rw [if_neg hl] at b3
          rw [if_neg hl]
          rw [joinN_length] at b3
          rw [if_neg (by omega)] at b3
          push_cast at b3
          omega
    · refine ⟨Mo.refl _, Nat.le_refl _, ?_⟩
      by_cases hl : l.length = 0
      · rw [if_pos hl, if_pos hl]; simp; omega
      · rw [if_neg hl, if_neg hl]; simp only []; omega
theorem cat8_wa {alt : PS → List Nd × PS} (ha : ∀ q, Wa q (alt q) 1 0) (q : PS) : Wa q (cat8 alt q) 1 0 := catLoop8_wa ha _ [] q
theorem altLoop8_wa {alt : PS → List Nd × PS} (ha : ∀ q, Wa q (alt q) 1 0) : ∀ (f : Nat) (l : List Nd) (q : PS), Wa q (altLoop8 alt f l q) l.length 0
  | 0, l, q => ⟨Mo.refl _, Nat.le_refl _, by simp only [altLoop8]; omega⟩
  | f + 1, l, q => by
    unfold altLoop8
    split
    · have h1 := cat8_wa ha q.inc
      dsimp only
      generalize cat8 alt q.inc = X at h1
      obtain ⟨a1, a2, a3⟩ := h1
      simp only [PS.inc] at a2 a3
      have a1' := (Mo.inc q).trans a1
      split
      · exact ⟨a1', by simp only []; omega, by simp only [List.length_nil]; omega⟩
      · obtain ⟨b1, b2, b3⟩ := altLoop8_wa ha f (joinN 4 l X.1) X.2
        rw [joinN_length] at b3
        push_cast at b3
        exact ⟨a1'.trans b1, by omega, by omega⟩
    · exact ⟨Mo.refl _, Nat.le_refl _, by simp only []; omega⟩
theorem alt8_wa {alt : PS → List Nd × PS} (ha : ∀ q, Wa q (alt q) 1 0) (q : PS) : Wa q (alt8 alt q) 1 0 := by
  have h1 := cat8_wa ha q
  have h2 := altLoop8_wa ha (q.s.size + 28) (cat8 alt q).1 (cat8 alt q).2
  exact ⟨h1.mo.trans h2.mo, by have := h1.at_; have := h2.at_; unfold alt8; omega, by have := h1.len; have := h2.len; unfold alt8; omega⟩
theorem altN8_wa : ∀ (n : Nat) (q : PS), Wa q (altN8 n q) 1 0
  | 0, q => ⟨Mo.refl _, Nat.le_refl _, by simp only [altN8, List.length_nil]; omega⟩
  | n + 1, q => alt8_wa (altN8_wa n) q
end PS
end Go.Proofs.Ytaffcoiomggpfaa

/- Contracts of package jobmuxref08 (6): Parse. -/
namespace Go.Proofs.Ytaffcoiomggpfaa
open Go.V
attribute [local irreducible] app
set_option linter.constructorNameAsVariable false
set_option linter.unusedVariables false

def NL (H : Heap) (b : Nat) (p : OA) (l c : Nat) (L : List Nd) : Prop := l = L.length ∧ Vec H 7 p l c (flat L) ∧ ∀ j, blk p j → j ≠ b
theorem NL.exb {H H' : Heap} {b : Nat} {p : OA} {l c : Nat} {L : List Nd} (h : NL H b p l c L) (he : Exb b H H') : NL H' b p l c L :=
  ⟨h.1, h.2.1.keep fun i hi hn => by
    cases hh : H i with
    | none => exact absurd hh hn
    | some o => exact he i o (h.2.2 i hi) hh, h.2.2⟩
theorem NL.nil (H : Heap) (b : Nat) : NL H b none 0 0 [] := ⟨rfl, Vec.nil H 7, fun j hj => by obtain ⟨a, ha, _⟩ := hj; cases ha⟩
def AltC (alt : PS → List Nd × PS) (d : Nat) : Prop := ∀ (H : Heap) (b : Nat) (q : PS) (Q : Value → Heap → Prop) (E : Chain → Heap → Prop), PSs H b q → d ≤ q.deep →
  (∀ H' p c, PSs H' b (alt q).2 → Exb b H H' → NL H' b p (alt q).1.length c (alt q).1 → Q (.slice p (alt q).1.length c) H') → Does Pr 56 #[.pointer (some ⟨b, 0, none⟩)] H Q E
variable {H : Heap} {b d : Nat} {q : PS} {Q : QT} {E : ET} {alt : PS → List Nd × PS}

theorem atom8_c (hw : ∀ q, PS.Wa q (alt q) 1 0) (hp : d + 1 ≤ 24 → AltC alt (d + 1)) (h : PSs H b q) (h0 : q.e = 0) (hlt : q.at_ < q.s.size) (hd : d ≤ q.deep)
    (hk : ∀ H' p c L q', PS.atom8 alt q = (L, q') → PSs H' b q' → Exb b H H' → NL H' b p L.length c L → Q (.slice p L.length c) H') : Does Pr 105 #[.pointer (some ⟨b, 0, none⟩)] H Q E := by
  refine zql_fn _ Q E H ?_
  obtain ⟨g1, g2, g3, g4⟩ := id h
  have hbyte : byteAt q.s q.at_ = q.byte := rfl
  have hb255 : q.byte ≤ 255 := byteAt_le _ _
  unfold zql zql_81
  simp only [ptr_some]
  refine h.ldStr (h.ldAt ⟨⟨by omega, by omega⟩, ?_⟩)
  rw [sAt_nat, hbyte]
  unfold zql_78
  simp only [ptr_some]
  refine h.ldAt (h.incS (by have := (g3 h0).2; omega) (fun _ => hlt) fun H1 h1 hx1 => ?_)
  have leafk : ∀ (k : Int) (s : S4) (q' : PS) (H2 : Heap), PS.atom8 alt q = ([ndI k s], q') → PSs H2 b q' → Exb b H1 H2 →
      Does Pr 101 #[.int .i64 k, .agg s.cells] H2 (fun v H3 => ∃ (p : OA) (l c : Nat), v = .slice p l c ∧ Q (.slice p l c) H3) E := by
    intro k s q' H2 hq h2 hx2
    refine leaf_c fun H3 p c he3 hv3 hf3 => ⟨p, 1, c, rfl, ?_⟩
    exact hk H3 p c [ndI k s] q' hq (h2.ext he3) ((hx1.trans hx2).trans (he3.exb b)) ⟨rfl, hv3, fun j hj e => by subst e; exact absurd (hf3 _ hj) (by rw [h2.2.2.2]; simp)⟩
  have mkk : ∀ (q' : PS) (H2 : Heap), PS.atom8 alt q = ([ndI 2 (S4.zero.with1 q.byte)], q') → PSs H2 b q' → Exb b H1 H2 → zql_1 Q E (q.byte : Nat) H2 := by
    intro q' H2 hq h2 hx2
    unfold zql_1
    refine With_c (s := S4.zero) hb255 fun H3 he3 => ⟨_, _, _, _, rfl, ?_⟩
    exact leafk 2 _ q' H3 hq (h2.ext he3) (hx2.trans (he3.exb b))
  unfold zql_74 zql_70 zql_68
  refine sel_beq (fun hc => ?_) (fun c46 => ?_)
  · unfold zql_3
    refine With_c (s := S4.zero) (b := 10) (by omega) fun H3 he3 => ⟨_, _, _, _, rfl, ?_⟩
    refine Not_c (s := S4.zero.with1 10) fun H4 he4 => ⟨_, _, _, _, rfl, ?_⟩
    exact leafk 2 _ q.inc H4 (by unfold PS.atom8; rw [if_pos (by omega)]) ((h1.ext he3).ext he4) ((he3.trans he4).exb b)
  unfold zql_65 zql_63
  refine sel_beq (fun hc => ?_) (fun c94 => ?_)
  · unfold zql_5
    exact leafk 8 S4.zero q.inc H1 (by unfold PS.atom8; rw [if_neg (by omega), if_pos (by omega)]) h1 (Exb.refl _ _)
  unfold zql_60 zql_58
  refine sel_beq (fun hc => ?_) (fun c36 => ?_)
  · unfold zql_7
    exact leafk 9 S4.zero q.inc H1 (by unfold PS.atom8; rw [if_neg (by omega), if_neg (by omega), if_pos (by omega)]) h1 (Exb.refl _ _)
  unfold zql_55 zql_53
  refine sel_beq (fun hc => ?_) (fun c92 => ?_)
  · unfold zql_9
    refine escape8_c h1 h0 fun H3 s x q3 hq3 h3 hx3 => ⟨_, _, _, _, _, rfl, ?_⟩
    refine nw_ext fun i H4 hi he4 hc4 => ?_
    have hc4 : H4 i = some (cs S4.zero) := hc4
    refine S4.wr s hc4 ⟨_, _, _, _, S4.rd (s := s) (Heap.set_self _ _ _), ?_⟩
    have he5 : Ext H3 (H4.set i (.cells s.cells 46 (0, 0))) := he4.set hi _
    refine leafk 2 s q3 _ ?_ (h3.ext he5) (hx3.trans (he5.exb b))
    unfold PS.atom8; rw [if_neg (by omega), if_neg (by omega), if_neg (by omega), if_pos (by omega), hq3]
  unfold zql_50 zql_48
  refine sel_beq (fun hc => ?_) (fun c91 => ?_)
  · unfold zql_11
    refine class8_c h1 h0 fun H3 s q3 hq3 h3 hx3 => ⟨_, _, _, _, rfl, ?_⟩
    refine leafk 2 s q3 H3 ?_ h3 hx3
    unfold PS.atom8; rw [if_neg (by omega), if_neg (by omega), if_neg (by omega), if_neg (by omega), if_pos (by omega), hq3]
  unfold zql_45 zql_43
  refine sel_beq (fun hc => ?_) (fun c93 => ?_)
  · unfold zql_13
    refine pfail_c (by decide) h1 fun H3 h3 hx3 => mkk _ H3 ?_ h3 hx3
    unfold PS.atom8; rw [if_neg (by omega), if_neg (by omega), if_neg (by omega), if_neg (by omega), if_neg (by omega), if_pos (by omega)]
  have rep : (q.byte = 42 ∨ q.byte = 43 ∨ q.byte = 63) → zql_15 Q E (some ⟨b, 0, none⟩) (q.byte : Nat) H1 := by
    intro hc
    unfold zql_15
    refine pfail_c (by decide) h1 fun H3 h3 hx3 => mkk _ H3 ?_ h3 hx3
    unfold PS.atom8; rw [if_neg (by omega), if_neg (by omega), if_neg (by omega), if_neg (by omega), if_neg (by omega), if_neg (by omega), if_pos hc]
  unfold zql_40 zql_38
  refine sel_beq (fun hc => ?_) (fun c42 => ?_)
  · exact sel_beq (fun _ => rep (by omega)) (fun h => absurd hc h)
  refine sel_beq (fun hc => ?_) (fun c43 => ?_)
  · exact sel_beq (fun _ => rep (by omega)) (fun h => absurd hc h)
  refine sel_beq (fun hc => rep (by omega)) (fun c63 => ?_)
  unfold zql_35 zql_33
  refine sel_beq (fun hc => ?_) (fun c40 => ?_)
  · have hA : PS.atom8 alt q = if 24 < q.deep + 1 then ([], q.inc.up.fail 84) else
        ((alt q.inc.up).1, (if (alt q.inc.up).2.e = 0 ∧ (alt q.inc.up).2.s.size ≤ (alt q.inc.up).2.at_ then (alt q.inc.up).2.fail 83 else (alt q.inc.up).2).out) := by
      unfold PS.atom8; rw [if_neg (by omega), if_neg (by omega), if_neg (by omega), if_neg (by omega), if_neg (by omega), if_neg (by omega), if_neg (by omega), if_pos (by omega)]
    unfold zql_28
    simp only [ptr_some]
    refine h1.ldDeep ?_
    have hdw : IntKind.wrap .i64 (((q.inc.deep : Nat) : Int) + 1) = ((q.deep + 1 : Nat) : Int) := by
      have : q.inc.deep = q.deep := rfl
      rw [this, IntWalk.i64_in _ (by omega)]; omega
    rw [hdw, add_at]
    have hq24 := (g3 h0).2
    refine wr_new h1.2.2.2 (by simp [PS.cells]) rfl (c' := q.inc.up.cells) rfl fun H2 hc2 hb2 => ?_
    have hx2 : Exb b H1 H2 := fun j o hj ho => by rw [hb2 j hj]; exact ho
    rw [← add_at]
    simp only [add_at]
    refine ldI_at (n := ((q.deep + 1 : Nat) : Int)) hc2 rfl ?_
    refine sel_dec (fun hgt => ?_) (fun hle => ?_)
    · rw [if_pos (by omega)] at hA
      have e : q.inc.up.fail 84 = { q.inc.up with e := 84 } := if_pos h0
      have hraw : Does Pr 57 #[.pointer (some ⟨b, 0, none⟩), .int .i64 84] H2 (fun v H3 => Q (.slice none 0 0) H3) E := by
        refine zqd_fn _ _ _ _ H2 ?_
        unfold zqd
        simp only [ptr_some, add_at]
        refine ldI_at (n := q.e) hc2 rfl (sel_beq (fun _ => ?_) (fun h => absurd h0 h))
        refine wr_new hc2 (by simp [PS.cells]) rfl (c' := (q.inc.up.fail 84).cells) (by rw [e]; rfl) fun H3 hc3 hb3 => ?_
        refine hk H3 none 0 [] _ hA ⟨by rw [e]; exact g1, by rw [e]; show q.at_ + 1 + (q.deep + 1) ≤ q.s.size + 26; omega, fun h => by rw [e] at h; exact absurd h (by show ¬ (84 : Int) = 0; decide), hc3⟩ ((hx1.trans hx2).trans fun j o hj ho => by rw [hb3 j hj]; exact ho) (NL.nil _ _)
      exact hraw
    · rw [if_neg (by omega)] at hA
      have h2 : PSs H2 b q.inc.up := ⟨g1, by show q.at_ + 1 + (q.deep + 1) ≤ q.s.size + 26; omega, fun _ => ⟨hlt, by show q.deep + 1 ≤ 24; omega⟩, hc2⟩
      unfold zql_25
      refine hp (by omega) H2 b q.inc.up _ _ h2 (by show d + 1 ≤ q.deep + 1; omega) fun H3 p c h3 hx3 hn3 => ⟨_, _, _, rfl, ?_⟩
      have hmo := (hw q.inc.up).mo
      generalize alt q.inc.up = X at hA h3 hn3 hmo
      have fin : ∀ (q4 : PS) (H4 : Heap), (if X.2.e = 0 ∧ X.2.s.size ≤ X.2.at_ then X.2.fail 83 else X.2) = q4 → PSs H4 b q4 → Exb b H3 H4 →
          zql_17 Q E (some ⟨b, 0, none⟩) p X.1.length c H4 := by
        intro q4 H4 hq4 h4 hx4
        have hq : q4.at_ = X.2.at_ ∧ q4.s = X.2.s ∧ q4.deep = X.2.deep ∧ (q4.e = 0 → X.2.e = 0 ∧ X.2.at_ < X.2.s.size) := by
          rw [← hq4]; split
          · have := PS.fail_at X.2 83
            exact ⟨this.1, this.2.1, this.2.2, fun h => absurd h (PS.fail_e _ (by decide))⟩
          · rename_i hno
            exact ⟨rfl, rfl, rfl, fun h => ⟨h, by have := fun h' => hno ⟨h, h'⟩; omega⟩⟩
        have hdeep : 1 ≤ q4.deep := by rw [hq.2.2.1]; have := hmo.deep; have e : q.inc.up.deep = q.deep + 1 := rfl; omega
        obtain ⟨k1, k2, k3, k4⟩ := h4
        unfold zql_17
        simp only [ptr_some, add_at]
        refine ldI_at (n := ((q4.at_ : Nat) : Int)) k4 rfl ?_
        have w1 : IntKind.wrap .i64 (((q4.at_ : Nat) : Int) + 1) = ((q4.at_ + 1 : Nat) : Int) := by rw [IntWalk.i64_in _ (by omega)]; omega
        rw [w1]
        refine wr_new k4 (by simp [PS.cells]) rfl (c' := q4.inc.cells) rfl fun H5 hc5 hb5 => ?_
        refine ldI_at (n := ((q4.deep : Nat) : Int)) hc5 rfl ?_
        have w2 : IntKind.wrap .i64 (((q4.deep : Nat) : Int) - 1) = ((q4.deep - 1 : Nat) : Int) := by rw [IntWalk.i64_in _ (by omega)]; omega
        rw [w2]
        refine wr_new hc5 (by simp [PS.cells]) rfl (c' := q4.out.cells) rfl fun H6 hc6 hb6 => ?_
        have hx6 : Exb b H4 H6 := fun j o hj ho => by rw [hb6 j hj, hb5 j hj]; exact ho
        refine hk H6 p c X.1 q4.out (by rw [hA, hq4]) ⟨k1, by show q4.at_ + 1 + (q4.deep - 1) ≤ q4.s.size + 26; omega, fun he => ?_, hc6⟩ ((((hx1.trans hx2).trans hx3).trans hx4).trans hx6) (hn3.exb (hx4.trans hx6))
        have := hq.2.2.2 he
        have := k3 he
        refine ⟨?_, ?_⟩
        · show q4.at_ + 1 ≤ q4.s.size
          rw [hq.1, hq.2.1]; omega
        · show q4.deep - 1 ≤ 24
          omega
      unfold zql_21
      simp only [ptr_some]
      refine h3.ldE (sel_beq (fun he => ?_) (fun he => ?_))
      · refine h3.ldAt (h3.ldStr ?_)
        unfold zql_19
        refine sel_dec (fun hge => ?_) (fun hlt' => ?_)
        · exact pfail_c (by decide) h3 fun H4 h4 hx4 => fin _ H4 (if_pos ⟨he, by omega⟩) h4 hx4
        · exact fin _ H3 (if_neg (fun h => by omega)) h3 (Exb.refl _ _)
      · unfold zql_19
        exact sel_ff (fin _ H3 (if_neg (fun h => he h.1)) h3 (Exb.refl _ _))
  · unfold zql_31
    refine mkk q.inc H1 ?_ h1 (Exb.refl _ _)
    unfold PS.atom8; rw [if_neg (by omega), if_neg (by omega), if_neg (by omega), if_neg (by omega), if_neg (by omega), if_neg (by omega), if_neg (by omega), if_neg (by omega)]
theorem signOf_42 {n : Nat} (h : (n : Int) = 42) : signOf n = 5 := by unfold signOf; rw [if_pos (by omega)]
theorem signOf_43 {n : Nat} (h : (n : Int) = 43) : signOf n = 6 := by unfold signOf; rw [if_neg (by omega), if_pos (by omega)]
theorem signOf_63 {n : Nat} (h : (n : Int) = 63) : signOf n = 7 := by unfold signOf; rw [if_neg (by omega), if_neg (by omega), if_pos (by omega)]
theorem signOf_no {n : Nat} (h : (n : Int) ≠ 42) (h' : (n : Int) ≠ 43) (h'' : (n : Int) ≠ 63) : signOf n = 0 := by unfold signOf; rw [if_neg (by omega), if_neg (by omega), if_neg (by omega)]
theorem part8_c (hw : ∀ q, PS.Wa q (alt q) 1 0) (hp : d + 1 ≤ 24 → AltC alt (d + 1)) (h : PSs H b q) (h0 : q.e = 0) (hlt : q.at_ < q.s.size) (hd : d ≤ q.deep)
    (hk : ∀ H' p c L q', PS.part8 alt q = (L, q') → PSs H' b q' → Exb b H H' → NL H' b p L.length c L → Q (.slice p L.length c) H') : Does Pr 100 #[.pointer (some ⟨b, 0, none⟩)] H Q E := by
  refine zqi_fn _ Q E H ?_
  unfold zqi zqi_16
  refine atom8_c hw hp h h0 hlt hd fun H1 p c L q1 hq1 h1 hx1 hn1 => ⟨_, _, _, rfl, ?_⟩
  have hwa := PS.atom8_wa hw q
  have hR : PS.part8 alt q = PS.signs8 (q.s.size + 28) L q1 := by unfold PS.part8; rw [hq1]
  rw [hq1] at hwa
  obtain ⟨w1, w2, w3⟩ := hwa
  dsimp only at w1 w2 w3
  have hs := h.1
  unfold zqi_12
  refine ⟨fun p l c H' => ∃ (f : Nat) (L : List Nd) (q' : PS), l = L.length ∧ q'.s.size + 27 < f + q'.at_ ∧ PS.signs8 f L q' = PS.part8 alt q ∧ q'.s = q.s ∧ PSs H' b q' ∧ Exb b H H' ∧ NL H' b p L.length c L ∧ (L.length : Int) ≤ 2 * q'.at_ + 1,
    fun _ _ _ H' => q.s.size + 27 - atOf b H', ⟨_, L, q1, rfl, by rw [w1.s]; omega, hR.symm, w1.s, h1, hx1, hn1, by omega⟩, ?_⟩
  rintro p l c H2 ⟨f, L, q', rfl, hf, hr, hs', h2, hx2, hn2, hL⟩
  have h2b := h2.2.1
  have h2s := h2.1
  cases f with
  | zero => omega
  | succ f =>
    simp only [PS.signs8] at hr
    have fin : ¬ (q'.more = true ∧ signOf q'.byte ≠ 0) → Q (.slice p L.length c) H2 := fun hno => by
      rw [if_neg hno] at hr
      exact hk H2 p c L q' hr.symm h2 hx2 hn2
    unfold zqi_9
    refine more_c h2 ⟨_, rfl, sel_mk (fun hm => ?_) (fun hm => ?_)⟩
    · obtain ⟨m1, m2⟩ := PS.more_iff.1 hm
      unfold zqi_5
      simp only [ptr_some]
      refine h2.ldStr (h2.ldAt ⟨⟨by omega, by omega⟩, ?_⟩)
      rw [sAt_nat]
      have hbyte : byteAt q'.s q'.at_ = q'.byte := rfl
      rw [hbyte]
      have go : ∀ k : Nat, signOf q'.byte = k → k ≠ 0 → Does Pr 91 #[.int .i64 (k : Nat), .slice p L.length c, .slice none 0 0] H2 (fun v H3 => ∃ (p' : OA) (l' c' : Nat), v = .slice p' l' c' ∧
          zqi_3 (fun p l c H' => (∃ (f : Nat) (L : List Nd) (q' : PS), l = L.length ∧ q'.s.size + 27 < f + q'.at_ ∧ PS.signs8 f L q' = PS.part8 alt q ∧ q'.s = q.s ∧ PSs H' b q' ∧ Exb b H H' ∧ NL H' b p L.length c L ∧ (L.length : Int) ≤ 2 * q'.at_ + 1) ∧
            q.s.size + 27 - atOf b H' < q.s.size + 27 - atOf b H2) Q E (some ⟨b, 0, none⟩) p' l' c' H3) E := by
        intro k hk' hk0
        rw [if_pos ⟨hm, by rw [hk']; exact hk0⟩, hk'] at hr
        refine join_c (L := L) (R := []) hn2.2.1 (Vec.nil _ 7) rfl rfl (by omega) fun H3 p3 c3 he3 hv3 hf3 => ⟨_, _, _, rfl, ?_⟩
        have h3 := h2.ext he3
        unfold zqi_3
        simp only [ptr_some]
        refine h3.ldAt (h3.incS (by have := (h2.2.2.1 m1).2; omega) (fun _ => m2) fun H4 h4 hx4 => ?_)
        have hn3 : NL H3 b p3 (joinN (k : Nat) L []).length c3 (joinN (k : Nat) L []) := ⟨rfl, hv3, fun j hj e => by subst e; exact absurd (hf3 _ hj) (by rw [h2.2.2.2]; simp)⟩
        have hl := joinN_length (k : Nat) L []
        refine ⟨⟨f, _, q'.inc, rfl, by show q'.s.size + 27 < f + (q'.at_ + 1); omega, hr, hs', h4, (hx2.trans (he3.exb b)).trans hx4, hn3.exb hx4, by rw [hl]; show _ ≤ 2 * ((q'.at_ + 1 : Nat) : Int) + 1; simp only [List.length_nil]; omega⟩, ?_⟩
        rw [h4.atOf, h2.atOf]
        show q.s.size + 27 - (q'.at_ + 1) < _
        rw [hs'] at m2
        omega
      refine sel_beq (fun hc => go 5 (signOf_42 hc) (by decide)) (fun c1 => ?_)
      refine sel_beq (fun hc => go 6 (signOf_43 hc) (by decide)) (fun c2 => ?_)
      refine sel_beq (fun hc => go 7 (signOf_63 hc) (by decide)) (fun c3 => ?_)
      exact fin (by rw [signOf_no c1 c2 c3]; simp)
    · unfold zqi_1
      exact fin (by simp [hm])
theorem cat8_c (hw : ∀ q, PS.Wa q (alt q) 1 0) (hp : d + 1 ≤ 24 → AltC alt (d + 1)) (h : PSs H b q) (hd : d ≤ q.deep)
    (hk : ∀ H' p c L q', PS.cat8 alt q = (L, q') → PSs H' b q' → Exb b H H' → NL H' b p L.length c L → Q (.slice p L.length c) H') : Does Pr 89 #[.pointer (some ⟨b, 0, none⟩)] H Q E := by
  refine zqf_fn _ Q E H ?_
  have hs := h.1
  unfold zqf zqf_25 zqf_21
  refine ⟨fun p l c H' => ∃ (f : Nat) (L : List Nd) (q' : PS), l = L.length ∧ q'.s.size + 27 < f + q'.at_ ∧ PS.catLoop8 alt f L q' = PS.cat8 alt q ∧ q'.s = q.s ∧ d ≤ q'.deep ∧ PSs H' b q' ∧ Exb b H H' ∧ NL H' b p L.length c L ∧ (L.length : Int) ≤ 2 * q'.at_ + 1,
    fun _ _ _ H' => q.s.size + 27 - atOf b H', ⟨q.s.size + 28, [], q, rfl, by omega, rfl, rfl, hd, h, Exb.refl _ _, NL.nil _ _, by simp only [List.length_nil]; omega⟩, ?_⟩
  rintro p l c H2 ⟨f, L, q', rfl, hf, hr, hs', hd', h2, hx2, hn2, hL⟩
  have h2b := h2.2.1
  cases f with
  | zero => omega
  | succ f =>
    simp only [PS.catLoop8] at hr
    -- the end
    have stop : ¬ (q'.more = true ∧ q'.byte ≠ 124 ∧ q'.byte ≠ 41) → zqf_3 Q E p L.length c H2 := fun hno => by
      rw [if_neg hno] at hr
      unfold zqf_3
      refine sel_beq (fun hl => ?_) (fun hl => ?_)
      · rw [if_pos (by omega)] at hr
        refine leaf_c (s := S4.zero) fun H3 p3 c3 he3 hv3 hf3 => ⟨_, _, _, rfl, ?_⟩
        exact hk H3 p3 c3 [ndI 1 S4.zero] q' hr.symm (h2.ext he3) (hx2.trans (he3.exb b)) ⟨rfl, hv3, fun j hj e => by subst e; exact absurd (hf3 _ hj) (by rw [h2.2.2.2]; simp)⟩
      · rw [if_neg (by omega)] at hr
        unfold zqf_1
        exact hk H2 p c L q' hr.symm h2 hx2 hn2
    have off : ¬ (q'.more = true ∧ q'.byte ≠ 124 ∧ q'.byte ≠ 41) → ∀ nx, zqf_15 nx Q E (some ⟨b, 0, none⟩) p L.length c false H2 := fun hno nx => by
      unfold zqf_15
      exact sel_ff (stop hno)
    unfold zqf_17
    refine more_c h2 ⟨_, rfl, sel_mk (fun hm => ?_) (fun hm => off (by simp [hm]) _)⟩
    obtain ⟨m1, m2⟩ := PS.more_iff.1 hm
    have hbyte : byteAt q'.s q'.at_ = q'.byte := rfl
    simp only [ptr_some]
    refine h2.ldStr (h2.ldAt ⟨⟨by omega, by omega⟩, ?_⟩)
    rw [sAt_nat, hbyte]
    refine sel_bne (fun c1 => ?_) (fun c1 => off (by intro h; omega) _)
    refine h2.ldStr (h2.ldAt ⟨⟨by omega, by omega⟩, ?_⟩)
    rw [sAt_nat, hbyte]
    unfold zqf_15
    refine sel_bne (fun c2 => ?_) (fun c2 => stop (by intro h; omega))
    rw [if_pos ⟨hm, by omega, by omega⟩] at hr
    unfold zqf_11
    refine part8_c hw hp h2 m1 m2 hd' fun H3 p3 c3 L3 q3 hq3 h3 hx3 hn3 => ⟨_, _, _, rfl, ?_⟩
    have hwa := PS.part8_wa hw q'
    rw [hq3] at hwa hr
    obtain ⟨w1, w2, w3⟩ := hwa
    dsimp only at w1 w2 w3 hr
    unfold zqf_8
    simp only [ptr_some]
    refine h3.ldE (sel_bne (fun he => ?_) (fun he => ?_))
    · rw [if_pos he] at hr
      exact hk H3 none 0 [] q3 hr.symm h3 (hx2.trans hx3) (NL.nil _ _)
    rw [if_neg (by simp [he])] at hr
    have hlt : q.s.size + 27 - q3.at_ < q.s.size + 27 - q'.at_ := by rw [hs'] at m2; omega
    unfold zqf_6
    refine sel_beq (fun hl => ?_) (fun hl => ?_)
    · rw [if_pos (by omega)] at hr
      refine ⟨⟨f, L3, q3, rfl, by rw [w1.s]; omega, hr, w1.s.trans hs', Nat.le_trans hd' w1.deep, h3, hx2.trans hx3, hn3, by omega⟩, ?_⟩
      rw [h3.atOf, h2.atOf]; exact hlt
    · rw [if_neg (by omega)] at hr
      have h3b := h3.2.1
      rw [w1.s] at h3b
      have h2s := h2.1
      have hl := joinN_length 3 L L3
      refine join_c (L := L) (R := L3) (hn2.exb hx3).2.1 hn3.2.1 rfl rfl (by omega) fun H4 p4 c4 he4 hv4 hf4 => ⟨_, _, _, rfl, ?_⟩
      have h4 := h3.ext he4
      refine ⟨⟨f, joinN 3 L L3, q3, rfl, by rw [w1.s]; omega, hr, w1.s.trans hs', Nat.le_trans hd' w1.deep, h4, (hx2.trans hx3).trans (he4.exb b), ⟨rfl, hv4, fun j hj e => by subst e; exact absurd (hf4 _ hj) (by rw [h3.2.2.2]; simp)⟩, by rw [hl]; push_cast; omega⟩, ?_⟩
      rw [h4.atOf, h2.atOf]; exact hlt
theorem alt8_c (hw : ∀ q, PS.Wa q (alt q) 1 0) (hp : d + 1 ≤ 24 → AltC alt (d + 1)) : AltC (PS.alt8 alt) d := by
  intro H b q Q E h hd hk
  refine zqc_fn _ Q E H ?_
  have hs := h.1
  unfold zqc zqc_25
  refine cat8_c hw hp h hd fun H1 p c L q1 hq1 h1 hx1 hn1 => ⟨_, _, _, rfl, ?_⟩
  have hwa := PS.cat8_wa hw q
  have hR : PS.alt8 alt q = PS.altLoop8 alt (q.s.size + 28) L q1 := by unfold PS.alt8; rw [hq1]
  rw [hq1] at hwa
  obtain ⟨w1, w2, w3⟩ := hwa
  dsimp only at w1 w2 w3
  unfold zqc_21
  refine ⟨fun p l c H' => ∃ (f : Nat) (L : List Nd) (q' : PS), l = L.length ∧ q'.s.size + 27 < f + q'.at_ ∧ PS.altLoop8 alt f L q' = PS.alt8 alt q ∧ q'.s = q.s ∧ d ≤ q'.deep ∧ PSs H' b q' ∧ Exb b H H' ∧ NL H' b p L.length c L ∧ (L.length : Int) ≤ 2 * q'.at_ + 1,
    fun _ _ _ H' => q.s.size + 27 - atOf b H', ⟨q.s.size + 28, L, q1, rfl, by rw [w1.s]; omega, hR.symm, w1.s, Nat.le_trans hd w1.deep, h1, hx1, hn1, by omega⟩, ?_⟩
  rintro p l c H2 ⟨f, L, q', rfl, hf, hr, hs', hd', h2, hx2, hn2, hL⟩
  have h2b := h2.2.1
  cases f with
  | zero => omega
  | succ f =>
    simp only [PS.altLoop8] at hr
    have stop : ¬ (q'.more = true ∧ q'.byte = 124) → Q (.slice p L.length c) H2 := fun hno => by
      rw [if_neg hno] at hr
      rw [← hr] at hk
      exact hk H2 p c h2 hx2 hn2
    unfold zqc_17
    refine more_c h2 ⟨_, rfl, sel_mk (fun hm => ?_) (fun hm => ?_)⟩
    · obtain ⟨m1, m2⟩ := PS.more_iff.1 hm
      have hbyte : byteAt q'.s q'.at_ = q'.byte := rfl
      simp only [ptr_some]
      refine h2.ldStr (h2.ldAt ⟨⟨by omega, by omega⟩, ?_⟩)
      rw [sAt_nat, hbyte]
      unfold zqc_15
      refine sel_beq (fun c1 => ?_) (fun c1 => ?_)
      · rw [if_pos ⟨hm, by omega⟩] at hr
        unfold zqc_11
        simp only [ptr_some]
        refine h2.ldAt (h2.incS (by have := (h2.2.2.1 m1).2; omega) (fun _ => m2) fun H3 h3 hx3 => ?_)
        unfold zqc_8
        refine cat8_c hw hp h3 hd' fun H4 p4 c4 L4 q4 hq4 h4 hx4 hn4 => ⟨_, _, _, rfl, ?_⟩
        have hwa := PS.cat8_wa hw q'.inc
        rw [hq4] at hwa hr
        obtain ⟨w1, w2, w3⟩ := hwa
        dsimp only at w1 w2 w3 hr
        have e1 : q'.inc.at_ = q'.at_ + 1 := rfl
        rw [e1] at w2 w3
        have e2 : q4.s = q'.s := w1.s
        have e3 : q'.deep ≤ q4.deep := w1.deep
        unfold zqc_5
        simp only [ptr_some]
        refine h4.ldE (sel_bne (fun he => ?_) (fun he => ?_))
        · rw [if_pos he] at hr
          rw [← hr] at hk
          exact hk H4 none 0 h4 ((hx2.trans hx3).trans hx4) (NL.nil _ _)
        rw [if_neg (by simp [he])] at hr
        have h4b := h4.2.1
        rw [e2] at h4b
        have h2s := h2.1
        have hl := joinN_length 4 L L4
        unfold zqc_3
        refine join_c (L := L) (R := L4) (hn2.exb (hx3.trans hx4)).2.1 hn4.2.1 rfl rfl (by omega) fun H5 p5 c5 he5 hv5 hf5 => ⟨_, _, _, rfl, ?_⟩
        have h5 := h4.ext he5
        refine ⟨⟨f, joinN 4 L L4, q4, rfl, by rw [e2]; omega, hr, e2.trans hs', Nat.le_trans hd' e3, h5, ((hx2.trans hx3).trans hx4).trans (he5.exb b), ⟨rfl, hv5, fun j hj e => by subst e; exact absurd (hf5 _ hj) (by rw [h4.2.2.2]; simp)⟩, by rw [hl]; push_cast; push_cast at w3; omega⟩, ?_⟩
        rw [h5.atOf, h2.atOf]
        rw [hs'] at m2
        omega
      · unfold zqc_1
        exact stop (by intro h; omega)
    · unfold zqc_15 zqc_1
      exact sel_ff (stop (by simp [hm]))
theorem altN8_c : ∀ (n d : Nat), 24 < n + d → d ≤ 24 → AltC (PS.altN8 n) d
  | 0, d, h, h' => by omega
  | n + 1, d, h, h' => alt8_c (PS.altN8_wa n) fun h2 => altN8_c n (d + 1) (by omega) h2
def rParse (s : ByteArray) : List Nd × Int :=
  if 128 < s.size then ([], 1)
  else
    let x := PS.altN8 25 ⟨s, 0, 0, 0⟩
    let q1 := if x.2.e = 0 ∧ x.2.at_ < s.size then x.2.fail 83 else x.2
    let q2 := if q1.e = 0 ∧ 256 < x.1.length then q1.fail 1 else q1
    if q2.e ≠ 0 then ([], q2.e) else (x.1, 0)
theorem rParse_c {s : ByteArray} (hk : ∀ H' p c L e, rParse s = (L, e) → L.length ≤ 256 → Ext H H' → Vec H' 7 p L.length c (flat L) → Q (.tuple #[.slice p L.length c, .int .i64 e]) H') :
    Does Pr 23 #[.string s] H Q E := by
  refine zqa_fn _ Q E H ?_
  unfold zqa zqa_24
  refine sel_dec (fun hd => ?_) (fun hd => ?_)
  · exact hk H none 0 [] 1 (by unfold rParse; rw [if_pos (by omega)]) (by simp) (Ext.refl _) (Vec.nil _ 7)
  unfold zqa_21
  refine nw_ext fun i H1 hi he1 hc1 => ?_
  have h1 : PSs H1 i ⟨s, 0, 0, 0⟩ := ⟨by show s.size ≤ 4096; omega, by show 0 + 0 ≤ s.size + 26; omega, fun _ => ⟨by show 0 ≤ s.size; omega, by show 0 ≤ 24; omega⟩, hc1⟩
  unfold zqa_18
  refine altN8_c 25 0 (by omega) (by omega) H1 i _ _ _ h1 (Nat.zero_le _) fun H2 p c h2 hx2 hn2 => ⟨_, _, _, rfl, ?_⟩
  have hR : rParse s = (let x := PS.altN8 25 ⟨s, 0, 0, 0⟩
    let q1 := if x.2.e = 0 ∧ x.2.at_ < s.size then x.2.fail 83 else x.2
    let q2 := if q1.e = 0 ∧ 256 < x.1.length then q1.fail 1 else q1
    if q2.e ≠ 0 then ([], q2.e) else (x.1, 0)) := by unfold rParse; rw [if_neg (by omega)]
  have hwa := PS.altN8_wa 25 ⟨s, 0, 0, 0⟩
  dsimp only at hR
  revert hwa hR h2 hn2
  generalize PS.altN8 25 ⟨s, 0, 0, 0⟩ = X
  intro h2 hn2 hR hwa
  have hxs : X.2.s = s := hwa.mo.s
  have ext : ∀ H', Exb i H2 H' → Ext H H' := fun H' hx j o hj => by
    have hji : j ≠ i := fun e => by subst e; rw [hi] at hj; cases hj
    exact hx j o hji (hx2 j o hji (he1 j o hj))
  have fin3 : ∀ (q1 q2 : PS) (H3 : Heap), (if X.2.e = 0 ∧ X.2.at_ < s.size then X.2.fail 83 else X.2) = q1 → (if q1.e = 0 ∧ 256 < X.1.length then q1.fail 1 else q1) = q2 → PSs H3 i q2 → Exb i H2 H3 →
      zqa_3 Q E (some ⟨i, 0, none⟩) p X.1.length c H3 := by
    intro q1 q2 H3 hq1 hq2 h3 hx3
    rw [hq1, hq2] at hR
    unfold zqa_3
    simp only [ptr_some]
    refine h3.ldE (sel_bne (fun he => ?_) (fun he => ?_))
    · rw [if_pos he] at hR
      exact h3.ldE (hk H3 none 0 [] q2.e hR (by simp) (ext _ hx3) (Vec.nil _ 7))
    · rw [if_neg (by simp [he])] at hR
      unfold zqa_1
      refine hk H3 p c X.1 0 hR ?_ (ext _ hx3) (hn2.exb hx3).2.1
      by_cases hl : 256 < X.1.length
      · exfalso
        by_cases h1 : q1.e = 0
        · rw [if_pos ⟨h1, hl⟩] at hq2
          exact PS.fail_e q1 (by decide : (1 : Int) ≠ 0) (by rw [hq2]; exact he)
        · rw [if_neg (fun h => h1 h.1)] at hq2
          exact h1 (by rw [hq2]; exact he)
      · omega
  have fin8 : ∀ (q1 : PS) (H3 : Heap), (if X.2.e = 0 ∧ X.2.at_ < s.size then X.2.fail 83 else X.2) = q1 → PSs H3 i q1 → Exb i H2 H3 → zqa_8 Q E (some ⟨i, 0, none⟩) p X.1.length c H3 := by
    intro q1 H3 hq1 h3 hx3
    unfold zqa_8 zqa_6
    simp only [ptr_some]
    refine h3.ldE (sel_beq (fun he => ?_) (fun he => ?_))
    · refine sel_dec (fun hg => ?_) (fun hg => ?_)
      · exact pfail_c (by decide) h3 fun H4 h4 hx4 => fin3 q1 _ H4 hq1 (if_pos ⟨he, by omega⟩) h4 (hx3.trans hx4)
      · exact fin3 q1 q1 H3 hq1 (if_neg (fun h => by omega)) h3 hx3
    · exact sel_ff (fin3 q1 q1 H3 hq1 (if_neg (fun h => he h.1)) h3 hx3)
  unfold zqa_14 zqa_12
  simp only [ptr_some]
  refine h2.ldE (sel_beq (fun he => ?_) (fun he => ?_))
  · refine h2.ldAt (sel_dec (fun hg => ?_) (fun hg => ?_))
    · exact pfail_c (by decide) h2 fun H4 h4 hx4 => fin8 _ H4 (if_pos ⟨he, by omega⟩) h4 hx4
    · exact fin8 _ H2 (if_neg (fun h => by omega)) h2 (Exb.refl _ _)
  · exact sel_ff (fin8 _ H2 (if_neg (fun h => he h.1)) h2 (Exb.refl _ _))
end Go.Proofs.Ytaffcoiomggpfaa

/- The tree of a list of nodes, and what it means: the patterns of LangAlgebra. -/
namespace Go.Proofs.Ytaffcoiomggpfaa
open Go.V
attribute [local irreducible] app
set_option linter.unusedVariables false

inductive Tr where
  | nil
  | leaf (x : Nd)
  | cat (a b : Tr)
  | alt (a b : Tr)
  | star (a : Tr)
  | plus (a : Tr)
  | opt (a : Tr)
  deriving DecidableEq
def tr (l : List Nd) : Nat → Nat → Tr
  | 0, _ => .nil
  | f + 1, n =>
    let x := l.getD n default
    if x.k = 2 ∨ x.k = 8 ∨ x.k = 9 then .leaf x
    else if x.k = 3 then .cat (tr l f x.l.toNat) (tr l f x.r.toNat)
    else if x.k = 4 then .alt (tr l f x.l.toNat) (tr l f x.r.toNat)
    else if x.k = 7 then .opt (tr l f x.l.toNat)
    else if x.k = 5 then .star (tr l f x.l.toNat)
    else if x.k = 6 then .plus (tr l f x.l.toNat)
    else .nil
def Tr.mean (t : List Nat) : Tr → Nat → Nat → Prop
  | .nil, i, j => j = i
  | .leaf x, i, j => leafR x t i j
  | .cat a b, i, j => ∃ m, a.mean t i m ∧ b.mean t m j
  | .alt a b, i, j => a.mean t i j ∨ b.mean t i j
  | .star a, i, j => Star (a.mean t) i j
  | .plus a, i, j => ∃ m, a.mean t i m ∧ Star (a.mean t) m j
  | .opt a, i, j => a.mean t i j ∨ j = i
theorem mean_tr (t : List Nat) (l : List Nd) : ∀ (f n : Nat), mean t l f n = (tr l f n).mean t
  | 0, n => rfl
  | f + 1, n => by
    funext i j
    unfold mean tr
    dsimp only
    split
    · rfl
    split
    · rw [mean_tr t l f, mean_tr t l f]; rfl
    split
    · rw [mean_tr t l f, mean_tr t l f]; rfl
    split
    · rw [mean_tr t l f]; rfl
    split
    · rw [mean_tr t l f]; rfl
    split
    · rw [mean_tr t l f]; rfl
    · rfl
def treeOf (s : ByteArray) : Tr := tr (rParse s).1 (rParse s).1.length ((rParse s).1.length - 1)
end Go.Proofs.Ytaffcoiomggpfaa

/- A pattern in parentheses has the same nodes: the parser, one byte and one level further on. -/
namespace Go.Proofs.Ytaffcoiomggpfaa
open Go.V
attribute [local irreducible] app
set_option linter.unusedVariables false

def wrap (s : ByteArray) : ByteArray := (⟨[40].toArray⟩ ++ s) ++ ⟨[41].toArray⟩
def shr (r : RP) : RP := { s := wrap r.s, at_ := r.at_ + 1, op := r.op + 1, nds := r.nds, e := r.e }
theorem RP.Le.ok {a b : RP} (h : a.Le b) (hb : b.e = 0) : a.e = 0 := by
  by_cases ha : a.e = 0
  · exact ha
  · have := h.e ha; omega
theorem Up.ok {a b : RP} {d : Int} {m : Nat} (h : Up a b d m) (hb : b.e = 0) : a.e = 0 := by
  by_cases ha : a.e = 0
  · exact ha
  · have := h.e ha; omega
end Go.Proofs.Ytaffcoiomggpfaa

/- The two parsers of patterns find the same: escapes and classes. -/
namespace Go.Proofs.Ytaffcoiomggpfaa
open Go.V
attribute [local irreducible] app
set_option linter.unusedVariables false

/-! ### The two states -/
structure Al (r : RP) (q : PS) : Prop where
  s : r.s = q.s
  e : r.e = q.e
  at_ : r.e = 0 → r.at_ = q.at_
theorem Al.more {r : RP} {q : PS} (h : Al r q) : r.next = (if q.more = true then (q.byte, true) else (0, false)) := by
  unfold RP.next PS.more PS.byte
  by_cases he : r.e = 0
  · have := h.at_ he
    have h2 := h.e
    rw [h.s, this]
    by_cases hlt : q.at_ < q.s.size
    · rw [if_neg (by omega), if_pos (by simp; omega)]
    · rw [if_pos (by omega), if_neg (by simp; omega)]
  · have h2 := h.e
    rw [if_pos (.inl he), if_neg (by simp; omega)]
theorem Al.inc {r : RP} {q : PS} (h : Al r q) : Al r.inc q.inc := ⟨h.s, h.e, fun he => congrArg (· + 1) (h.at_ he)⟩
theorem Al.fail {r : RP} {q : PS} (h : Al r q) (e : Int) (he : e ≠ 0) : Al (r.fail e) (q.fail e) := by
  unfold RP.fail PS.fail
  have h2 := h.e
  by_cases hr : r.e = 0
  · rw [if_pos hr, if_pos (by omega)]; exact ⟨h.s, rfl, fun h' => absurd h' he⟩
  · rw [if_neg hr, if_neg (by omega)]; exact h
end Go.Proofs.Ytaffcoiomggpfaa

/- The two parsers of patterns find the same: patterns. -/
namespace Go.Proofs.Ytaffcoiomggpfaa
open Go.V
attribute [local irreducible] app
set_option linter.unusedVariables false

/-! ### Nodes that are shifted -/
def kd (B : Nat) (x : Nd) : Nd := { x with l := if 0 < kids2 x.k then x.l + B else 0, r := if 1 < kids2 x.k then x.r + B else 0 }
def Bd (L : List Nd) : Prop := ∀ x ∈ L, (0 ≤ x.l ∧ x.l ≤ L.length) ∧ (0 ≤ x.r ∧ x.r ≤ L.length) ∧ (¬ 0 < kids2 x.k → x.l = 0) ∧ (¬ 1 < kids2 x.k → x.r = 0)
structure Ra (base : List Nd) (x : Nat × RP) (y : List Nd × PS) : Prop where
  al : Al x.2 y.2
  ok : x.2.e = 0 → x.2.nds = base ++ y.1.map (kd base.length) ∧ x.1 + 1 = base.length + y.1.length ∧ Bd y.1 ∧ 0 < y.1.length ∧ x.2.op = y.2.deep ∧ x.2.at_ ≤ x.2.s.size
end Go.Proofs.Ytaffcoiomggpfaa

/- The two parsers of patterns find the same: the parsers. -/
namespace Go.Proofs.Ytaffcoiomggpfaa
open Go.V
attribute [local irreducible] app
set_option linter.unusedVariables false

def Fin (x : Nat × RP) (op : Nat) : Prop := x.2.e = 0 → x.2.next.2 = false ∨ x.2.next.1 = 41 ∧ op ≠ 0
variable {F : RP → Nat × RP} {G : PS → List Nd × PS} {op : Nat}
def St (base : List Nd) (n : Option Nat) (l : List Nd) (r : RP) (q : PS) : Prop := match n with
  | none => l = [] ∧ Al r q ∧ r.nds = base ∧ r.op = q.deep ∧ r.at_ ≤ r.s.size
  | some m => Ra base (m, r) (l, q)
end Go.Proofs.Ytaffcoiomggpfaa

/- Contracts of package jobmuxlaw10: sane, pattern; the reference's Valid. -/
namespace Go.Proofs.Ytaffcoiomggpfaa
open Go.V
attribute [local irreducible] app
set_option linter.constructorNameAsVariable false
set_option linter.unusedVariables false

def Kd (x : Nd) : Prop := 1 ≤ x.k ∧ x.k ≤ 4
theorem setL_kd {n : Nat} {v : Int} {st : List Nd} (h : ∀ x ∈ st, Kd x) : ∀ x ∈ setL st n v, Kd x := by
  intro x hx
  obtain ⟨i, hi⟩ := List.mem_iff_getElem?.1 hx
  unfold setL at hi
  rw [List.getElem?_modify] at hi
  cases hs : st[i]? with
  | none => rw [hs] at hi; simp at hi
  | some y =>
    rw [hs] at hi
    have hy := h y (List.mem_iff_getElem?.2 ⟨i, hs⟩)
    simp at hi
    subst hi
    split <;> exact hy
theorem bd_kd (l : List Nd) : ∀ (f n out : Nat) (st : List Nd), ∃ new, (bd l f n out st).2 = st ++ new ∧ ∀ x ∈ new, Kd x
  | 0, n, out, st => ⟨[], by simp [bd], by simp⟩
  | f + 1, n, out, st => by
    unfold bd
    dsimp only
    split
    · exact ⟨_, rfl, by simp [Kd]⟩
    split
    · exact ⟨_, rfl, by simp [Kd]⟩
    split
    · exact ⟨_, rfl, by simp [Kd]⟩
    split
    · obtain ⟨a, ha, ka⟩ := bd_kd l f (l.getD n default).r.toNat out st
      obtain ⟨b, hb, kb⟩ := bd_kd l f (l.getD n default).l.toNat (bd l f (l.getD n default).r.toNat out st).1 (bd l f (l.getD n default).r.toNat out st).2
      exact ⟨a ++ b, by rw [hb, ha, List.append_assoc], fun x hx => (List.mem_append.1 hx).elim (ka x) (kb x)⟩
    split
    · obtain ⟨a, ha, ka⟩ := bd_kd l f (l.getD n default).l.toNat out st
      obtain ⟨b, hb, kb⟩ := bd_kd l f (l.getD n default).r.toNat out (bd l f (l.getD n default).l.toNat out st).2
      refine ⟨a ++ (b ++ [⟨2, (bd l f (l.getD n default).l.toNat out st).1, (bd l f (l.getD n default).r.toNat out (bd l f (l.getD n default).l.toNat out st).2).1, 0, 0, 0, 0⟩]), ?_, fun x hx => ?_⟩
      · show _ ++ [_] = _
        rw [hb, ha, List.append_assoc, List.append_assoc]
      · rcases List.mem_append.1 hx with hx | hx
        · exact ka x hx
        · rcases List.mem_append.1 hx with hx | hx
          · exact kb x hx
          · obtain rfl := List.mem_singleton.1 hx; simp [Kd]
    split
    · obtain ⟨a, ha, ka⟩ := bd_kd l f (l.getD n default).l.toNat out st
      refine ⟨a ++ [_], by rw [ha, List.append_assoc], fun x hx => ?_⟩
      rcases List.mem_append.1 hx with hx | hx
      · exact ka x hx
      · obtain rfl := List.mem_singleton.1 hx; simp [Kd]
    split
    · obtain ⟨a, ha, ka⟩ := bd_kd l f (l.getD n default).l.toNat st.length (st ++ [⟨2, 0, out, 0, 0, 0, 0⟩])
      refine ⟨setL ([⟨2, 0, out, 0, 0, 0, 0⟩] ++ a) 0 ((bd l f (l.getD n default).l.toNat st.length (st ++ [⟨2, 0, out, 0, 0, 0, 0⟩])).1 : Nat), ?_, setL_kd fun x hx => ?_⟩
      · rw [ha, List.append_assoc]
        exact setL_end st _ _
      · rcases List.mem_append.1 hx with hx | hx
        · obtain rfl := List.mem_singleton.1 hx; simp [Kd]
        · exact ka x hx
    · exact ⟨[], by simp, by simp⟩
theorem build_NV {l : List Nd} (h : validOf l = true) : NV (buildOf l) := by
  obtain ⟨b1, b2, b3, b4⟩ := build_facts h
  refine ⟨by omega, by omega, b1, fun x hx => ?_⟩
  obtain ⟨new, hnew, hk⟩ := bd_kd l l.length (l.length - 1) 1 [⟨2, 0, 0, 0, 0, 0, 0⟩, ⟨5, 0, 0, 0, 0, 0, 0⟩]
  obtain ⟨i, hi⟩ := List.mem_iff_getElem?.1 hx
  unfold buildOf at hi
  rw [hnew] at hi
  unfold setLR at hi
  rw [List.getElem?_modify] at hi
  cases hs : ([⟨2, 0, 0, 0, 0, 0, 0⟩, ⟨5, 0, 0, 0, 0, 0, 0⟩] ++ new : List Nd)[i]? with
  | none => rw [hs] at hi; simp at hi
  | some y =>
    rw [hs] at hi
    have hy : 1 ≤ y.k ∧ y.k ≤ 5 := by
      have hm := List.mem_iff_getElem?.2 ⟨i, hs⟩
      rcases List.mem_append.1 hm with hm | hm
      · simp at hm
        rcases hm with rfl | rfl <;> simp
      · have := hk y hm
        unfold Kd at this; omega
    simp at hi
    subst hi
    split <;> exact hy
theorem sane10_1 : sampleOf (buildOf (rParse ⟨[97, 98, 124, 99].toArray⟩).1) = some [99] := by decide +kernel
theorem sane10_2 : sampleOf (buildOf (rParse ⟨[97, 94, 98].toArray⟩).1) = none := by decide +kernel
theorem sane10_3 : runOf (buildOf (rParse ⟨[97, 98, 124, 99].toArray⟩).1) [120, 97, 98] = 3 := by decide +kernel
theorem sane10_4 : validOf (rParse ⟨[97, 98, 124, 99].toArray⟩).1 = true ∧ validOf (rParse ⟨[97, 94, 98].toArray⟩).1 = true := by decide +kernel
theorem byt_cells10 {H : Heap} {i : Nat} {t : TypeId} {fr : Nat × Nat} (bs : List UInt8) (h : H i = some (.cells (bs.map byteV).toArray t fr)) : Byt H (some ⟨i, 0, none⟩) bs.length bs.length bs :=
  ⟨rfl, Nat.le_refl _, rd_at h _ 0 0 fun j hj => by simp⟩
theorem sane10_c {H : Heap} {Q : QT} {E : ET} (hk : ∀ H', Ext H H' → Q (.bool true) H') : Does Pr 31 #[] H Q E := by
  refine zqw_fn Q E H ?_
  unfold zqw
  refine rParse_c fun H1 p1 c1 L1 e1 hp1 hl1 he1 hv1 => ⟨_, _, _, _, rfl, ?_⟩
  refine rParse_c fun H2 p2 c2 L2 e2 hp2 hl2 he2 hv2 => ⟨_, _, _, _, rfl, ?_⟩
  have s1 := sane10_1; rw [hp1] at s1
  have s2 := sane10_2; rw [hp2] at s2
  have s3 := sane10_3; rw [hp1] at s3
  have s4 := sane10_4; rw [hp1, hp2] at s4
  dsimp only at s1 s2 s3 s4
  refine Compile_c (hv1.ext he2) s4.1 fun H3 p3 c3 he3 hv3 => ⟨_, _, _, _, rfl, ?_⟩
  refine Compile_c (hv2.ext he3) s4.2 fun H4 p4 c4 he4 hv4 => ⟨_, _, _, _, rfl, ?_⟩
  have hN1 := build_NV s4.1
  have hN2 := build_NV s4.2
  refine Sample_c (hv3.ext he4) hN1 (fun t ht H5 p5 c5 he5 hv5 => ?_) (fun h => by rw [s1] at h; cases h)
  rw [s1] at ht
  obtain rfl := Option.some.inj ht
  refine ⟨_, _, _, _, rfl, ?_⟩
  refine Sample_c (hv4.ext he5) hN2 (fun t ht => by rw [s2] at ht; cases ht) (fun _ H6 he6 => ⟨none, 0, 0, _, rfl, ?_⟩)
  refine sel_tt (sel_tt (sel_tt ⟨[99], rfl, (hv5.ext he6).rdS, ?_⟩))
  have e99 : (ByteArray.toList (⟨[99].toArray⟩ : ByteArray) == ByteArray.toList ⟨[99].toArray⟩) = true := beq_self_eq_true _
  rw [e99]
  refine sel_tt (sel_tt ?_)
  refine nw_ext fun i H7 hi he7 hc7 => ⟨_, _, hc7, ?_⟩
  have he7' : Ext H6 (H7.set i (.cells #[.int .u8 120, .int .u8 97, .int .u8 98] 5 (3, 3 + 1))) := he7.set hi _
  have hb7 : Byt (H7.set i (.cells #[.int .u8 120, .int .u8 97, .int .u8 98] 5 (3, 3 + 1))) (some ⟨i, 0, none⟩) 3 3 [120, 97, 98] := byt_cells10 (t := 5) (fr := (3, 4)) [120, 97, 98] (Heap.set_self _ _ _)
  change (fun H => Does Pr 35 #[.slice p3 (buildOf L1).length c3, .slice (some ⟨i, 0, none⟩) 3 3] H _ E) (H7.set i (.cells #[.int .u8 120, .int .u8 97, .int .u8 98] 5 (3, 3 + 1)))
  revert he7' hb7
  generalize H7.set i (.cells #[.int .u8 120, .int .u8 97, .int .u8 98] 5 (3, 3 + 1)) = H8
  intro he8 hb8
  have h38 := ((he4.trans he5).trans he6).trans he8
  refine nrun_c (hv3.ext h38) hN1 hb8 (by omega) fun H9 he9 => ⟨_, rfl, ?_⟩
  rw [s3]
  exact hk H9 ((((he1.trans he2).trans he3).trans h38).trans he9)
end Go.Proofs.Ytaffcoiomggpfaa
