/- RegexGroups. -/
import Derived.Test.YtaffcoiomggpfaaVL08
import Derived.Test.YtaffcoiomggpfaaVShift
import Derived.Test.YtaffcoiomggpfaaVByt
import Derived.Test.YtaffcoiomggpfaaVR08g
namespace Go.Proofs.Ytaffcoiomggpfaa
open Go.V
attribute [local irreducible] app
attribute [local irreducible] l08_RegexGroups_1
set_option linter.unusedVariables false

def isMark (b : Nat) : Bool := decide (33 ≤ b ∧ b ≤ 47 ∨ 58 ≤ b ∧ b ≤ 64 ∨ 91 ≤ b ∧ b ≤ 96 ∨ 123 ≤ b ∧ b ≤ 126)
/-- What the law says of one byte. -/
def markOk (b : Nat) : Bool :=
  let X := rxParse ⟨#[UInt8.ofNat b]⟩
  let Y := rxParse ⟨#[92, UInt8.ofNat b]⟩
  !isMark b || decide (Y.2 = 0) && decide (Y.1.length = 1) && (decide (X.2 ≠ 0) || decide (X.1.length ≠ 1) || match X.1[0]? with
    | none => true
    | some x => decide (x.k ≠ 2) || decide (X.1 = Y.1) || decide (b = 46))
theorem marks_ok : (List.range 256).all markOk = true := by decide +kernel
theorem mark_ok {b : Nat} (h : b < 256) : markOk b = true := List.all_eq_true.1 marks_ok b (List.mem_range.2 h)
theorem RegexGroups_c {H : Heap} {p : Option Addr} {n c b : Nat} {xs : List Int} {Q : Value → Heap → Prop} {E : Chain → Heap → Prop} (h : Ints H p n xs) (hb : b < 256)
    (hk : ∀ H', Ext H H' → Q (.bool true) H') : Does Pr 8 #[.slice p n c, .int .u8 (b : Nat)] H Q E := by
  refine l08_RegexGroups_fn _ _ _ _ Q E H ?_
  unfold l08_RegexGroups l08_RegexGroups_27
  refine sane_c fun H1 he1 => ⟨_, rfl, ?_⟩
  refine sel_ff ?_
  unfold l08_RegexGroups_24
  refine text_c (h.ext he1) fun s H2 he2 hs => ⟨_, rfl, ?_⟩
  unfold l08_RegexGroups_21
  refine Parse_c fun p1 c1 l1 e1 H3 hp1 he3 hv1 _ => ⟨_, _, _, _, rfl, ?_⟩
  unfold l08_RegexGroups_18
  have hw : (⟨[40].toArray⟩ ++ s ++ ⟨[41].toArray⟩ : ByteArray) = wrap s := rfl
  have hws := wrap_size s
  refine ⟨by rw [show ((⟨[40].toArray⟩ : ByteArray)).size = 1 from rfl]; omega, ?_, ?_⟩
  · rw [ByteArray.size_append, show ((⟨[40].toArray⟩ : ByteArray)).size = 1 from rfl, show ((⟨[41].toArray⟩ : ByteArray)).size = 1 from rfl]; omega
  rw [hw]
  refine Parse_c fun p2 c2 l2 e2 H4 hp2 he4 hv2 _ => ⟨_, _, _, _, rfl, ?_⟩
  have heA := ((he1.trans he2).trans he3).trans he4
  have hbv : byteV (UInt8.ofNat b) = .int .u8 (b : Nat) := by
    unfold byteV; rw [UInt8.toNat_ofNat_of_lt' hb]
  -- the marks
  have rest : l08_RegexGroups_9 Q E (b : Nat) H4 := by
    unfold l08_RegexGroups_9
    refine nw_ext fun i5 H5 hi5 he5 hc5 => ?_
    refine ⟨[UInt8.ofNat b], rfl, rd_at hc5 _ 0 0 (fun j hj => ?_), ?_⟩
    · have hj : j < 1 := hj
      obtain rfl : j = 0 := by omega
      simp [hbv]
    refine Parse_c fun p6 c6 X g H6 hX he6 hvX _ => ⟨_, _, _, _, rfl, ?_⟩
    unfold l08_RegexGroups_6
    refine nw_ext fun i7 H7 hi7 he7 hc7 => ?_
    refine ⟨[92, UInt8.ofNat b], rfl, rd_at hc7 _ 0 0 (fun j hj => ?_), ?_⟩
    · have hj : j < 2 := hj
      obtain rfl | rfl : j = 0 ∨ j = 1 := by omega
      · rfl
      · simp [hbv]
    refine Parse_c fun p8 c8 Y k H8 hY he8 hvY _ => ⟨_, _, _, _, rfl, ?_⟩
    have heF := (((heA.trans he5).trans he6).trans he7).trans he8
    have hm := mark_ok hb
    unfold markOk at hm
    rw [show rxParse ⟨#[UInt8.ofNat b]⟩ = (X, g) from hX, show rxParse ⟨#[92, UInt8.ofNat b]⟩ = (Y, k) from hY] at hm
    dsimp only at hm
    have hno : isMark b = false → l08_RegexGroups_1 Q E (b : Nat) p6 X.length c6 g p8 Y.length c8 k false H8 := fun _ => by
      unfold l08_RegexGroups_1; exact sel_tt (hk _ heF)
    have hyes : isMark b = true → l08_RegexGroups_1 Q E (b : Nat) p6 X.length c6 g p8 Y.length c8 k true H8 := fun hi => by
      rw [hi] at hm
      simp only [Bool.not_true, Bool.false_or, Bool.and_eq_true, decide_eq_true_eq] at hm
      obtain ⟨⟨hk0, hY1⟩, hm⟩ := hm
      subst hk0
      unfold l08_RegexGroups_1
      refine sel_ff (sel_tt ?_)
      rw [hY1] at hvY ⊢
      refine sel_tt ?_
      refine sel_bne (fun _ => hk _ heF) (fun hg => ?_)
      refine sel_bne (fun _ => hk _ heF) (fun hX1 => ?_)
      have hX1 : X.length = 1 := by omega
      have hvX' := hvX.ext (he7.trans he8)
      obtain ⟨x, rfl⟩ := List.length_eq_one_iff.1 hX1
      obtain ⟨a, rfl, hr⟩ := vec_at7 hvX' (n := 0) (x := x) rfl
      simp only [hg, hX1, ne_eq, not_true_eq_false, decide_false, Bool.false_or, List.getElem?_cons_zero] at hm
      refine ⟨⟨by omega, by omega⟩, ?_⟩
      simp only [ptr_some]
      refine ⟨x.k, hr.1, ?_⟩
      refine sel_bne (fun _ => hk _ heF) (fun hx2 => ?_)
      refine Same_c (A := [x]) (B := Y) hvX' hvY rfl hY1.symm (by simp) (fun _ => ⟨_, rfl, sel_tt (hk _ heF)⟩) (fun hne => ⟨_, rfl, sel_ff ?_⟩)
      have : b = 46 := by simpa [hx2, hne] using hm
      subst this
      exact hk _ heF
    unfold l08_RegexGroups_3
    repeat' (first | refine sel_dec (fun _ => ?_) (fun _ => ?_))
    all_goals first | exact hyes (by unfold isMark; exact decide_eq_true (by omega)) | exact hno (by unfold isMark; exact decide_eq_false (by omega)) | skip
    all_goals
      by_cases hd : (b : Int) ≤ 126
      · rw [decide_eq_true hd]; exact hyes (by unfold isMark; exact decide_eq_true (by omega))
      · rw [decide_eq_false hd]; exact hno (by unfold isMark; exact decide_eq_false (by omega))
  unfold l08_RegexGroups_14
  refine sel_beq (fun h0 => ?_) (fun h0 => ?_)
  · subst h0
    have hcase : (l2 = l1 ∧ e2 = 0) ∨ e2 = 84 := by
      rcases rx_wrap hp1 (by omega) with hh | hh
      · rw [hp2] at hh; exact .inl ⟨(Prod.mk.inj hh).1, (Prod.mk.inj hh).2⟩
      · rw [hp2] at hh; exact .inr hh
    rcases hcase with ⟨rfl, rfl⟩ | rfl
    · refine sel_ff ?_
      refine Same_c (hv1.ext he4) hv2 rfl rfl (by have := ((rxParse_small hp1).2 rfl).2.2.2; omega) (fun _ => ⟨_, rfl, ?_⟩) (fun h => absurd rfl h)
      unfold l08_RegexGroups_12
      exact sel_ff rest
    · refine sel_tt ?_
      unfold l08_RegexGroups_12
      exact sel_tt (sel_tt (hk _ heA))
  · unfold l08_RegexGroups_12
    exact sel_ff rest
end Go.Proofs.Ytaffcoiomggpfaa
