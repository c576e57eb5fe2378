/- Contracts of package jobmuxlaw08: sane, text. -/
import Derived.Test.YtaffcoiomggpfaaVTree2
import Derived.Test.YtaffcoiomggpfaaVMill
import Derived.Test.YtaffcoiomggpfaaFl08
import Derived.Test.YtaffcoiomggpfaaVKids
namespace Go.Proofs.Ytaffcoiomggpfaa
open Go.V
attribute [local irreducible] app
set_option linter.constructorNameAsVariable false
set_option linter.unusedVariables false
set_option maxRecDepth 100000

def marks : ByteArray := ⟨[97, 98, 40, 41, 124, 42, 43, 63, 46, 94, 36, 91, 93, 94, 45, 92, 100, 119, 110, 120, 40].toArray⟩
theorem text_c {H : Heap} {p : Option Addr} {n c : Nat} {xs : List Int} {Q : Value → Heap → Prop} {E : Chain → Heap → Prop} (h : Ints H p n xs)
    (hk : ∀ s H', Ext H H' → s.size ≤ 40 → Q (.string s) H') : Does Pr 30 #[.slice p n c] H Q E := by
  refine l08_text_fn _ _ _ Q E H ?_
  unfold l08_text l08_text_18
  refine New_c h fun d H1 hd => ⟨_, rfl, ?_⟩
  unfold l08_text_15 l08_text_11
  refine ⟨fun q l c H' => ∃ (bs : List UInt8) (k : Nat), Vec H' 1 q l c (bs.map byteV) ∧ l ≤ 40 ∧ Deck H H' d xs k ∧ ∀ i, blk q i → H i = none ∧ i ≠ d, fun _ l _ _ => 40 - l,
    ⟨[], 0, Vec.nil _ 1, by omega, hd, fun i hi => by obtain ⟨a, ha, _⟩ := hi; cases ha⟩, ?_⟩
  rintro q l c H2 ⟨bs, k, hv, hl, hdk, hq⟩
  have fin : l08_text_1 Q E q l c H2 := by
    unfold l08_text_1
    refine ⟨bs, by have := hv.1; simpa using this, hv.rdS, hk _ H2 hdk.1 ?_⟩
    have := hv.1
    simp at this
    show bs.toArray.size ≤ 40
    simp; omega
  unfold l08_text_7
  refine Left_c hdk ⟨_, rfl, ?_⟩
  refine sel_mk (fun _ => ?_) (fun _ => ?_)
  · unfold l08_text_5
    refine sel_dec (fun hlt => ?_) (fun _ => fin)
    unfold l08_text_3
    refine Next_c hdk (b := 21) (by decide) fun H3 hd3 hf3 => ⟨_, rfl, ?_⟩
    have hv3 : Vec H3 1 q l c (bs.map byteV) := hv.keep fun i hi _ => hf3 i (hq i hi).2
    have hb : 0 ≤ drawOf xs k 21 ∧ drawOf xs k 21 < 21 := by
      unfold drawOf
      split
      · have := modOf_bounds (a := xs.getD k 0) (n := 21) (by omega) (by omega)
        exact this
      · omega
    refine ⟨⟨hb.1, hb.2⟩, ?_⟩
    refine nw_ext fun i H4 hi he4 hi4 => ?_
    have hv4 := hv3.ext he4
    have hd4 := hd3.ext he4
    refine app_one (sz := 1) (ws := [byteV (marks.data.getD (drawOf xs k 21).toNat 0)]) sl24 hv4 hi4 rfl rfl (by omega) (Nat.zero_lt_succ 0) fun p' c' H5 hv5 hs hb5 => ?_
    have hbase : ∀ j, H j ≠ none → ¬ blk q j := fun j hj hq' => hj (hq j hq').1
    refine ⟨⟨bs ++ [marks.data.getD (drawOf xs k 21).toNat 0], min (k + 1) xs.length, by simpa using hv5, by omega, ?_, fun j hj => ?_⟩, (by omega : 40 - (l + 1) < 40 - l)⟩
    · obtain ⟨g1, g2, g3, p2, n2, c2, t2, g4, g5⟩ := hd4
      refine ⟨fun j o hj => ?_, g2, g3, p2, n2, c2, t2, g4, ?_⟩
      · rw [hs j (hbase j (by simp [hj])) (by rw [g1 j o hj]; simp)]; exact g1 j o hj
      · rw [hs d (fun hq' => (hq d hq').2 rfl) (by simp [g5])]; exact g5
    · rcases hb5 j hj with h | h
      · exact hq j h
      · refine ⟨hd4.1.free h, fun e => ?_⟩
        obtain ⟨g1, g2, g3, p2, n2, c2, t2, g4, g5⟩ := hd4
        rw [e, g5] at h; cases h
  · unfold l08_text_5
    exact sel_ff fin
theorem sane1 : (rxParse ⟨[97, 124, 98, 42].toArray⟩).2 = 0 ∧ (rxParse ⟨[97, 124, 98, 42].toArray⟩).1.map (fun x => (x.k, x.l, x.r)) = [(2, 0, 0), (2, 0, 0), (5, 1, 0), (4, 0, 2)] := by decide
theorem sane2 : (rxParse ⟨[42, 97].toArray⟩).2 = 81 := by decide
theorem sane3 : (rxParse ⟨[40, 97].toArray⟩).2 = 83 := by decide
theorem sane4 : (rxParse ⟨[91, 98, 45, 97, 93].toArray⟩).2 = 80 := by decide
theorem sane_c {H : Heap} {Q : Value → Heap → Prop} {E : Chain → Heap → Prop} (hk : ∀ H', Ext H H' → Q (.bool true) H') : Does Pr 27 #[] H Q E := by
  refine l08_sane_fn Q E H ?_
  unfold l08_sane
  refine Parse_c fun p c l e H1 h1 he1 hv1 hp1 => ⟨_, _, _, _, rfl, ?_⟩
  refine Parse_c fun p2 c2 l2 e2 H2 h2 he2 hv2 hp2 => ⟨_, _, _, _, rfl, ?_⟩
  refine Parse_c fun p3 c3 l3 e3 H3 h3 he3 hv3 hp3 => ⟨_, _, _, _, rfl, ?_⟩
  refine Parse_c fun p4 c4 l4 e4 H4 h4 he4 hv4 hp4 => ⟨_, _, _, _, rfl, ?_⟩
  have s1 := sane1; rw [h1] at s1
  have s2 := sane2; rw [h2] at s2
  have s3 := sane3; rw [h3] at s3
  have s4 := sane4; rw [h4] at s4
  simp only [] at s1 s2 s3 s4
  obtain ⟨s1, s1'⟩ := s1
  subst s1 s2 s3 s4
  have hl4 : l.length = 4 := by have := congrArg List.length s1'; simpa using this
  have hx2 : ∃ x, l[2]? = some x ∧ x.k = 5 ∧ x.l = 1 := by
    have := congrArg (fun m => m[2]?) s1'
    simp at this
    obtain ⟨x, hx, h1, h2, h3⟩ := this
    exact ⟨x, hx, h1, h2⟩
  have hx3 : ∃ x, l[3]? = some x ∧ x.r = 2 := by
    have := congrArg (fun m => m[3]?) s1'
    simp at this
    obtain ⟨x, hx, h1, h2, h3⟩ := this
    exact ⟨x, hx, h3⟩
  obtain ⟨x, hx, hxk, hxl⟩ := hx2
  obtain ⟨y, hy, hyr⟩ := hx3
  have hv := (((hv1.ext he2).ext he3).ext he4)
  obtain ⟨v1, v2, v3⟩ := hv
  have hfin : Ext H H4 := ((he1.trans he2).trans he3).trans he4
  refine sel_tt ?_
  rw [hl4]
  refine sel_tt ?_
  cases p with
  | none => simp only [] at v3; omega
  | some a =>
    obtain ⟨b, cs, t, rfl, hb, hcs, hget⟩ := v3
    have g : ∀ (i j : Nat) (z : Nd), l[i]? = some z → j < 7 → cs[i * 7 + j]? = z.cells[j]? := fun i j z hz hj => by
      rw [hget _ (by have := (List.getElem?_eq_some_iff.1 hz).1; omega), flat_get hz hj]
    simp only [ptr_some, add_at, Nat.zero_add]
    refine ⟨⟨by omega, by omega⟩, ldI_at (n := 5) hb (by rw [g 2 0 x hx (by omega), ← hxk]; rfl) (sel_tt ?_)⟩
    refine ⟨⟨by omega, by omega⟩, ldI_at (n := 1) hb (by rw [g 2 1 x hx (by omega), ← hxl]; rfl) (sel_tt ?_)⟩
    refine ⟨⟨by omega, by omega⟩, ldI_at (n := 2) hb (by rw [g 3 2 y hy (by omega), ← hyr]; rfl) (sel_tt (sel_tt (sel_tt ?_)))⟩
    exact hk H4 hfin
end Go.Proofs.Ytaffcoiomggpfaa
