import Derived.Test.YtaffcoiomggpfaaVNfa4
import Derived.Test.YtaffcoiomggpfaaVPats
import Derived.Test.YtaffcoiomggpfaaVValid
import Derived.Test.YtaffcoiomggpfaaFregex
import Derived.Test.YtaffcoiomggpfaaFmatcher
import Derived.Test.YtaffcoiomggpfaaFnfa
import Derived.Test.YtaffcoiomggpfaaFr09
import Derived.Test.YtaffcoiomggpfaaFr08
/- Contracts of package nfa (5): Sample, the loops. -/
namespace Go.Proofs.Ytaffcoiomggpfaa
open Go.V
attribute [local irreducible] app
set_option linter.constructorNameAsVariable false
set_option linter.unusedVariables false

def OI (st : List Nd) (B : Heap) (a mp bl : Nat) (p : OA) (c : Nat) (x6 : Int) (H : Heap) : Prop :=
  ∃ (B0 Bi : Heap) (T : List Tl) (pl : OA) (cl : Nat) (L : List Nat) (f : Nat), Ext B B0 ∧ SS B0 Bi H a mp bl p st.length c T pl cl L none 0 [] ∧ TOk st.length T ∧ LOk T L ∧ outerF st f T L x6 = sampleOf st ∧
    2 * (4 * st.length + 1 - T.length) + (if L.length = 0 then 0 else 1) < f ∧ -1 ≤ x6 ∧ x6 < 0
def oμ (n a bl : Nat) (x6 : Int) (H : Heap) : Nat := 2 * (4 * n + 1 - lenAt a 2 H) + (if lenAt bl 0 H = 0 then 0 else 1)
theorem outerF_step (st : List Nd) {T : List Tl} {L : List Nat} {pe : Int} (f : Nat) (h : 0 < L.length) : outerF st (f + 1) T L pe = match innerF st (4 * st.length + 1) 0 ⟨T, L, [], pe⟩ with
    | .inl t => some t
    | .inr S => if 0 ≤ S.pe then some (textP S.T S.pe.toNat ++ [10]) else outerF st f S.T S.N S.pe := by
  conv => lhs; unfold outerF
  rw [if_pos h]
  cases innerF st (4 * st.length + 1) 0 ⟨T, L, [], pe⟩ <;> rfl
theorem reach_c' {H0 H : Heap} {a mp n cs cl l : Nat} {ps pl : OA} {T : List Tl} {L : List Nat} {t : Tl} {sv fr b : Int} {bol eol : Bool} {Q : QT} {E : ET} (h : RS H0 H a mp ps n cs T pl cl L) (hT : T.length < 65536) (hL : L.length < 65536)
    (hl : l = L.length) (h1 : sv = (t.s : Nat)) (h2 : fr = t.fr) (h3 : b = t.b) (h4 : bol = t.bol) (h5 : eol = t.eol)
    (hk : ∀ H' p' c', RS H0 H' a mp ps n cs (reachP T L t).1 p' c' (reachP T L t).2 → Q (.slice p' (reachP T L t).2.length c') H') :
    Does Pr 64 #[.pointer (some ⟨a, 0, none⟩), .slice pl l cl, .agg #[.int .i64 sv, .bool bol, .bool eol], .int .i64 fr, .int .i64 b] H Q E := by
  subst hl h1 h2 h3 h4 h5
  exact reach_c h hT hL hk
set_option maxHeartbeats 2000000 in
theorem Sample_c {H : Heap} {p : OA} {c : Nat} {st : List Nd} {Q : QT} {E : ET} (hv : Vec H 7 p st.length c (flat st)) (hN : NV st)
    (hk1 : ∀ t, sampleOf st = some t → ∀ H' p' c', Ext H H' → Vec H' 1 p' t.length c' (t.map byteV) → Q (.tuple #[.slice p' t.length c', .bool true]) H')
    (hk2 : sampleOf st = none → ∀ H', Ext H H' → Q (.tuple #[.slice none 0 0, .bool false]) H') : Does Pr 37 #[.slice p st.length c] H Q E := by
  refine zql1_fn _ _ _ Q E H ?_
  unfold zql1 zql1_67
  refine nvalid_c (Vec.nds hv) hN fun H1 he1 => ⟨_, rfl, sel_ff ?_⟩
  unfold zql1_64
  refine nw_ext fun mp H2 hmp he2 hc2 => ?_
  refine nw_ext fun a H3 ha he3 hc3 => ?_
  refine nw_ext fun bx H4 hbx he4 hc4 => ?_
  refine wr_new hc4 (by simp) rfl (c' := #[.pointer (some ⟨a, 0, none⟩)]) rfl fun H5 hc5 hb5 => ?_
  have he5 : Ext H3 H5 := ext_but he4 hbx hb5
  have hne : a ≠ mp := fun e => by rw [e, hc2] at ha; cases ha
  have hxa : bx ≠ a := fun e => by rw [e, hc3] at hbx; cases hbx
  have hxm : bx ≠ mp := fun e => by rw [e, he3 _ _ hc2] at hbx; cases hbx
  -- the base: all but the search and its map
  obtain ⟨B, hB⟩ : ∃ B : Heap, B = fun j => if j = a ∨ j = mp then none else H5 j := ⟨_, rfl⟩
  have hHB : Ext H B := fun j o hj => by
    have h1 := he1 j o hj
    have hja : j ≠ a := fun e => by rw [e, he2.free ha] at h1; cases h1
    have hjm : j ≠ mp := fun e => by rw [e, hmp] at h1; cases h1
    rw [hB]; dsimp only
    rw [if_neg (by omega)]
    exact he5 _ _ (he3 _ _ (he2 _ _ h1))
  have hBx : B bx = some (.cells #[.pointer (some ⟨a, 0, none⟩)] 93 (0, 0)) := by rw [hB]; dsimp only; rw [if_neg (by omega)]; exact hc5
  have h6 : RS B H5 a mp p st.length c [] none 0 [] := by
    refine ⟨fun j o hj => ?_, by rw [hB]; dsimp only; rw [if_pos (.inl rfl)], by rw [hB]; dsimp only; rw [if_pos (.inr rfl)], hne, ⟨none, 0, he5 _ _ hc3, Vec.nil _ 5, fun j hj => (by obtain ⟨a, ha, _⟩ := hj; cases ha)⟩, ⟨#[], 0, he5 _ _ (he3 _ _ hc2), rfl, by simp⟩, Vec.nil _ 1, fun j hj => (by obtain ⟨a, ha, _⟩ := hj; cases ha)⟩
    rw [hB] at hj; dsimp only at hj
    split at hj
    · cases hj
    · exact hj
  have hvB : Nds B p st := Vec.nds (hv.ext hHB)
  clear hB hc2 hc3 hc4 hb5
  unfold zql1_61
  simp only [ptr_some]
  refine ldP_at hc5 rfl ?_
  refine reach_c' (t := t0) h6 (by simp) (by simp) rfl rfl rfl rfl rfl rfl fun H6 p6 c6 h7 => ⟨_, _, _, rfl, ?_⟩
  have er : reachP [] [] t0 = ([t0], [0]) := rfl
  rw [er] at h7 ⊢
  dsimp only at h7 ⊢
  refine nw_ext fun bl H7 hbl he7 hc7 => ?_
  refine wr_new hc7 (by simp) rfl (c' := #[.slice p6 1 c6]) rfl fun H8 hc8 hb8 => ?_
  have hBbl : B bl = none := h7.1.free hbl
  have g7 := h7.grow he7
  have gbl : (beside B H6 H7) bl = some (.cells #[.slice none 0 0] 22 (0, 0)) := by rw [beside_free hbl]; exact hc7
  have e8 : H8 = H7.set bl (.cells #[.slice p6 1 c6] 22 (0, 0)) := by
    funext j
    by_cases e : j = bl
    · subst e; rw [Heap.set_self]; exact hc8
    · rw [Heap.set_ne _ _ e]; exact hb8 j e
  have hS : SS B ((beside B H6 H7).set bl (.cells #[.slice p6 1 c6] 22 (0, 0))) H8 a mp bl p st.length c [t0] p6 c6 [0] none 0 [] := by
    refine ⟨fun j o hj => ?_, by rw [e8]; exact g7.setB (by rw [gbl]; simp) _, Heap.set_self _ _ _, hBbl, Vec.nil _ 1, fun j hj => (by obtain ⟨a, ha, _⟩ := hj; cases ha)⟩
    rw [Heap.set_ne _ _ (fun e => by rw [e, hBbl] at hj; cases hj), beside_some (by rw [hj]; simp)]
    exact he7 _ _ (h7.1 _ _ hj)
  clear e8 gbl g7 hc8 hb8 hc7 he7 hbl h7 h6
  obtain ⟨n1, n2, hr, hkind⟩ := id hN
  have hT0 : TOk st.length [t0] := ⟨by simp, fun t ht => (by obtain rfl := List.mem_singleton.1 ht; show 0 < _; omega), fun i hi => by
    have : i = 0 := by simp at hi; exact hi
    subst this; exact ⟨by decide, by decide, by decide⟩⟩
  have hL0 : LOk [t0] [0] := ⟨by simp, fun k hk => (by obtain rfl := List.mem_singleton.1 hk; simp)⟩
  unfold zql1_58 zql1_54
  refine ⟨OI st B a mp bl p c, oμ st.length a bl, ⟨B, _, [t0], p6, c6, [0], _, Ext.refl _, hS, hT0, hL0, rfl, by simp, by omega, by omega⟩, ?_⟩
  rintro x6 H9 ⟨B0, Bi, T, pl, cl, L, f, hB0, hS9, hT, hL, hF, hmu, hx1, hx2⟩
  obtain ⟨s1, s2, s3, s4, s5, s6⟩ := id hS9
  have hbl9 := s2.1 _ _ s3
  obtain ⟨len1, len2⟩ := hS9.len
  have hTl := hT.len
  unfold zql1_51
  simp only [ptr_some]
  refine ldSl_at (p := pl) (l := L.length) (m := cl) hbl9 rfl ?_
  refine sel_dec (fun hpos => ?_) (fun hneg => ?_)
  · have hpos : 0 < L.length := by omega
    cases f with
    | zero => omega
    | succ f =>
    rw [outerF_step st f hpos] at hF
    unfold zql1_47 zql1_43
    refine nw_ext fun bi H10 hbi he10 hc10 => ?_
    refine wr_new hc10 (by simp) rfl (c' := #[.int .i64 ((0 : Nat) : Int)]) rfl fun H11 hc11 hb11 => ?_
    have he11 : Ext H9 H11 := ext_but he10 hbi hb11
    obtain ⟨g1, g2⟩ := hS9.grow he11
    unfold zql1_40
    have hI0 : IS st B (beside B0 H9 H11) (beside Bi H9 H11) H11 a mp bl p c bi 0 T pl cl L none 0 [] x6 T.length :=
      ⟨hB0.trans g2, by rw [beside_free hbi]; exact hc11, g1, hT, hL, ⟨by simp, by simp⟩, by simp, hx1, by omega⟩
    generalize hRR : innerF st (4 * st.length + 1) 0 ⟨T, L, [], x6⟩ = R at hF
    refine ⟨II st B a mp bl p c T.length R, iμ st.length, ⟨0, bi, _, _, T, pl, cl, L, [], _, rfl, rfl, hI0, hRR, by omega⟩, ?_⟩
    rintro y6 y7 l7 c7 y8 H12 ⟨i, bi2, C0, Ci, T2, pl2, cl2, L2, N2, f2, rfl, rfl, hI, hR2, hf2⟩
    obtain ⟨i1, i2, i3, i4, i5, i6, i7, i8, i9⟩ := id hI
    obtain ⟨t1, t2, t3, t4, t5, t6⟩ := id i3
    have hbi12 := t2.1 _ _ (t1 _ _ i2)
    have hbl12 := t2.1 _ _ t3
    have hbx12 := t2.1 _ _ (t1 _ _ (i1 _ _ hBx))
    have hval : valAt (some ⟨bi2, 0, none⟩) H12 = i := by unfold valAt; simp only [hbi12]; rfl
    have hT2 := i4.len
    unfold zql1_37
    simp only [ptr_some]
    refine ldI_at (n := (i : Nat)) hbi12 rfl ?_
    refine ldSl_at (p := pl2) (l := L2.length) (m := cl2) hbl12 rfl ?_
    refine sel_dec (fun hlt => ?_) (fun hge => ?_)
    · have hμ : iμ st.length y6 y7 N2.length c7 (some ⟨bi2, 0, none⟩) H12 = 4 * st.length + 2 - i := by unfold iμ; rw [hval]
      rw [hμ]
      refine inner_c (f := f2) hI hR2 hf2 hN hBx hvB (by omega) fun t ht H' p' c' he' hv' => ?_
      rw [ht] at hF
      exact hk1 t hF.symm H' p' c' (hHB.trans he') hv'
    · rw [innerF_end st f2 (by show ¬ i < L2.length; omega)] at hR2
      rw [← hR2] at hF
      dsimp only at hF
      unfold zql1_5
      simp only [ptr_some]
      refine sel_dec (fun hp => ?_) (fun hn => ?_)
      · rw [if_pos (by omega)] at hF
        obtain ⟨k, rfl⟩ : ∃ k : Nat, y6 = (k : Nat) := ⟨y6.toNat, by omega⟩
        rw [Int.toNat_natCast] at hF
        refine ldP_at hbx12 rfl ?_
        refine ntext_c t2 (by omega) i4.2.2 (by omega) fun H13 p13 c13 he13 hf13 hv13 hl13 => ⟨_, _, _, rfl, ?_⟩
        refine nw_ext fun q H14 hq he14 hc14 => ?_
        have hc14' : Byt H14 (some ⟨q, 0, none⟩) 1 1 [10] := ⟨rfl, Nat.le_refl _, rd_at hc14 _ 0 0 fun j hj => by simp; rfl⟩
        refine app_byt (hv13.ext he14) hc14' (by omega) fun p15 c15 H15 hv15 hs15 hb15 => ?_
        have hE : Ext B H12 := i1.trans (t1.trans t2.1)
        have e15 : Ext H12 H15 := ext_app (he13.trans he14) hf13 hs15
        have hl : (textP T2 k).length + 1 = (textP T2 k ++ [10]).length := by simp
        rw [hl] at hv15 ⊢
        exact hk1 _ hF.symm H15 p15 c15 (hHB.trans (hE.trans e15)) hv15
      · rw [if_neg (by omega)] at hF
        unfold zql1_3
        simp only [ptr_some]
        refine wr_new hbl12 (by simp) rfl (c' := #[.slice y7 N2.length c7]) rfl fun H13 hc13 hb13 => ?_
        have e13 : H13 = H12.set bl (.cells #[.slice y7 N2.length c7] 22 (0, 0)) := by
          funext j
          by_cases e : j = bl
          · subst e; rw [Heap.set_self]; exact hc13
          · rw [Heap.set_ne _ _ e]; exact hb13 j e
        obtain ⟨B', hS'⟩ := i3.turn e13
        obtain ⟨m1, m2⟩ := hS'.len
        have hmu' : 2 * (4 * st.length + 1 - T2.length) + (if N2.length = 0 then 0 else 1) < 2 * (4 * st.length + 1 - T.length) + (if L.length = 0 then 0 else 1) := by
          rw [if_neg (show ¬ L.length = 0 by omega)]
          split <;> omega
        refine ⟨⟨C0, B', T2, y7, c7, N2, f, i1, hS', i4, i6, hF, by omega, i8, by omega⟩, ?_⟩
        unfold oμ
        rw [len1, len2, m1, m2]
        exact hmu'
  · unfold zql1_1
    have hL0' : ¬ 0 < L.length := by omega
    have : outerF st f T L x6 = none := by
      cases f with
      | zero => rfl
      | succ f => unfold outerF; rw [if_neg hL0']
    rw [this] at hF
    exact hk2 hF.symm H9 (hHB.trans (hB0.trans (s1.trans s2.1)))
end Go.Proofs.Ytaffcoiomggpfaa

/- Plain laws of the machine: spread is a closure; what was found stays found. -/
namespace Go.Proofs.Ytaffcoiomggpfaa
open Go.V
set_option linter.constructorNameAsVariable false
set_option linter.unusedVariables false

def goes (st : List Nd) (bol eol : Bool) (j : Nat) : List Nat :=
  if (st.getD j default).k = 2 then [(st.getD j default).r.toNat, (st.getD j default).l.toNat]
  else if ((st.getD j default).k = 3 ∧ bol = true) ∨ ((st.getD j default).k = 4 ∧ eol = true) then [(st.getD j default).l.toNat]
  else []
def isM (st : List Nd) (j : Nat) : Bool := decide ((st.getD j default).k = 5)
theorem spreadL_step (st : List Nd) (bol eol : Bool) (f i : Nat) (m : Bool) (l : List Nat) :
    spreadL st bol eol (f + 1) i m l = if i < l.length then spreadL st bol eol f (i + 1) (m || isM st (l.getD i 0)) ((goes st bol eol (l.getD i 0)).foldl addL l) else (l, m) := by
  conv => lhs; unfold spreadL
  split
  · dsimp only
    unfold goes isM
    generalize st.getD (l.getD i 0) default = x
    by_cases h2 : x.k = 2
    · rw [if_pos h2, if_pos h2]
      have : decide (x.k = 5) = false := decide_eq_false (by omega)
      rw [this]; simp
    · rw [if_neg h2, if_neg h2]
      by_cases h3 : (x.k = 3 ∧ bol = true) ∨ (x.k = 4 ∧ eol = true)
      · rw [if_pos h3, if_pos h3]
        have : decide (x.k = 5) = false := decide_eq_false (by omega)
        rw [this]; simp
      · rw [if_neg h3, if_neg h3]
        by_cases h5 : x.k = 5
        · rw [if_pos h5, decide_eq_true h5]; simp
        · rw [if_neg h5, decide_eq_false h5]; simp
  · rfl
theorem mem_addL {l : List Nat} {i j : Nat} : j ∈ addL l i ↔ j ∈ l ∨ j = i := by
  unfold addL
  split
  · rename_i h
    exact ⟨.inl, fun h' => h'.elim id (fun e => e ▸ h)⟩
  · simp
theorem addL_pre (l : List Nat) (i : Nat) : ∃ r, addL l i = l ++ r := by
  unfold addL
  split
  · exact ⟨[], by simp⟩
  · exact ⟨[i], rfl⟩
theorem foldl_addL : ∀ (s l : List Nat), (∃ r, s.foldl addL l = l ++ r) ∧ ∀ j, j ∈ s.foldl addL l ↔ j ∈ l ∨ j ∈ s
  | [], l => ⟨⟨[], by simp⟩, by simp⟩
  | x :: s, l => by
    obtain ⟨⟨r, h1⟩, h2⟩ := foldl_addL s (addL l x)
    obtain ⟨r0, h0⟩ := addL_pre l x
    refine ⟨⟨r0 ++ r, by rw [List.foldl_cons, h1, h0, List.append_assoc]⟩, fun j => ?_⟩
    rw [List.foldl_cons, h2 j, mem_addL, List.mem_cons]
    exact or_assoc
theorem goes_lt {st : List Nd} (hr : InR st) {bol eol : Bool} {j s : Nat} (hj : j < st.length) (hs : s ∈ goes st bol eol j) : s < st.length := by
  have := hr.at (getD_some hj)
  unfold goes at hs
  generalize st.getD j default = x at this hs
  split at hs
  · simp at hs; omega
  · split at hs
    · simp at hs; omega
    · simp at hs
theorem OkL.fold {st : List Nd} : ∀ (s l : List Nat), OkL st.length l → (∀ j ∈ s, j < st.length) → OkL st.length (s.foldl addL l)
  | [], l, h, _ => h
  | x :: s, l, h, hs => OkL.fold s (addL l x) (h.add (hs x (by simp))) fun j hj => hs j (by simp [hj])
theorem spreadL_spec {st : List Nd} (hr : InR st) (bol eol : Bool) : ∀ (f i : Nat) (m : Bool) (l : List Nat), OkL st.length l → i ≤ l.length → st.length < f + i →
    (∀ j ∈ l.take i, ∀ s ∈ goes st bol eol j, s ∈ l) → m = (l.take i).any (isM st) →
    (∃ r, (spreadL st bol eol f i m l).1 = l ++ r) ∧ (∀ j ∈ (spreadL st bol eol f i m l).1, ∀ s ∈ goes st bol eol j, s ∈ (spreadL st bol eol f i m l).1) ∧
    (spreadL st bol eol f i m l).2 = (spreadL st bol eol f i m l).1.any (isM st)
  | 0, i, m, l, ho, hi, hf, _, _ => by have := ho.len; omega
  | f + 1, i, m, l, ho, hi, hf, hc, hm => by
    rw [spreadL_step]
    split
    · rename_i hlt
      have hget : l[i]? = some (l.getD i 0) := by rw [List.getD_eq_getElem?_getD, List.getElem?_eq_getElem hlt]; rfl
      have htk : l.take (i + 1) = l.take i ++ [l.getD i 0] := by rw [List.take_add_one, hget]; rfl
      have hjm : l.getD i 0 ∈ l := List.mem_iff_getElem?.2 ⟨i, hget⟩
      have hjlt := ho.2 _ hjm
      generalize l.getD i 0 = j at hget htk hjm hjlt
      obtain ⟨⟨r, h1⟩, h2⟩ := foldl_addL (goes st bol eol j) l
      have htk2 : ((goes st bol eol j).foldl addL l).take (i + 1) = l.take (i + 1) := by rw [h1, List.take_append_of_le_length (by omega)]
      obtain ⟨⟨r2, e1⟩, e2, e3⟩ := spreadL_spec hr bol eol f (i + 1) (m || isM st j) ((goes st bol eol j).foldl addL l) (ho.fold _ _ fun s hs => goes_lt hr hjlt hs) (by rw [h1]; simp; omega) (by omega)
        (fun k hk s hs => by
          rw [htk2, htk] at hk
          rcases List.mem_append.1 hk with hk | hk
          · exact (h2 s).2 (.inl (hc k hk s hs))
          · simp at hk; subst hk; exact (h2 s).2 (.inr hs))
        (by rw [htk2, htk, List.any_append, ← hm]; simp)
      exact ⟨⟨r ++ r2, by rw [e1, h1, List.append_assoc]⟩, e2, e3⟩
    · have : l.take i = l := List.take_of_length_le (by omega)
      rw [this] at hc hm
      exact ⟨⟨[], by simp⟩, hc, hm⟩
theorem spreadL_closed {st : List Nd} (bol eol : Bool) : ∀ (f i : Nat) (m : Bool) (l : List Nat), l.length ≤ st.length → i ≤ l.length → st.length < f + i → (∀ j ∈ l, ∀ s ∈ goes st bol eol j, s ∈ l) →
    spreadL st bol eol f i m l = (l, m || (l.drop i).any (isM st))
  | 0, i, m, l, hl, hi, hf, _ => by omega
  | f + 1, i, m, l, hl, hi, hf, hc => by
    rw [spreadL_step]
    split
    · rename_i hlt
      have hget : l[i]? = some (l.getD i 0) := by rw [List.getD_eq_getElem?_getD, List.getElem?_eq_getElem hlt]; rfl
      have hjm : l.getD i 0 ∈ l := List.mem_iff_getElem?.2 ⟨i, hget⟩
      have hdr : l.drop i = l.getD i 0 :: l.drop (i + 1) := by
        rw [List.drop_eq_getElem_cons hlt]
        congr 1
        rw [List.getElem?_eq_getElem hlt] at hget
        exact Option.some.inj hget
      generalize l.getD i 0 = j at hget hjm hdr
      have hfold : (goes st bol eol j).foldl addL l = l := by
        have : ∀ s : List Nat, (∀ k ∈ s, k ∈ l) → s.foldl addL l = l := fun s => by
          induction s with
          | nil => intro _; rfl
          | cons x s ih =>
            intro hs
            have hx : addL l x = l := if_pos (hs x (by simp))
            rw [List.foldl_cons, hx]
            exact ih fun k hk => hs k (by simp [hk])
        exact this _ (hc j hjm)
      rw [hfold, spreadL_closed bol eol f (i + 1) _ l hl (by omega) (by omega) hc, hdr]
      simp [Bool.or_assoc]
    · have : l.drop i = [] := List.drop_eq_nil_of_le (by omega)
      rw [this]; simp
theorem spread_again {st : List Nd} (hr : InR st) (bol eol : Bool) {l : List Nat} (ho : OkL st.length l) : spread st bol eol (spread st bol eol l).1 = spread st bol eol l := by
  have h1 := spreadL_spec hr bol eol (st.length + 1) 0 false l ho (by omega) (by omega) (by simp) (by simp)
  have h2 := spreadL_ok hr bol eol (st.length + 1) 0 false l ho
  change (∃ r, (spread st bol eol l).1 = l ++ r) ∧ (∀ j ∈ (spread st bol eol l).1, ∀ s ∈ goes st bol eol j, s ∈ (spread st bol eol l).1) ∧ (spread st bol eol l).2 = (spread st bol eol l).1.any (isM st) at h1
  change OkL st.length (spread st bol eol l).1 at h2
  have h3 := spreadL_closed bol eol (st.length + 1) 0 false (spread st bol eol l).1 h2.len (by omega) (by omega) h1.2.1
  change spread st bol eol (spread st bol eol l).1 = _ at h3
  rw [h3, List.drop_zero, Bool.false_or, ← h1.2.2]
theorem matched_ok {st : List Nd} (hr : InR st) {M : Ma} (ho : OkL st.length M.now) : OkL st.length (M.matched st).now := by
  unfold Ma.matched
  split
  · exact spreadL_ok hr _ _ _ _ _ _ ho
  · exact ho
theorem matched_again {st : List Nd} (hr : InR st) {M : Ma} (ho : OkL st.length M.now) : (M.matched st).matched st = M.matched st := by
  by_cases hf : M.found < 0
  · have h1 : M.matched st = { M with now := (spread st M.bol false M.now).1, found := if (spread st M.bol false M.now).2 = true then M.at_ else M.found } := if_pos hf
    rw [h1]
    unfold Ma.matched
    dsimp only
    rw [spread_again hr _ _ ho]
    by_cases hs : (spread st M.bol false M.now).2 = true
    · rw [if_pos hs]
      rw [if_neg (by omega)]
    · have hs : (spread st M.bol false M.now).2 = false := by simpa using hs
      simp only [hs, Bool.false_eq_true, if_false]
      rw [if_pos hf]
  · have h1 : M.matched st = M := if_neg hf
    rw [h1, h1]
theorem matched_stop {st : List Nd} {M : Ma} (h : 0 ≤ M.found) : M.matched st = M := if_neg (by omega)
theorem read_ok {st : List Nd} (hr : InR st) (hpos : 0 < st.length) (anch : Bool) {M : Ma} (b : Nat) (ho : OkL st.length M.now) : OkL st.length (Ma.read st anch M b).now := by
  have h := readL_ok hr b M.now ho.2 [] (OkL.nil _)
  change OkL st.length (readL st b M.now) at h
  unfold Ma.read
  dsimp only
  refine spreadL_ok hr _ _ _ _ _ _ ?_
  split
  · exact h
  · exact h.add hpos
theorem spread_ok {st : List Nd} (hr : InR st) (bol eol : Bool) {l : List Nat} (ho : OkL st.length l) : OkL st.length (spread st bol eol l).1 := spreadL_ok hr _ _ _ _ _ _ ho
theorem feedL_cons (st : List Nd) (anch : Bool) (c : Nat) (l : List Nat) (M : Ma) : feedL st anch (c :: l) M =
    if 0 ≤ (M.matched st).found then M.matched st
    else if c = 10 ∧ (spread st (M.matched st).bol true (M.matched st).now).2 = true then { M.matched st with now := (spread st (M.matched st).bol true (M.matched st).now).1, found := (M.matched st).at_ + 1 }
    else feedL st anch l (Ma.read st anch (if c = 10 then { M.matched st with now := (spread st (M.matched st).bol true (M.matched st).now).1 } else M.matched st) c) := by
  conv => lhs; unfold feedL
  split
  · rfl
  · by_cases hc : c = 10
    · rw [if_pos hc, if_pos hc]
      dsimp only
      by_cases hs : (spread st (M.matched st).bol true (M.matched st).now).2 = true
      · rw [if_pos hs, if_pos ⟨hc, hs⟩]
      · rw [if_neg hs, if_neg (fun h => hs h.2)]
    · rw [if_neg hc, if_neg hc, if_neg (fun h => hc h.1)]
def stepM (st : List Nd) (anch : Bool) (M : Ma) (c : Nat) : Ma := Ma.read st anch (if c = 10 then { M.matched st with now := (spread st (M.matched st).bol true (M.matched st).now).1 } else M.matched st) c
theorem stepM_facts {st : List Nd} (hr : InR st) (hpos : 0 < st.length) (anch : Bool) {M : Ma} (c : Nat) (ho : OkL st.length M.now) :
    OkL st.length (stepM st anch M c).now ∧ (stepM st anch M c).at_ = M.at_ + 1 ∧ (stepM st anch M c).found = (M.matched st).found := by
  have hm := matched_ok hr ho
  have ha := (M.matched_at st).1
  unfold stepM
  split
  · exact ⟨read_ok hr hpos anch c (spread_ok hr _ _ hm), by show (M.matched st).at_ + 1 = _; rw [ha], rfl⟩
  · exact ⟨read_ok hr hpos anch c hm, by show (M.matched st).at_ + 1 = _; rw [ha], rfl⟩
theorem feedL_ok {st : List Nd} (hr : InR st) (hpos : 0 < st.length) (anch : Bool) : ∀ (t : List Nat) (M : Ma), OkL st.length M.now → OkL st.length (feedL st anch t M).now
  | [], M, h => h
  | c :: t, M, h => by
    rw [feedL_cons]
    split
    · exact matched_ok hr h
    · split
      · exact spread_ok hr _ _ (matched_ok hr h)
      · exact feedL_ok hr hpos anch t _ (stepM_facts hr hpos anch c h).1
theorem start_ok {st : List Nd} (hr : InR st) (hpos : 0 < st.length) (bol : Bool) : OkL st.length (startM st bol).now :=
  spread_ok hr _ _ ⟨by simp, fun i hi => by simp at hi; omega⟩
end Go.Proofs.Ytaffcoiomggpfaa

/- Plain laws of a matcher that is fed in pieces. -/
namespace Go.Proofs.Ytaffcoiomggpfaa
open Go.V
set_option linter.constructorNameAsVariable false
set_option linter.unusedVariables false

section
variable {st : List Nd} (hr : InR st) (hpos : 0 < st.length)
include hr hpos
end
end Go.Proofs.Ytaffcoiomggpfaa

/- Contracts of package regex (1): the small functions. -/
namespace Go.Proofs.Ytaffcoiomggpfaa
open Go.V
attribute [local irreducible] app
set_option linter.constructorNameAsVariable false
set_option linter.unusedVariables false

structure RP where
  s : ByteArray
  at_ : Nat
  op : Nat
  nds : List Nd
  e : Int
def RP.cells (r : RP) (p : OA) (c : Nat) : Array Value := #[.string r.s, .int .i64 r.at_, .int .i64 r.op, .slice p r.nds.length c, .int .i64 r.e]
def RPs (H0 H : Heap) (b : Nat) (r : RP) : Prop :=
  Ext H0 H ∧ H0 b = none ∧ r.at_ ≤ r.s.size ∧ r.s.size ≤ 4096 ∧
  ∃ p c t, H b = some (.cells (r.cells p c) t (0, 0)) ∧ Vec H 7 p r.nds.length c (flat r.nds) ∧ ∀ i, blk p i → H0 i = none ∧ i ≠ b

theorem RPs.ext {H0 H H' : Heap} {b : Nat} {r : RP} (h : RPs H0 H b r) (he : Ext H H') : RPs H0 H' b r := by
  obtain ⟨h1, h2, h3, h4, p, c, t, h5, h6, h7⟩ := h
  exact ⟨h1.trans he, h2, h3, h4, p, c, t, he _ _ h5, h6.ext he, h7⟩
theorem RPs.base {H0 H : Heap} {b : Nat} {r : RP} {i : Nat} {o : Obj} (h : RPs H0 H b r) (hi : H i = some o) (hn : i ≠ b) (hp : ∀ p c t, H b = some (.cells (r.cells p c) t (0, 0)) → ¬ blk p i) : RPs (H0.set i o) H b r := by
  obtain ⟨h1, h2, h3, h4, p, c, t, h5, h6, h7⟩ := h
  refine ⟨h1.base hi, by rw [Heap.set_ne _ _ (Ne.symm hn)]; exact h2, h3, h4, p, c, t, h5, h6, fun j hj => ⟨?_, (h7 j hj).2⟩⟩
  rw [Heap.set_ne _ _ (fun e => hp p c t h5 (by rw [← e]; exact hj))]; exact (h7 j hj).1
theorem RPs.new {H0 H : Heap} {b : Nat} {r : RP} {i : Nat} (h : RPs H0 H b r) (hi : H i = none) (o : Obj) : RPs (H0.set i o) (H.set i o) b r := by
  have hb : b ≠ i := by obtain ⟨_, _, _, _, p, c, t, h5, _⟩ := h; exact ne_of h5 hi
  refine (h.ext (Ext.new hi o)).base (Heap.set_self _ _ _) (Ne.symm hb) fun p c t hc hp => ?_
  obtain ⟨_, _, _, _, p', c', t', h5, h6, _⟩ := h
  rw [Heap.set_ne _ _ hb, h5] at hc
  have : p' = p := by
    simp only [Option.some.injEq, Obj.cells.injEq, RP.cells] at hc
    have := congrArg (fun a => a[3]?) hc.1
    simp at this; exact this.1
  subst this
  exact h6.known hp hi
theorem RPs.old {H0 H : Heap} {b : Nat} {r : RP} {i : Nat} {o : Obj} (hi : H0 i = none) (h : RPs (H0.set i o) H b r) : RPs H0 H b r := by
  obtain ⟨h1, h2, h3, h4, p, c, t, h5, h6, h7⟩ := h
  have hl : ∀ j, (H0.set i o) j = none → H0 j = none := fun j hj => by
    by_cases e : j = i
    · subst e; exact hi
    · rwa [Heap.set_ne _ _ e] at hj
  exact ⟨h1.of_set hi, hl _ h2, h3, h4, p, c, t, h5, h6, fun j hj => ⟨hl _ (h7 j hj).1, (h7 j hj).2⟩⟩

def RP.fail (r : RP) (e : Int) : RP := if r.e = 0 then { r with e := e } else r
def RP.next (r : RP) : Nat × Bool := if r.e ≠ 0 ∨ r.s.size ≤ r.at_ then (0, false) else (byteAt r.s r.at_, true)
def RP.put (r : RP) (x : Nd) : RP := { r with nds := r.nds ++ [x] }

theorem RPs.st1 {H0 H : Heap} {b a : Nat} {r : RP} {v : Int} {K : Heap → Prop} (h : RPs H0 H b r) (hv : v = (a : Nat)) (ha : a ≤ r.s.size) (hk : ∀ H', RPs H0 H' b { r with at_ := a } → K H') :
    wr (Addr.add ⟨b, 0, none⟩ 1) [.int .i64 v] H K := by
  subst hv
  obtain ⟨h1, h2, h3, h4, p, c, t, h5, h6, h7⟩ := h
  rw [add_at]
  refine wr_at h5 (by simp [RP.cells]) rfl ?_
  exact hk _ ⟨h1.set h2 _, h2, ha, h4, p, c, t, Heap.set_self _ _ _, h6.keep fun i hi _ => Heap.set_ne _ _ (h7 i hi).2, h7⟩
theorem RPs.upd {H0 H : Heap} {b i : Nat} {r : RP} {o : Obj} (h : RPs (H0.set i o) H b r) (o' : Obj) : RPs (H0.set i o') (H.set i o') b r := by
  obtain ⟨h1, h2, h3, h4, p, c, t, h5, h6, h7⟩ := h
  have hne : ∀ {j}, (H0.set i o) j = none → j ≠ i ∧ H0 j = none := fun {j} hj => by
    by_cases e : j = i
    · subst e; rw [Heap.set_self] at hj; cases hj
    · rw [Heap.set_ne _ _ e] at hj; exact ⟨e, hj⟩
  have hset : ∀ {j}, (H0.set i o) j = none → (H0.set i o') j = none := fun {j} hj => by rw [Heap.set_ne _ _ (hne hj).1]; exact (hne hj).2
  refine ⟨fun j x hj => ?_, hset h2, h3, h4, p, c, t, by rw [Heap.set_ne _ _ (hne h2).1]; exact h5, h6.keep fun j hj _ => Heap.set_ne _ _ (hne (h7 j hj).1).1, fun j hj => ⟨hset (h7 j hj).1, (h7 j hj).2⟩⟩
  by_cases e : j = i
  · subst e; rw [Heap.set_self] at hj ⊢; exact hj
  · rw [Heap.set_ne _ _ e] at hj ⊢; exact h1 j x (by rw [Heap.set_ne _ _ e]; exact hj)
theorem RPs.bound {H0 H : Heap} {b : Nat} {r : RP} (h : RPs H0 H b r) : r.at_ ≤ r.s.size ∧ r.s.size ≤ 4096 := ⟨h.2.2.1, h.2.2.2.1⟩
def RP.inc (r : RP) : RP := { r with at_ := r.at_ + 1 }
theorem RP.next_some {r : RP} {c : Nat} (h : r.next = (c, true)) : r.e = 0 ∧ r.at_ < r.s.size ∧ c = byteAt r.s r.at_ ∧ c ≤ 255 := by
  unfold RP.next at h
  split at h
  · cases h
  · cases h; exact ⟨by omega, by omega, rfl, byteAt_le _ _⟩
theorem RPs.atOf {H0 H : Heap} {b : Nat} {r : RP} (h : RPs H0 H b r) : atOf b H = r.at_ := by
  obtain ⟨_, _, _, _, p, c, t, h5, _⟩ := h
  simp [Proofs.Ytaffcoiomggpfaa.atOf, h5, RP.cells]
structure RP.Le (r r' : RP) : Prop where
  s : r'.s = r.s
  at_ : r.at_ ≤ r'.at_
  e : r.e ≠ 0 → r'.e = r.e
  op : r'.op = r.op
  nds : r'.nds = r.nds
theorem RP.Le.refl (r : RP) : RP.Le r r := ⟨rfl, Nat.le_refl _, fun _ => rfl, rfl, rfl⟩
theorem RP.Le.trans {a b c : RP} (h : a.Le b) (g : b.Le c) : a.Le c := ⟨g.s.trans h.s, Nat.le_trans h.at_ g.at_, fun x => (g.e (by rw [h.e x]; exact x)).trans (h.e x), g.op.trans h.op, g.nds.trans h.nds⟩
theorem RP.Le.fail (r : RP) (e : Int) (he : e ≠ 0) : r.Le (r.fail e) := by
  unfold RP.fail; split
  · exact ⟨rfl, Nat.le_refl _, fun h => absurd ‹r.e = 0› h, rfl, rfl⟩
  · exact .refl _
theorem RP.Le.inc (r : RP) : r.Le r.inc := ⟨rfl, Nat.le_succ _, fun _ => rfl, rfl, rfl⟩
theorem RP.fail_e (r : RP) {e : Int} (he : e ≠ 0) : (r.fail e).e ≠ 0 := by
  unfold RP.fail; split
  · exact he
  · assumption
end Go.Proofs.Ytaffcoiomggpfaa

/- Contracts of package regex (2): classes. -/
namespace Go.Proofs.Ytaffcoiomggpfaa
open Go.V
attribute [local irreducible] app
set_option linter.constructorNameAsVariable false
set_option linter.unusedVariables false

end Go.Proofs.Ytaffcoiomggpfaa

/- Contracts of package regex (3): the parser. -/
namespace Go.Proofs.Ytaffcoiomggpfaa
open Go.V
attribute [local irreducible] app
set_option linter.constructorNameAsVariable false
set_option linter.unusedVariables false

def nd (k : Int) (l r : Nat) (s : S4) : Nd := ⟨k, l, r, s.a, s.b, s.c, s.d⟩
def RP.putN (r : RP) (x : Nd) : Nat × RP := (r.nds.length, r.put x)
def RP.up (r : RP) : RP := { r with op := r.op + 1 }
def RP.down (r : RP) : RP := { r with op := r.op - 1 }
structure Up (r r' : RP) (d : Int) (m : Nat) : Prop where
  s : r'.s = r.s
  at_ : r.at_ + m ≤ r'.at_
  lo : r.op ≤ r'.op
  hi : r'.op ≤ r.op + 1
  op : (r'.e = 0 ∨ r.e ≠ 0) → r'.op = r.op
  e : r.e ≠ 0 → r'.e = r.e
  nds : (r'.nds.length : Int) + 2 * r.at_ ≤ r.nds.length + 2 * r'.at_ + d
theorem RP.Le.up {r r' : RP} (h : r.Le r') : Up r r' 0 0 :=
  ⟨h.s, h.at_, by rw [h.op]; exact Nat.le_refl _, by rw [h.op]; exact Nat.le_succ _, fun _ => h.op, h.e, by rw [h.nds]; have := h.at_; omega⟩
theorem Up.trans {a b c : RP} {d d' : Int} {m m' : Nat} (h : Up a b d m) (g : Up b c d' m') : Up a c (d + d') (m + m') := by
  have h1 := h.op; have h2 := g.op; have h3 := h.e; have h4 := g.e
  refine ⟨g.s.trans h.s, by have := h.at_; have := g.at_; omega, Nat.le_trans h.lo g.lo, ?_, ?_, fun x => (h4 (by rw [h3 x]; exact x)).trans (h3 x), by have := h.nds; have := g.nds; omega⟩
  · by_cases hb : b.e = 0
    · rw [← h1 (.inl hb)]; exact g.hi
    · rw [h2 (.inr hb)]; exact h.hi
  · rintro (hc | ha)
    · have hb : b.e = 0 := by
        by_cases hb : b.e = 0
        · exact hb
        · exact absurd hc (by rw [h4 hb]; exact hb)
      rw [h2 (.inl hc), h1 (.inl hb)]
    · rw [h2 (.inr (by rw [h3 ha]; exact ha)), h1 (.inr ha)]
theorem Up.put {a b : RP} {d : Int} {m : Nat} (h : Up a b d m) (x : Nd) : Up a (b.put x) (d + 1) m :=
  ⟨h.s, h.at_, h.lo, h.hi, h.op, h.e, by have := h.nds; simp only [RP.put, List.length_append, List.length_singleton]; omega⟩
theorem Up.inc {a b : RP} {d : Int} {m : Nat} (h : Up a b d m) : Up a b.inc (d - 2) (m + 1) :=
  ⟨h.s, by have := h.at_; simp only [RP.inc]; omega, h.lo, h.hi, h.op, h.e, by have := h.nds; simp only [RP.inc]; omega⟩
theorem Up.refl (r : RP) : Up r r 0 0 := (RP.Le.refl r).up
theorem Up.fail {a b : RP} {d : Int} {m : Nat} (h : Up a b d m) {e : Int} (he : e ≠ 0) : Up a (b.fail e) d m := by
  have := h.trans (RP.Le.fail b e he).up
  simpa using this
theorem fail_op (r : RP) (e : Int) : (r.fail e).op = r.op ∧ (r.fail e).nds = r.nds ∧ (r.fail e).at_ = r.at_ ∧ (r.fail e).s = r.s := by
  unfold RP.fail; split <;> simp
end Go.Proofs.Ytaffcoiomggpfaa

/- Contracts of package regex (4): the parser. -/
namespace Go.Proofs.Ytaffcoiomggpfaa
open Go.V
attribute [local irreducible] app
set_option linter.constructorNameAsVariable false
set_option linter.unusedVariables false

theorem RPs.cap {H0 H : Heap} {b : Nat} {r : RP} (h : RPs H0 H b r) (hn : r.nds.length ≤ 2 * r.at_ + 100) : r.nds.length < 1048576 := by have := h.bound; omega
end Go.Proofs.Ytaffcoiomggpfaa

/- Plain law: the nodes of a parse are one tree, kids before their parents. -/
namespace Go.Proofs.Ytaffcoiomggpfaa
open Go.V
attribute [local irreducible] app
set_option linter.constructorNameAsVariable false
set_option linter.unusedVariables false

def setOk (x : Nd) : Prop := x.k = 2 ∨ (x.a = 0 ∧ x.b = 0 ∧ x.c = 0 ∧ x.d = 0)
inductive Tree : Nat → List Nd → Prop where
  | leaf {o : Nat} {x : Nd} (hk : kidsOf x.k = 0) (hl : x.l = 0) (hr : x.r = 0) (hs : setOk x) : Tree o [x]
  | un {o : Nat} {t : List Nd} {x : Nd} (ht : Tree o t) (hk : kidsOf x.k = 1) (hl : x.l + 1 = ((o + t.length : Nat) : Int)) (hr : x.r = 0) (hs : setOk x) : Tree o (t ++ [x])
  | bin {o : Nat} {t u : List Nd} {x : Nd} (ht : Tree o t) (hu : Tree (o + t.length) u) (hk : kidsOf x.k = 2) (hl : x.l + 1 = ((o + t.length : Nat) : Int)) (hr : x.r + 1 = ((o + t.length + u.length : Nat) : Int)) (hs : setOk x) :
      Tree o (t ++ u ++ [x])
theorem Tree.pos {o : Nat} {t : List Nd} (h : Tree o t) : 0 < t.length := by
  cases h <;> simp only [List.length_append, List.length_cons, List.length_nil] <;> omega
def Adds (r : RP) (n : Nat) (r' : RP) : Prop := r'.e = 0 → ∃ t, r'.nds = r.nds ++ t ∧ Tree r.nds.length t ∧ n + 1 = r'.nds.length
theorem Adds.leaf {r a : RP} (h : a.nds = r.nds) {k : Int} {s : S4} (hk : kidsOf k = 0) (hs : k = 2 ∨ s = S4.zero) : Adds r (a.putN (nd k 0 0 s)).1 (a.putN (nd k 0 0 s)).2 := fun _ =>
  ⟨[nd k 0 0 s], by simp [RP.putN, RP.put, h], .leaf hk rfl rfl (by rcases hs with h | h; exact .inl h; subst h; exact .inr ⟨rfl, rfl, rfl, rfl⟩), by simp [RP.putN, RP.put]⟩
theorem Adds.bad {r a : RP} {n : Nat} (h : a.e ≠ 0) : Adds r n a := fun h' => absurd h' h
/-! ### The place does not leave the text. -/
def Fit (r : RP) : Prop := r.at_ ≤ r.s.size
theorem Fit.fail {r : RP} (h : Fit r) (e : Int) : Fit (r.fail e) := by obtain ⟨_, _, f3, f4⟩ := fail_op r e; unfold Fit; rw [f3, f4]; exact h
theorem Fit.next {r : RP} {c : Nat} (h : r.next = (c, true)) : Fit r.inc := (RP.next_some h).2.1
end Go.Proofs.Ytaffcoiomggpfaa

/- Plain law: a tree is Valid, and has one kid less than nodes. -/
namespace Go.Proofs.Ytaffcoiomggpfaa
open Go.V
attribute [local irreducible] app
set_option linter.constructorNameAsVariable false
set_option linter.unusedVariables false

end Go.Proofs.Ytaffcoiomggpfaa

/- Contracts of packages nfa (Compile) and matcher. -/
namespace Go.Proofs.Ytaffcoiomggpfaa
open Go.V
attribute [local irreducible] app
set_option linter.constructorNameAsVariable false
set_option linter.unusedVariables false

theorem Compile_c {H : Heap} {p : OA} {c : Nat} {l : List Nd} {Q : QT} {E : ET} (hv : Vec H 7 p l.length c (flat l)) (hval : validOf l = true)
    (hk : ∀ H' p' c', Ext H H' → Vec H' 7 p' (buildOf l).length c' (flat (buildOf l)) → Q (.tuple #[.slice p' (buildOf l).length c', .int .i64 0]) H') : Does Pr 33 #[.slice p l.length c] H Q E := by
  refine zqj1_fn _ _ _ Q E H ?_
  unfold zqj1 zqj1_3
  refine Valid_c hv fun H1 he1 => ⟨_, rfl, ?_⟩
  rw [hval]
  refine sel_ff ?_
  unfold zqj1_1
  exact Build_c (Vec.nds (hv.ext he1)) hval fun H2 p2 c2 he2 hv2 hf2 => ⟨_, _, _, rfl, hk H2 p2 c2 (he1.trans he2) hv2⟩
def Pcs (H : Heap) (p : OA) (n c : Nat) (L : List (List UInt8)) : Prop :=
  L.length = n ∧ n ≤ c ∧ ∃ vs : List Value, vs.length = n ∧ H.rdS p vs ∧ ∀ (i : Nat) (bs : List UInt8), L[i]? = some bs → ∃ (q : OA) (m cc : Nat), vs[i]? = some (Value.slice q m cc) ∧ Byt H q m cc bs
theorem Pcs.ext {H H' : Heap} {p : OA} {n c : Nat} {L : List (List UInt8)} (h : Pcs H p n c L) (he : Ext H H') : Pcs H' p n c L := by
  obtain ⟨h1, h2, vs, h3, h4, h5⟩ := h
  refine ⟨h1, h2, vs, h3, rdS_ext he h4, fun i bs hb => ?_⟩
  obtain ⟨q, m, cc, e1, e2⟩ := h5 i bs hb
  exact ⟨q, m, cc, e1, e2.ext he⟩
end Go.Proofs.Ytaffcoiomggpfaa

/- Relations between places: package r09 (1): what they look like, empty, stay, both, then, some. -/
namespace Go.Proofs.Ytaffcoiomggpfaa
open Go.V
attribute [local irreducible] app
set_option linter.constructorNameAsVariable false
set_option linter.unusedVariables false
open Classical in
noncomputable def rowC (R : Nat → Nat → Prop) (i n : Nat) : Array Value := ((List.range n).map fun k => Value.bool (decide (R i k))).toArray
theorem rowC_size (R : Nat → Nat → Prop) (i n : Nat) : (rowC R i n).size = n := by simp [rowC]
open Classical in
theorem rowC_get {R : Nat → Nat → Prop} {i k n : Nat} (hk : k < n) : (rowC R i n)[k]? = some (.bool (decide (R i k))) := by simp [rowC, hk]
theorem rowC_congr {R R' : Nat → Nat → Prop} {i n : Nat} (h : ∀ k, k < n → (R i k ↔ R' i k)) : rowC R i n = rowC R' i n := by
  unfold rowC
  congr 1
  refine List.map_congr_left fun k hk => ?_
  rw [List.mem_range] at hk
  exact congrArg Value.bool (decide_eq_decide.2 (h k hk))
def rowV (ad : Nat → Nat) (n i : Nat) : Value := .slice (some ⟨ad i, 0, none⟩) n n
def rowsV (ad : Nat → Nat) (n m : Nat) : List Value := (List.range m).map (rowV ad n)
theorem rowsV_get {ad : Nat → Nat} {n m i : Nat} (h : i < m) : (rowsV ad n m)[i]? = some (rowV ad n i) := by simp [rowsV, h]
def RelA (H0 H : Heap) (p : OA) (m n c : Nat) (ad : Nat → Nat) (R : Nat → Nat → Prop) : Prop :=
  Ext H0 H ∧ Vec H 1 p m c (rowsV ad n m) ∧ (∀ i, i < m → H (ad i) = some (.cells (rowC R i n) 4 (0, 0)) ∧ H0 (ad i) = none ∧ ¬ blk p (ad i)) ∧ (∀ i j, i < m → j < m → ad i = ad j → i = j) ∧ ∀ j, blk p j → H0 j = none
def RelH (H : Heap) (p : OA) (n c : Nat) (R : Nat → Nat → Prop) : Prop := ∃ ad : Nat → Nat, Vec H 1 p n c (rowsV ad n n) ∧ ∀ i, i < n → H (ad i) = some (.cells (rowC R i n) 4 (0, 0))
theorem RelA.rel {H0 H : Heap} {p : OA} {n c : Nat} {ad : Nat → Nat} {R : Nat → Nat → Prop} (h : RelA H0 H p n n c ad R) : RelH H p n c R := ⟨ad, h.2.1, fun i hi => (h.2.2.1 i hi).1⟩
theorem RelH.ext {H H' : Heap} {p : OA} {n c : Nat} {R : Nat → Nat → Prop} (h : RelH H p n c R) (he : Ext H H') : RelH H' p n c R := by
  obtain ⟨ad, h1, h2⟩ := h
  exact ⟨ad, h1.ext he, fun i hi => he _ _ (h2 i hi)⟩
theorem RelH.congr {H : Heap} {p : OA} {n c : Nat} {R R' : Nat → Nat → Prop} (h : RelH H p n c R) (e : ∀ i k, i < n → k < n → (R i k ↔ R' i k)) : RelH H p n c R' := by
  obtain ⟨ad, h1, h2⟩ := h
  exact ⟨ad, h1, fun i hi => by rw [← rowC_congr (R := R) (fun k hk => e i k hi hk)]; exact h2 i hi⟩
theorem RelA.congr {H0 H : Heap} {p : OA} {m n c : Nat} {ad : Nat → Nat} {R R' : Nat → Nat → Prop} (h : RelA H0 H p m n c ad R) (e : ∀ i k, i < m → k < n → (R i k ↔ R' i k)) : RelA H0 H p m n c ad R' := by
  obtain ⟨h1, h2, h3, h4, h5⟩ := h
  exact ⟨h1, h2, fun i hi => ⟨by rw [← rowC_congr (R := R) (fun k hk => e i k hi hk)]; exact (h3 i hi).1, (h3 i hi).2⟩, h4, h5⟩
theorem RelA.base {H0 H1 H : Heap} {p : OA} {m n c : Nat} {ad : Nat → Nat} {R : Nat → Nat → Prop} (h : RelA H1 H p m n c ad R) (he : Ext H0 H1) : RelA H0 H p m n c ad R := by
  obtain ⟨h1, h2, h3, h4, h5⟩ := h
  exact ⟨he.trans h1, h2, fun i hi => ⟨(h3 i hi).1, he.free (h3 i hi).2.1, (h3 i hi).2.2⟩, h4, fun j hj => he.free (h5 j hj)⟩
theorem vec_row {H : Heap} {p : OA} {m n c i : Nat} {ad : Nat → Nat} {K : OA → Nat → Nat → Prop} (h : Vec H 1 p m c (rowsV ad n m)) (hi : i < m) (hk : K (some ⟨ad i, 0, none⟩) n n) :
    (0 ≤ (i : Int) ∧ (i : Int) < ((m : Nat) : Int)) ∧ ptr p fun q => ldSl (Addr.add q ((i : Int).toNat * 1)) H K := by
  refine ⟨⟨by omega, by omega⟩, ?_⟩
  obtain ⟨b, t, cs, rfl, q, g⟩ := vec_at1 h (n := i) (rowsV_get hi)
  simp only [ptr_some, add_at, Int.toNat_natCast, Nat.mul_one, Nat.zero_add]
  exact ldSl_at q g hk
open Classical in
theorem cell_row {H : Heap} {R : Nat → Nat → Prop} {a i k n : Nat} {K : Bool → Prop} (h : H a = some (.cells (rowC R i n) 4 (0, 0))) (hk : k < n) (hK : K (decide (R i k))) :
    (0 ≤ (k : Int) ∧ (k : Int) < ((n : Nat) : Int)) ∧ ptr (some ⟨a, 0, none⟩) fun q => ldB (Addr.add q ((k : Int).toNat * 1)) H K := by
  refine ⟨⟨by omega, by omega⟩, ?_⟩
  simp only [ptr_some, add_at, Int.toNat_natCast, Nat.mul_one, Nat.zero_add]
  exact ldB_at h (rowC_get hk) hK
open Classical in
theorem RelH.get {H : Heap} {p : OA} {n c i k : Nat} {R : Nat → Nat → Prop} {K : Bool → Prop} (h : RelH H p n c R) (hi : i < n) (hk : k < n) (hK : K (decide (R i k))) :
    (0 ≤ (i : Int) ∧ (i : Int) < ((n : Nat) : Int)) ∧ ptr p fun q => ldSl (Addr.add q ((i : Int).toNat * 1)) H fun p' l' _ =>
      (0 ≤ (k : Int) ∧ (k : Int) < ((l' : Nat) : Int)) ∧ ptr p' fun q' => ldB (Addr.add q' ((k : Int).toNat * 1)) H K := by
  obtain ⟨ad, h1, h2⟩ := h
  exact vec_row h1 hi (cell_row (h2 i hi) hk hK)
def upd (R : Nat → Nat → Prop) (i k : Nat) (v : Bool) (i' k' : Nat) : Prop := (i' = i ∧ k' = k ∧ v = true) ∨ (¬ (i' = i ∧ k' = k) ∧ R i' k')
theorem upd_row {R : Nat → Nat → Prop} {i k n : Nat} {v : Bool} (hk : k < n) : over (rowC R i n) k [.bool v] = rowC (upd R i k v) i n := by
  apply Array.ext
  · simp [over, rowC_size]
  · intro j h1 h2
    have e : ∀ (a b : Array Value) (g1 : j < a.size) (g2 : j < b.size), a[j]? = b[j]? → a[j] = b[j] := fun a b g1 g2 h => by simpa [g1, g2] using h
    refine e _ _ h1 h2 ?_
    have hj : j < n := by rw [rowC_size] at h2; exact h2
    rw [over_get _ _ _ _ (by rw [rowC_size]; simp; omega)]
    by_cases hjk : j = k
    · subst hjk
      rw [if_pos (by simp), rowC_get hj, Nat.sub_self]
      show some (Value.bool v) = _
      congr 2
      cases v <;> simp [upd]
    · rw [if_neg (by simp; omega), rowC_get hj, rowC_get hj]
      congr 2
      exact decide_eq_decide.2 (by simp [upd, hjk])
theorem RelA.put {H0 H : Heap} {p : OA} {m n c i k : Nat} {ad : Nat → Nat} {R : Nat → Nat → Prop} {v : Bool} {K : Heap → Prop} (h : RelA H0 H p m n c ad R) (hi : i < m) (hk : k < n)
    (hK : ∀ H', RelA H0 H' p m n c ad (upd R i k v) → K H') : (0 ≤ (k : Int) ∧ (k : Int) < ((n : Nat) : Int)) ∧ ptr (some ⟨ad i, 0, none⟩) fun q => wr (Addr.add q ((k : Int).toNat * 1)) [.bool v] H K := by
  obtain ⟨h1, h2, h3, h4, h5⟩ := h
  obtain ⟨a1, a2, a3⟩ := h3 i hi
  refine ⟨⟨by omega, by omega⟩, ?_⟩
  simp only [ptr_some, add_at, Int.toNat_natCast, Nat.mul_one, Nat.zero_add]
  refine wr_at a1 (by rw [rowC_size]; simp; omega) rfl ?_
  rw [upd_row hk]
  refine hK _ ⟨h1.set a2 _, h2.keep fun j hj _ => Heap.set_ne _ _ (fun e => a3 (e ▸ hj)), fun j hj => ⟨?_, (h3 j hj).2⟩, h4, h5⟩
  by_cases e : j = i
  · subst e; exact Heap.set_self _ _ _
  · rw [Heap.set_ne _ _ (fun e' => e (h4 j i hj hi e')), (h3 j hj).1]
    congr 2
    exact rowC_congr fun k' _ => by simp [upd, e]
end Go.Proofs.Ytaffcoiomggpfaa

/- What nodes mean, and what the states of an automaton mean: plain laws. -/
namespace Go.Proofs.Ytaffcoiomggpfaa
open Go.V
attribute [local irreducible] app
set_option linter.unusedVariables false

inductive Star (R : Nat → Nat → Prop) : Nat → Nat → Prop where
  | none (i : Nat) : Star R i i
  | more {i j k : Nat} : R i j → Star R j k → Star R i k
def bolAt (t : List Nat) (i : Nat) : Prop := i = 0 ∨ t[i - 1]? = some 10
def eolAt (t : List Nat) (i : Nat) : Prop := t[i]? = some 10
def leafR (x : Nd) (t : List Nat) (i j : Nat) : Prop :=
  if x.k = 2 then j = i + 1 ∧ ∃ b, t[i]? = some b ∧ x.set.has b = true
  else if x.k = 8 then j = i ∧ bolAt t i
  else if x.k = 9 then j = i ∧ eolAt t i
  else j = i
def mean (t : List Nat) (l : List Nd) : Nat → Nat → Nat → Nat → Prop
  | 0, _, i, j => j = i
  | f + 1, n, i, j =>
    let x := l.getD n default
    if x.k = 2 ∨ x.k = 8 ∨ x.k = 9 then leafR x t i j
    else if x.k = 3 then ∃ m, mean t l f x.l.toNat i m ∧ mean t l f x.r.toNat m j
    else if x.k = 4 then mean t l f x.l.toNat i j ∨ mean t l f x.r.toNat i j
    else if x.k = 7 then mean t l f x.l.toNat i j ∨ j = i
    else if x.k = 5 then Star (mean t l f x.l.toNat) i j
    else if x.k = 6 then ∃ m, mean t l f x.l.toNat i m ∧ Star (mean t l f x.l.toNat) m j
    else j = i
def Step (st : List Nd) (t : List Nat) (q i q' i' : Nat) : Prop :=
  let x := st.getD q default
  (x.k = 2 ∧ i' = i ∧ (q' = x.l.toNat ∨ q' = x.r.toNat)) ∨ (x.k = 3 ∧ bolAt t i ∧ i' = i ∧ q' = x.l.toNat) ∨ (x.k = 4 ∧ eolAt t i ∧ i' = i ∧ q' = x.l.toNat) ∨
  (x.k = 1 ∧ i' = i + 1 ∧ q' = x.l.toNat ∧ ∃ b, t[i]? = some b ∧ x.set.has b = true)
inductive Acc (st : List Nd) (t : List Nat) (g k : Nat) : Nat → Nat → Nat → Prop where
  | here : Acc st t g k 0 g k
  | step {n q i q' i' : Nat} : Step st t q i q' i' → Acc st t g k n q' i' → Acc st t g k (n + 1) q i
theorem acc_step {st : List Nd} {t : List Nat} {g k n q i : Nat} (h : Acc st t g k n q i) (hg : q ≠ g) : ∃ m q' i', n = m + 1 ∧ Step st t q i q' i' ∧ Acc st t g k m q' i' := by
  cases h with
  | here => exact absurd rfl hg
  | step h1 h2 => exact ⟨_, _, _, rfl, h1, h2⟩

theorem setL_end : ∀ (st a : List Nd) (v : Int), setL (st ++ a) st.length v = st ++ setL a 0 v
  | [], _, _ => rfl
  | x :: st, a, v => by
    show x :: setL (st ++ a) st.length v = _
    rw [setL_end st a v]; rfl
theorem bd_app (l : List Nd) : ∀ (f n out : Nat) (st : List Nd), ∃ new, (bd l f n out st).2 = st ++ new
  | 0, n, out, st => ⟨[], by simp [bd]⟩
  | f + 1, n, out, st => by
    unfold bd
    dsimp only
    split
    · exact ⟨_, rfl⟩
    split
    · exact ⟨_, rfl⟩
    split
    · exact ⟨_, rfl⟩
    split
    · obtain ⟨a, ha⟩ := bd_app l f (l.getD n default).r.toNat out st
      obtain ⟨b, hb⟩ := bd_app l f (l.getD n default).l.toNat (bd l f (l.getD n default).r.toNat out st).1 (bd l f (l.getD n default).r.toNat out st).2
      exact ⟨a ++ b, by rw [hb, ha, List.append_assoc]⟩
    split
    · obtain ⟨a, ha⟩ := bd_app l f (l.getD n default).l.toNat out st
      obtain ⟨b, hb⟩ := bd_app l f (l.getD n default).r.toNat out (bd l f (l.getD n default).l.toNat out st).2
      refine ⟨a ++ (b ++ [⟨2, (bd l f (l.getD n default).l.toNat out st).1, (bd l f (l.getD n default).r.toNat out (bd l f (l.getD n default).l.toNat out st).2).1, 0, 0, 0, 0⟩]), ?_⟩
      show _ ++ [_] = _
      rw [hb, ha, List.append_assoc, List.append_assoc]
    split
    · obtain ⟨a, ha⟩ := bd_app l f (l.getD n default).l.toNat out st
      exact ⟨a ++ [_], by rw [ha, List.append_assoc]⟩
    split
    · obtain ⟨a, ha⟩ := bd_app l f (l.getD n default).l.toNat st.length (st ++ [⟨2, 0, out, 0, 0, 0, 0⟩])
      refine ⟨setL ([⟨2, 0, out, 0, 0, 0, 0⟩] ++ a) 0 ((bd l f (l.getD n default).l.toNat st.length (st ++ [⟨2, 0, out, 0, 0, 0, 0⟩])).1 : Nat), ?_⟩
      rw [ha, List.append_assoc]
      exact setL_end st _ _
    · exact ⟨[], by simp⟩
end Go.Proofs.Ytaffcoiomggpfaa

/- Relations between places: package r09 (2): then, star. -/
namespace Go.Proofs.Ytaffcoiomggpfaa
open Go.V
attribute [local irreducible] app
set_option linter.constructorNameAsVariable false
set_option linter.unusedVariables false
def War (R : Nat → Nat → Prop) : Nat → Nat → Nat → Prop
  | 0, i, k => R i k
  | j + 1, i, k => War R j i k ∨ (War R j i j ∧ War R j j k)
theorem War.trans (R : Nat → Nat → Prop) : ∀ (j m i k : Nat), m < j → War R j i m → War R j m k → War R j i k
  | 0, m, i, k, h, _, _ => by omega
  | j + 1, m, i, k, h, h1, h2 => by
    unfold War at h1 h2 ⊢
    by_cases e : m = j
    · subst e
      exact .inr ⟨h1.elim id (·.1), h2.elim id (·.2)⟩
    · have T := fun a b => War.trans R j m a b (by omega)
      rcases h1 with h1 | ⟨h1, h3⟩ <;> rcases h2 with h2 | ⟨h2, h4⟩
      · exact .inl (T _ _ h1 h2)
      · exact .inr ⟨T _ _ h1 h2, h4⟩
      · exact .inr ⟨h1, T _ _ h3 h2⟩
      · exact .inr ⟨h1, h4⟩
theorem War.mono (R : Nat → Nat → Prop) {i k : Nat} (h : R i k) : ∀ j, War R j i k
  | 0 => h
  | j + 1 => .inl (War.mono R h j)
theorem Star.trans {R : Nat → Nat → Prop} {i j k : Nat} (h : Star R i j) (h2 : Star R j k) : Star R i k := by
  induction h with
  | none => exact h2
  | more h1 _ ih => exact .more h1 (ih h2)
end Go.Proofs.Ytaffcoiomggpfaa

/- Valid and its reference: the sizes and the tree say the same. -/
namespace Go.Proofs.Ytaffcoiomggpfaa
open Go.V
set_option linter.unusedVariables false

end Go.Proofs.Ytaffcoiomggpfaa

/- Contract of jobmuxref08.Kids. -/
namespace Go.Proofs.Ytaffcoiomggpfaa
open Go.V
attribute [local irreducible] app
set_option linter.constructorNameAsVariable false
set_option linter.unusedVariables false

theorem Kids2_c {H : Heap} {k : Int} {Q : QT} {E : ET} (hk : Q (.int .i64 (kids2 k)) H) : Does Pr 42 #[.int .i64 k] H Q E := by
  refine zqb_fn _ Q E H ?_
  unfold zqb zqb_16 zqb_12 zqb_10
  have k2 : (k = 3 ∨ k = 4) → zqb_3 Q E H := fun h => by
    unfold zqb_3; unfold kids2 at hk; rw [if_pos h] at hk; exact hk
  have k1 : ¬ (k = 3 ∨ k = 4) → (k = 5 ∨ k = 6 ∨ k = 7) → Q (.int .i64 1) H := fun h h' => by
    unfold kids2 at hk; rw [if_neg h, if_pos h'] at hk; exact hk
  have k0 : ¬ (k = 3 ∨ k = 4) → ¬ (k = 5 ∨ k = 6 ∨ k = 7) → zqb_1 Q E H := fun h h' => by
    unfold zqb_1; unfold kids2 at hk; rw [if_neg h, if_neg h'] at hk; exact hk
  unfold zqb_7 zqb_5
  repeat' (refine sel_beq (fun _ => ?_) (fun _ => ?_))
  all_goals first | exact k2 (by omega) | exact k1 (by omega) (by omega) | exact k0 (by omega) (by omega) | (exfalso; omega)
end Go.Proofs.Ytaffcoiomggpfaa

/- Contracts of package jobmuxref08: tree, Valid. -/
namespace Go.Proofs.Ytaffcoiomggpfaa
open Go.V
attribute [local irreducible] app
set_option linter.unusedVariables false

end Go.Proofs.Ytaffcoiomggpfaa
