/- Contracts of package auto (3): sets, spread. -/
import Derived.Test.YtaffcoiomggpfaaVAuto2
namespace Go.Proofs.Ytaffcoiomggpfaa
open Go.V
attribute [local irreducible] app
set_option linter.constructorNameAsVariable false
set_option linter.unusedVariables false

theorem sl22 : SlT Pr 22 1 := .of (by kernel_rfl)
def natV (i : Nat) : Value := .int .i64 (i : Nat)
def addL (l : List Nat) (i : Nat) : List Nat := if i ∈ l then l else l ++ [i]
def mkV (n : Nat) (l : List Nat) : List Value := (List.range n).map fun i => Value.bool (decide (i ∈ l))
theorem mkV_length (n : Nat) (l : List Nat) : (mkV n l).length = n := by simp [mkV]
theorem mkV_get {n i : Nat} (l : List Nat) (hi : i < n) : (mkV n l)[i]? = some (.bool (decide (i ∈ l))) := by simp [mkV, hi]
theorem mkV_add {n i : Nat} {l : List Nat} (hi : i < n) (h : i ∉ l) : mkV n (addL l i) = (mkV n l).set i (.bool true) := by
  apply List.ext_getElem?
  intro j
  by_cases hj : j < n
  · rw [mkV_get _ hj, List.getElem?_set]
    unfold addL
    rw [if_neg h]
    by_cases e : i = j
    · subst e; rw [if_pos rfl, if_pos (by rw [mkV_length]; exact hi)]; simp
    · rw [if_neg e, mkV_get _ hj]; simp [Ne.symm e]
  · rw [List.getElem?_eq_none (by rw [mkV_length]; omega), List.getElem?_eq_none (by rw [List.length_set, mkV_length]; omega)]
theorem over_same {C : Array Value} {o : Nat} {v : Value} (h : C[o]? = some v) : over C o [v] = C := by
  simp only [over]
  apply Array.ext
  · simp
  · intro j h1 h2
    rw [Array.getElem_setIfInBounds]
    split
    · rename_i e; subst e; rw [Array.getElem?_eq_getElem h2] at h; exact (Option.some.inj h).symm
    · rfl
theorem sadd_c {H : Heap} {Q : Value → Heap → Prop} {E : Chain → Heap → Prop} {a o n i b c : Nat} {C : Array Value} {t : TypeId} {p : Option Addr} {l : List Nat} (hC : H a = some (.cells C t (0, 0))) (ho : o + 1 < C.size)
    (h1 : C[o]? = some (.slice p l.length c)) (h2 : C[o + 1]? = some (.slice (some ⟨b, 0, none⟩) n n)) (hv : Vec H 1 p l.length c (l.map natV)) (hm : Vec H 1 (some ⟨b, 0, none⟩) n n (mkV n l))
    (hpa : ¬ blk p a) (hpb : ¬ blk p b) (hab : b ≠ a) (hi : i < n) (hlen : l.length < 1048576)
    (hk : ∀ H' p' c', H' a = some (.cells (over C o [.slice p' (addL l i).length c']) t (0, 0)) → Vec H' 1 p' (addL l i).length c' ((addL l i).map natV) → Vec H' 1 (some ⟨b, 0, none⟩) n n (mkV n (addL l i)) →
      (∀ j, j ≠ a → j ≠ b → ¬ blk p j → H j ≠ none → H' j = H j) → (∀ j, blk p' j → blk p j ∨ H j = none) → Q (.tuple #[]) H') :
    Does Pr 80 #[.pointer (some ⟨a, o, none⟩), .int .i64 (i : Nat)] H Q E := by
  refine ue1_fn _ _ Q E H ?_
  unfold ue1
  obtain ⟨m1, m2, b', mc, mt, hbe, hb, hms, hmg⟩ := id hm
  cases hbe
  simp only [ptr_some, add_at, Int.toNat_natCast, Nat.mul_one]
  refine ldSl_at (p := some ⟨b, 0, none⟩) (l := n) (m := n) hC h2 ⟨⟨by omega, by omega⟩, ?_⟩
  simp only [ptr_some, add_at, Nat.zero_add]
  refine ldB_at (n := decide (i ∈ l)) hb (by rw [hmg i (by omega), mkV_get l hi]) ?_
  refine sel_not (fun hn => ?_) (fun hy => ?_)
  · have hn : i ∉ l := of_decide_eq_false hn
    have hadd : addL l i = l ++ [i] := if_neg hn
    refine ldSl_at (p := some ⟨b, 0, none⟩) (l := n) (m := n) hC h2 ⟨⟨by omega, by omega⟩, ?_⟩
    simp only [ptr_some, add_at, Nat.zero_add]
    refine wr_new hb (by simp; omega) rfl (c' := mc.setIfInBounds i (.bool true)) rfl fun H2 hc2 hb2 => ?_
    have hC2 : H2 a = some (.cells C t (0, 0)) := by rw [hb2 a (Ne.symm hab)]; exact hC
    have hv2 : Vec H2 1 p l.length c (l.map natV) := hv.keep fun j hj _ => hb2 j (fun e => hpb (e ▸ hj))
    refine ldSl_at (p := p) (l := l.length) (m := c) hC2 h1 ?_
    refine nw_ext fun k H3 hk3 he3 hc3 => ?_
    refine app_one (sz := 1) (ws := [natV i]) sl22 (hv2.ext he3) hc3 rfl rfl hlen (by omega) fun p' c' H4 hv4 hs4 hb4 => ?_
    have hC4 : H4 a = some (.cells C t (0, 0)) := by rw [hs4 a hpa (by rw [he3 _ _ hC2]; simp)]; exact he3 _ _ hC2
    have hH2 : ∀ j, H2 j = none → H j = none := fun j hj => by
      by_cases e : j = b
      · subst e; rw [hc2] at hj; cases hj
      · rw [hb2 j e] at hj; exact hj
    have hnp : ∀ j, blk p' j → blk p j ∨ H j = none := fun j hj => by
      rcases hb4 j hj with h | h
      · exact .inl h
      · exact .inr (hH2 j (he3.free h))
    have hpa' : ∀ j, blk p' j → j ≠ a := fun j hj e => by
      rcases hnp j hj with h | h
      · exact hpa (e ▸ h)
      · rw [e, hC] at h; cases h
    have hpb' : ∀ j, blk p' j → j ≠ b := fun j hj e => by
      rcases hnp j hj with h | h
      · exact hpb (e ▸ h)
      · rw [e, hb] at h; cases h
    refine wr_new hC4 (by simp; omega) rfl (c' := over C o [.slice p' (l.length + 1) c']) rfl fun H5 hc5 hb5 => ?_
    have hl : (addL l i).length = l.length + 1 := by rw [hadd]; simp
    refine hk H5 p' c' (by rw [hl]; exact hc5) ?_ ?_ (fun j hja hjb hjp hj => ?_) hnp
    · rw [hl, hadd]
      have : Vec H5 1 p' (l.length + 1) c' (l.map natV ++ [natV i]) := hv4.keep fun j hj _ => hb5 j (hpa' j hj)
      simpa using this
    · have hH5b : H5 b = some (.cells (mc.setIfInBounds i (.bool true)) mt (0, 0)) := by
        rw [hb5 b hab, hs4 b hpb (by rw [he3 _ _ hc2]; simp)]; exact he3 _ _ hc2
      refine ⟨by rw [mkV_length]; omega, Nat.le_refl _, b, _, mt, rfl, hH5b, by simpa using hms, fun j hj => ?_⟩
      rw [mkV_add hi hn, Array.getElem?_setIfInBounds, List.getElem?_set, mkV_length]
      by_cases e : i = j
      · rw [if_pos e, if_pos e, if_pos (by omega), if_pos (by omega)]
      · rw [if_neg e, if_neg e]; exact hmg j hj
    · rw [hb5 j hja]
      have h2 : H2 j = H j := hb2 j hjb
      cases hh : H j with
      | none => exact absurd hh hj
      | some x =>
        have h3 := he3 j x (by rw [h2]; exact hh)
        rw [hs4 j hjp (by rw [h3]; simp), h3]
  · have hy : i ∈ l := of_decide_eq_true hy
    have hadd : addL l i = l := if_pos hy
    rw [hadd] at hk
    exact hk H p c (by rw [over_same h1]; exact hC) hv hm (fun j _ _ _ _ => rfl) (fun j hj => .inl hj)

/-! ### The machine -/
structure Ma where
  now : List Nat
  bol : Bool
  at_ : Nat
  found : Int
def MC (ps : Option Addr) (n cs : Nat) (p1 : Option Addr) (l1 c1 b1 : Nat) (p3 : Option Addr) (l3 c3 b3 : Nat) (anch bol : Bool) (at_ found : Int) : Array Value :=
  #[.slice ps n cs, .slice p1 l1 c1, .slice (some ⟨b1, 0, none⟩) n n, .slice p3 l3 c3, .slice (some ⟨b3, 0, none⟩) n n, .bool anch, .bool bol, .int .i64 at_, .int .i64 found]
/-- A list of states without repetition. -/
def OkL (n : Nat) (l : List Nat) : Prop := l.Nodup ∧ ∀ i ∈ l, i < n
theorem OkL.add {n i : Nat} {l : List Nat} (h : OkL n l) (hi : i < n) : OkL n (addL l i) := by
  unfold addL
  split
  · exact h
  · rename_i hn
    refine ⟨List.nodup_append.2 ⟨h.1, by simp, fun x hx y hy e => ?_⟩, fun j hj => ?_⟩
    · simp at hy; subst hy; exact hn (e ▸ hx)
    · rcases List.mem_append.1 hj with h' | h'
      · exact h.2 j h'
      · simp at h'; omega
theorem nodup_len : ∀ (n : Nat) (l : List Nat), l.Nodup → (∀ i ∈ l, i < n) → l.length ≤ n
  | 0, l, h, hb => by
    cases l with
    | nil => simp
    | cons x l => exact absurd (hb x (by simp)) (by omega)
  | n + 1, l, h, hb => by
    have ih := nodup_len n (l.erase n) (h.erase n) fun i hi => by
      have h1 := (List.Nodup.mem_erase_iff h).1 hi
      have := hb i h1.2
      have := h1.1
      omega
    have := List.length_erase (a := n) (l := l)
    split at this <;> omega
theorem OkL.len {n : Nat} {l : List Nat} (h : OkL n l) : l.length ≤ n := nodup_len n l h.1 h.2
theorem OkL.nil (n : Nat) : OkL n [] := ⟨by simp, by simp⟩
/-- The machine in block a. -/
def MSt (H0 H : Heap) (a : Nat) (ps : Option Addr) (cs : Nat) (st : List Nd) (anch : Bool) (M : Ma) : Prop :=
  Ext H0 H ∧ H0 a = none ∧ Vec H0 7 ps st.length cs (flat st) ∧ OkL st.length M.now ∧
  ∃ (p1 p3 : Option Addr) (c1 b1 l3 c3 b3 : Nat) (t : TypeId) (xs ys : List Value), H a = some (.cells (MC ps st.length cs p1 M.now.length c1 b1 p3 l3 c3 b3 anch M.bol M.at_ M.found) t (0, 0)) ∧
    Vec H 1 p1 M.now.length c1 (M.now.map natV) ∧ Vec H 1 (some ⟨b1, 0, none⟩) st.length st.length (mkV st.length M.now) ∧
    Vec H 1 p3 l3 c3 xs ∧ Vec H 1 (some ⟨b3, 0, none⟩) st.length st.length ys ∧
    b1 ≠ a ∧ b3 ≠ a ∧ b1 ≠ b3 ∧ H0 b1 = none ∧ H0 b3 = none ∧
    (∀ j, blk p1 j → j ≠ a ∧ j ≠ b1 ∧ j ≠ b3 ∧ ¬ blk p3 j ∧ H0 j = none) ∧ (∀ j, blk p3 j → j ≠ a ∧ j ≠ b1 ∧ j ≠ b3 ∧ H0 j = none)
section
variable {H0 H : Heap} {a cs : Nat} {ps : Option Addr} {st : List Nd} {anch : Bool} {M : Ma} {Q : Value → Heap → Prop} {E : Chain → Heap → Prop}
theorem MSt.ext {H' : Heap} (h : MSt H0 H a ps cs st anch M) (he : Ext H H') : MSt H0 H' a ps cs st anch M := by
  obtain ⟨h1, h2, h3, h4, p1, p3, c1, b1, l3, c3, b3, t, xs, ys, k1, k2, k3, k4, k5, kk⟩ := h
  exact ⟨h1.trans he, h2, h3, h4, p1, p3, c1, b1, l3, c3, b3, t, xs, ys, he _ _ k1, k2.ext he, k3.ext he, k4.ext he, k5.ext he, kk⟩
theorem blk1 {b : Nat} : blk (some ⟨b, 0, none⟩) b := ⟨_, rfl, rfl⟩
theorem MSt.new {i : Nat} (h : MSt H0 H a ps cs st anch M) (hi : H i = none) (o : Obj) : MSt (H0.set i o) (H.set i o) a ps cs st anch M := by
  obtain ⟨h1, h2, h3, h4, p1, p3, c1, b1, l3, c3, b3, t, xs, ys, k1, k2, k3, k4, k5, d1, d2, d3, d4, d5, d6, d7⟩ := h
  have ha : a ≠ i := ne_of k1 hi
  have he : Ext H (H.set i o) := Ext.new hi o
  have nn : ∀ {j}, j ≠ i → H0 j = none → (H0.set i o) j = none := fun hj h => by rw [Heap.set_ne _ _ hj]; exact h
  have n1 : b1 ≠ i := fun e => (k3.known blk1) (e ▸ hi)
  have n3 : b3 ≠ i := fun e => (k5.known blk1) (e ▸ hi)
  have np1 : ∀ j, blk p1 j → j ≠ i := fun j hj e => (k2.known hj) (e ▸ hi)
  have np3 : ∀ j, blk p3 j → j ≠ i := fun j hj e => (k4.known hj) (e ▸ hi)
  refine ⟨fun j x hj => ?_, nn ha h2, h3.ext (Ext.new (h1.free hi) o), h4, p1, p3, c1, b1, l3, c3, b3, t, xs, ys, he _ _ k1, k2.ext he, k3.ext he, k4.ext he, k5.ext he, d1, d2, d3, nn n1 d4, nn n3 d5, fun j hj => ?_, fun j hj => ?_⟩
  · by_cases e : j = i
    · subst e; rw [Heap.set_self] at hj ⊢; exact hj
    · rw [Heap.set_ne _ _ e] at hj ⊢; exact h1 j x hj
  · obtain ⟨e1, e2, e3, e4, e5⟩ := d6 j hj
    exact ⟨e1, e2, e3, e4, nn (np1 j hj) e5⟩
  · obtain ⟨e1, e2, e3, e4⟩ := d7 j hj
    exact ⟨e1, e2, e3, nn (np3 j hj) e4⟩
theorem MSt.old {i : Nat} {o : Obj} (hv : Vec H0 7 ps st.length cs (flat st)) (hi : H0 i = none) (h : MSt (H0.set i o) H a ps cs st anch M) : MSt H0 H a ps cs st anch M := by
  obtain ⟨h1, h2, h3, h4, p1, p3, c1, b1, l3, c3, b3, t, xs, ys, k1, k2, k3, k4, k5, d1, d2, d3, d4, d5, d6, d7⟩ := h
  have hl : ∀ j, (H0.set i o) j = none → H0 j = none := fun j hj => by
    by_cases e : j = i
    · subst e; exact hi
    · rwa [Heap.set_ne _ _ e] at hj
  exact ⟨h1.of_set hi, hl _ h2, hv, h4, p1, p3, c1, b1, l3, c3, b3, t, xs, ys, k1, k2, k3, k4, k5, d1, d2, d3, hl _ d4, hl _ d5, fun j hj => ⟨(d6 j hj).1, (d6 j hj).2.1, (d6 j hj).2.2.1, (d6 j hj).2.2.2.1, hl _ (d6 j hj).2.2.2.2⟩,
    fun j hj => ⟨(d7 j hj).1, (d7 j hj).2.1, (d7 j hj).2.2.1, hl _ (d7 j hj).2.2.2⟩⟩
/-- A state is added to those where the machine is. -/
theorem nadd_c {i : Nat} (h : MSt H0 H a ps cs st anch M) (hi : i < st.length) (hn : st.length ≤ 100000)
    (hk : ∀ H', MSt H0 H' a ps cs st anch { M with now := addL M.now i } → Q (.tuple #[]) H') : Does Pr 80 #[.pointer (some ⟨a, 1, none⟩), .int .i64 (i : Nat)] H Q E := by
  obtain ⟨h1, h2, h3, h4, p1, p3, c1, b1, l3, c3, b3, t, xs, ys, k1, k2, k3, k4, k5, d1, d2, d3, d4, d5, d6, d7⟩ := h
  have hlen := h4.len
  refine sadd_c (o := 1) k1 (show 1 + 1 < 9 by decide) rfl rfl k2 k3 (fun hb => (d6 a hb).1 rfl) (fun hb => (d6 b1 hb).2.1 rfl) d1 hi (by omega) fun H' p' c' q1 q2 q3 q4 q5 => ?_
  have fr : ∀ j, blk p' j → j ≠ a ∧ j ≠ b1 ∧ j ≠ b3 ∧ ¬ blk p3 j ∧ H0 j = none := fun j hj => by
    rcases q5 j hj with h | h
    · exact d6 j h
    · refine ⟨fun e => (by rw [e, k1] at h; cases h), fun e => (k3.known blk1) (e ▸ h), fun e => (k5.known blk1) (e ▸ h), fun hb => (k4.known hb) h, h1.free h⟩
  refine hk H' ⟨fun j o hj => ?_, h2, h3, h4.add hi, p', p3, c', b1, l3, c3, b3, t, xs, ys, q1, q2, q3, k4.keep fun j hj hn => ?_, k5.keep fun j hj hn => ?_, d1, d2, d3, d4, d5, fr, d7⟩
  · rw [q4 j (fun e => by rw [e, h2] at hj; cases hj) (fun e => by rw [e, d4] at hj; cases hj) (fun hb => by rw [(d6 j hb).2.2.2.2] at hj; cases hj) (by rw [h1 j o hj]; simp)]; exact h1 j o hj
  · obtain ⟨e1, e2, e3, e4⟩ := d7 j hj
    exact q4 j e1 e2 (fun hb => (d6 j hb).2.2.2.1 hj) hn
  · obtain ⟨x, hx, rfl⟩ := hj
    cases hx
    exact q4 b3 d2 (Ne.symm d3) (fun hb => (d6 b3 hb).2.2.1 rfl) hn
end
end Go.Proofs.Ytaffcoiomggpfaa
