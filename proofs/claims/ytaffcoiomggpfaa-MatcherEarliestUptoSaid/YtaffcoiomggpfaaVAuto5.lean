/- Contracts of package auto (5): clear, Read, Matched, Feed, Found, Start. -/
import Derived.Test.YtaffcoiomggpfaaVAuto4
namespace Go.Proofs.Ytaffcoiomggpfaa
open Go.V
attribute [local irreducible] app
set_option linter.constructorNameAsVariable false
set_option linter.unusedVariables false

/-- The machine, and what lies in its other set; where its list is. -/
def MSn (H0 H : Heap) (a : Nat) (ps : Option Addr) (cs : Nat) (st : List Nd) (anch : Bool) (M : Ma) (p1 : Option Addr) (nx : List Nat) : Prop :=
  Ext H0 H ∧ H0 a = none ∧ Vec H0 7 ps st.length cs (flat st) ∧ OkL st.length M.now ∧ OkL st.length nx ∧
  ∃ (p3 : Option Addr) (c1 b1 c3 b3 : Nat) (t : TypeId), H a = some (.cells (MC ps st.length cs p1 M.now.length c1 b1 p3 nx.length c3 b3 anch M.bol M.at_ M.found) t (0, 0)) ∧
    Vec H 1 p1 M.now.length c1 (M.now.map natV) ∧ Vec H 1 (some ⟨b1, 0, none⟩) st.length st.length (mkV st.length M.now) ∧
    Vec H 1 p3 nx.length c3 (nx.map natV) ∧ Vec H 1 (some ⟨b3, 0, none⟩) st.length st.length (mkV st.length nx) ∧
    b1 ≠ a ∧ b3 ≠ a ∧ b1 ≠ b3 ∧ H0 b1 = none ∧ H0 b3 = none ∧
    (∀ j, blk p1 j → j ≠ a ∧ j ≠ b1 ∧ j ≠ b3 ∧ ¬ blk p3 j ∧ H0 j = none) ∧ (∀ j, blk p3 j → j ≠ a ∧ j ≠ b1 ∧ j ≠ b3 ∧ H0 j = none)
theorem rep_one (n : Nat) (v : Value) : rep n [v] = List.replicate n v := by
  induction n with
  | zero => rfl
  | succ n ih => simp [rep, ih, List.replicate_succ]
theorem mkV_nil (n : Nat) : mkV n [] = List.replicate n (.bool false) := by
  apply List.ext_getElem?
  intro j
  by_cases hj : j < n
  · rw [mkV_get _ hj, List.getElem?_replicate, if_pos hj]; simp
  · rw [List.getElem?_eq_none (by rw [mkV_length]; omega), List.getElem?_eq_none (by simp; omega)]
theorem wrS_at {H : Heap} {b o : Nat} {c : Array Value} {t : TypeId} {vs : List Value} {K : Heap → Prop} (h : H b = some (.cells c t (0, 0))) (hs : o + vs.length ≤ c.size) (ho : vs.all oneC = true)
    (hk : ∀ H', H' b = some (.cells (over c o vs) t (0, 0)) → (∀ j, j ≠ b → H' j = H j) → K H') : wrS (some ⟨b, 0, none⟩) o vs H K := by
  cases vs with
  | nil => exact hk H h (fun _ _ => rfl)
  | cons v vs =>
    simp only [wrS, ptr_some, add_at, Nat.zero_add]
    exact wr_new h hs ho rfl hk
theorem vec_zero {H : Heap} {sz : Nat} {p : Option Addr} {l c : Nat} {vs : List Value} (h : Vec H sz p l c vs) : Vec H sz p 0 c [] := by
  obtain ⟨v1, v2, v3⟩ := h
  refine ⟨by simp, by omega, ?_⟩
  cases p with
  | none => exact v3
  | some a =>
    obtain ⟨b, cs, t, rfl, hb, hcs, hget⟩ := v3
    exact ⟨b, cs, t, rfl, hb, hcs, fun j hj => by omega⟩
section
variable {H0 H : Heap} {a cs : Nat} {ps : Option Addr} {st : List Nd} {anch : Bool} {M : Ma} {Q : Value → Heap → Prop} {E : Chain → Heap → Prop}
theorem clear_c (h : MSt H0 H a ps cs st anch M) (hk : ∀ H' p1, MSn H0 H' a ps cs st anch M p1 [] → Q (.tuple #[]) H') : Does Pr 92 #[.pointer (some ⟨a, 3, none⟩)] H Q E := by
  refine ui1_fn _ Q E H ?_
  obtain ⟨h1, h2, h3, h4, p1, p3, c1, b1, l3, c3, b3, t, xs, ys, k1, k2, k3, k4, k5, d1, d2, d3, d4, d5, d6, d7⟩ := h
  unfold ui1
  simp only [ptr_some, add_at]
  refine ldSl_at (p := some ⟨b3, 0, none⟩) (l := st.length) (m := st.length) k1 rfl ?_
  obtain ⟨m1, m2, b', mc, mt, hbe, hb, hms, hmg⟩ := id k5
  cases hbe
  rw [rep_one]
  refine wrS_at hb (by simp; omega) (by simp [oneC]) fun H2 hc2 hb2 => ?_
  have hC2 : H2 a = some (.cells (MC ps st.length cs p1 M.now.length c1 b1 p3 l3 c3 b3 anch M.bol M.at_ M.found) t (0, 0)) := by rw [hb2 a (Ne.symm d2)]; exact k1
  have hk4 : Vec H2 1 p3 l3 c3 xs := k4.keep fun j hj _ => hb2 j (d7 j hj).2.2.1
  refine ldSl_at (p := p3) (l := l3) (m := c3) hC2 rfl ⟨⟨by omega, by omega⟩, ?_⟩
  have hp : (if c3 = 0 then p3 else Option.map (fun a => Addr.add a (0 * 1)) p3) = p3 := by
    split
    · rfl
    · cases p3 with
      | none => rfl
      | some x =>
        obtain ⟨_, _, bb, _, _, rfl, _⟩ := k4
        simp [add_at]
  rw [hp]
  refine wr_new hC2 (show 3 + 1 ≤ 9 by decide) rfl (c' := MC ps st.length cs p1 M.now.length c1 b1 p3 0 c3 b3 anch M.bol M.at_ M.found) rfl fun H3 hc3 hb3 => ?_
  have e3 : ∀ j, j ≠ a → j ≠ b3 → H3 j = H j := fun j hja hjb => by rw [hb3 j hja, hb2 j hjb]
  refine hk H3 p1 ⟨fun j o hj => ?_, h2, h3, h4, OkL.nil _, p3, c1, b1, c3, b3, t, hc3, k2.keep fun j hj _ => e3 j (d6 j hj).1 (d6 j hj).2.2.1, k3.keep fun j hj _ => ?_, ?_, ?_, d1, d2, d3, d4, d5, d6, d7⟩
  · rw [e3 j (fun e => by rw [e, h2] at hj; cases hj) (fun e => by rw [e, d5] at hj; cases hj)]; exact h1 j o hj
  · obtain ⟨x, hx, rfl⟩ := hj; cases hx
    exact e3 b1 d1 d3
  · exact (vec_zero hk4).keep fun j hj _ => hb3 j (d7 j hj).1
  · rw [mkV_nil]
    refine ⟨by simp, Nat.le_refl _, b3, _, mt, rfl, by rw [hb3 b3 d2]; exact hc2, by rw [over_size]; exact hms, fun j hj => ?_⟩
    rw [over_get _ _ _ _ (by simp; omega), if_pos (by simp; omega)]; simp
theorem xadd_c {i : Nat} {p1 : Option Addr} {nx : List Nat} (h : MSn H0 H a ps cs st anch M p1 nx) (hi : i < st.length) (hn : st.length ≤ 100000)
    (hk : ∀ H', MSn H0 H' a ps cs st anch M p1 (addL nx i) → Q (.tuple #[]) H') : Does Pr 80 #[.pointer (some ⟨a, 3, none⟩), .int .i64 (i : Nat)] H Q E := by
  obtain ⟨h1, h2, h3, h4, h5, p3, c1, b1, c3, b3, t, k1, k2, k3, k4, k5, d1, d2, d3, d4, d5, d6, d7⟩ := h
  have hlen := h5.len
  refine sadd_c (o := 3) k1 (show 3 + 1 < 9 by decide) rfl rfl k4 k5 (fun hb => (d7 a hb).1 rfl) (fun hb => (d7 b3 hb).2.2.1 rfl) d2 hi (by omega) fun H' p' c' q1 q2 q3 q4 q5 => ?_
  have fr : ∀ j, blk p' j → j ≠ a ∧ j ≠ b1 ∧ j ≠ b3 ∧ H0 j = none := fun j hj => by
    rcases q5 j hj with h | h
    · exact d7 j h
    · exact ⟨fun e => (by rw [e, k1] at h; cases h), fun e => (k3.known blk1) (e ▸ h), fun e => (k5.known blk1) (e ▸ h), h1.free h⟩
  refine hk H' ⟨fun j o hj => ?_, h2, h3, h4, h5.add hi, p', c1, b1, c', b3, t, q1, k2.keep fun j hj hn => ?_, k3.keep fun j hj hn => ?_, q2, q3, d1, d2, d3, d4, d5, fun j hj => ?_, fr⟩
  · rw [q4 j (fun e => by rw [e, h2] at hj; cases hj) (fun e => by rw [e, d5] at hj; cases hj) (fun hb => by rw [(d7 j hb).2.2.2] at hj; cases hj) (by rw [h1 j o hj]; simp)]; exact h1 j o hj
  · obtain ⟨e1, e2, e3, e4, e5⟩ := d6 j hj
    exact q4 j e1 e3 e4 hn
  · obtain ⟨x, hx, rfl⟩ := hj; cases hx
    exact q4 b1 d1 d3 (fun hb => (d7 b1 hb).2.1 rfl) hn
  · obtain ⟨e1, e2, e3, e4, e5⟩ := d6 j hj
    refine ⟨e1, e2, e3, fun hb => ?_, e5⟩
    rcases q5 j hb with h | h
    · exact e4 h
    · exact (k2.known hj) h
theorem MSn.new {i : Nat} {p1 : Option Addr} {nx : List Nat} (h : MSn H0 H a ps cs st anch M p1 nx) (hi : H i = none) (o : Obj) : MSn (H0.set i o) (H.set i o) a ps cs st anch M p1 nx := by
  obtain ⟨h1, h2, h3, h4, h5, p3, c1, b1, c3, b3, t, k1, k2, k3, k4, k5, d1, d2, d3, d4, d5, d6, d7⟩ := h
  have ha : a ≠ i := ne_of k1 hi
  have he : Ext H (H.set i o) := Ext.new hi o
  have nn : ∀ {j}, j ≠ i → H0 j = none → (H0.set i o) j = none := fun hj h => by rw [Heap.set_ne _ _ hj]; exact h
  have n1 : b1 ≠ i := fun e => (k3.known blk1) (e ▸ hi)
  have n3 : b3 ≠ i := fun e => (k5.known blk1) (e ▸ hi)
  have np1 : ∀ j, blk p1 j → j ≠ i := fun j hj e => (k2.known hj) (e ▸ hi)
  have np3 : ∀ j, blk p3 j → j ≠ i := fun j hj e => (k4.known hj) (e ▸ hi)
  refine ⟨fun j x hj => ?_, nn ha h2, h3.ext (Ext.new (h1.free hi) o), h4, h5, p3, c1, b1, c3, b3, t, he _ _ k1, k2.ext he, k3.ext he, k4.ext he, k5.ext he, d1, d2, d3, nn n1 d4, nn n3 d5, fun j hj => ?_, fun j hj => ?_⟩
  · by_cases e : j = i
    · subst e; rw [Heap.set_self] at hj ⊢; exact hj
    · rw [Heap.set_ne _ _ e] at hj ⊢; exact h1 j x hj
  · obtain ⟨e1, e2, e3, e4, e5⟩ := d6 j hj
    exact ⟨e1, e2, e3, e4, nn (np1 j hj) e5⟩
  · obtain ⟨e1, e2, e3, e4⟩ := d7 j hj
    exact ⟨e1, e2, e3, nn (np3 j hj) e4⟩
theorem MSn.ext {H' : Heap} {p1 : Option Addr} {nx : List Nat} (h : MSn H0 H a ps cs st anch M p1 nx) (he : Ext H H') : MSn H0 H' a ps cs st anch M p1 nx := by
  obtain ⟨h1, h2, h3, h4, h5, p3, c1, b1, c3, b3, t, k1, k2, k3, k4, k5, kk⟩ := h
  exact ⟨h1.trans he, h2, h3, h4, h5, p3, c1, b1, c3, b3, t, he _ _ k1, k2.ext he, k3.ext he, k4.ext he, k5.ext he, kk⟩
theorem MSn.old {i : Nat} {o : Obj} {p1 : Option Addr} {nx : List Nat} (hv : Vec H0 7 ps st.length cs (flat st)) (hi : H0 i = none) (h : MSn (H0.set i o) H a ps cs st anch M p1 nx) : MSn H0 H a ps cs st anch M p1 nx := by
  obtain ⟨h1, h2, h3, h4, h5, p3, c1, b1, c3, b3, t, k1, k2, k3, k4, k5, d1, d2, d3, d4, d5, d6, d7⟩ := h
  have hl : ∀ j, (H0.set i o) j = none → H0 j = none := fun j hj => by
    by_cases e : j = i
    · subst e; exact hi
    · rwa [Heap.set_ne _ _ e] at hj
  exact ⟨h1.of_set hi, hl _ h2, hv, h4, h5, p3, c1, b1, c3, b3, t, k1, k2, k3, k4, k5, d1, d2, d3, hl _ d4, hl _ d5, fun j hj => ⟨(d6 j hj).1, (d6 j hj).2.1, (d6 j hj).2.2.1, (d6 j hj).2.2.2.1, hl _ (d6 j hj).2.2.2.2⟩,
    fun j hj => ⟨(d7 j hj).1, (d7 j hj).2.1, (d7 j hj).2.2.1, hl _ (d7 j hj).2.2.2⟩⟩
/-- A cell of the machine that is no part of a set is written. -/
theorem MSt.wrS {o : Nat} {v : Value} {M' : Ma} {K : Heap → Prop} (h : MSt H0 H a ps cs st anch M) (ho : o < 9) (hv : oneC v = true) (hnow : M'.now = M.now)
    (hm : ∀ p1 l1 c1 b1 p3 l3 c3 b3, over (MC ps st.length cs p1 l1 c1 b1 p3 l3 c3 b3 anch M.bol M.at_ M.found) o [v] = MC ps st.length cs p1 l1 c1 b1 p3 l3 c3 b3 anch M'.bol M'.at_ M'.found)
    (hk : ∀ H', MSt H0 H' a ps cs st anch M' → K H') : wr ⟨a, o, none⟩ [v] H K := by
  obtain ⟨h1, h2, h3, h4, p1, p3, c1, b1, l3, c3, b3, t, xs, ys, k1, k2, k3, k4, k5, d1, d2, d3, d4, d5, d6, d7⟩ := h
  refine wr_new k1 (show o + 1 ≤ 9 by omega) (by simp [hv]) (hm _ _ _ _ _ _ _ _) fun H2 hc2 hb2 => ?_
  have q2 : Vec H2 1 p1 M.now.length c1 (M.now.map natV) := k2.keep fun j hj _ => hb2 j (d6 j hj).1
  have q3 : Vec H2 1 (some ⟨b1, 0, none⟩) st.length st.length (mkV st.length M.now) := k3.keep fun j hj _ => by obtain ⟨x, hx, rfl⟩ := hj; cases hx; exact hb2 b1 d1
  have q4 : Vec H2 1 p3 l3 c3 xs := k4.keep fun j hj _ => hb2 j (d7 j hj).1
  have q5 : Vec H2 1 (some ⟨b3, 0, none⟩) st.length st.length ys := k5.keep fun j hj _ => by obtain ⟨x, hx, rfl⟩ := hj; cases hx; exact hb2 b3 d2
  rw [← hnow] at q2 q3 h4 hc2
  refine hk H2 ⟨fun j o hj => ?_, h2, h3, h4, p1, p3, c1, b1, l3, c3, b3, t, xs, ys, hc2, q2, q3, q4, q5, d1, d2, d3, d4, d5, d6, d7⟩
  rw [hb2 j (fun e => by rw [e, h2] at hj; cases hj)]; exact h1 j o hj
end
end Go.Proofs.Ytaffcoiomggpfaa
