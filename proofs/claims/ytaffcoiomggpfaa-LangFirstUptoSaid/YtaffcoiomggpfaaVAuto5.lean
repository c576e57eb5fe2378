import Derived.Test.YtaffcoiomggpfaaVAuto2
/- Contracts of package auto (3): sets, spread. -/
namespace Go.Proofs.Ytaffcoiomggpfaa
open Go.V
attribute [local irreducible] app
set_option linter.constructorNameAsVariable false
set_option linter.unusedVariables false

theorem sl22 : SlT Pr 22 1 := .of (by kernel_rfl)
def natV (i : Nat) : Value := .int .i64 (i : Nat)
def addL (l : List Nat) (i : Nat) : List Nat := if i ∈ l then l else l ++ [i]
def mkV (n : Nat) (l : List Nat) : List Value := (List.range n).map fun i => Value.bool (decide (i ∈ l))
theorem mkV_length (n : Nat) (l : List Nat) : (mkV n l).length = n := by simp [mkV]
theorem mkV_get {n i : Nat} (l : List Nat) (hi : i < n) : (mkV n l)[i]? = some (.bool (decide (i ∈ l))) := by simp [mkV, hi]
theorem mkV_add {n i : Nat} {l : List Nat} (hi : i < n) (h : i ∉ l) : mkV n (addL l i) = (mkV n l).set i (.bool true) := by
  apply List.ext_getElem?
  intro j
  by_cases hj : j < n
  · rw [mkV_get _ hj, List.getElem?_set]
    unfold addL
    rw [if_neg h]
    by_cases e : i = j
    · subst e; rw [if_pos rfl, if_pos (by rw [mkV_length]; exact hi)]; simp
    · rw [if_neg e, mkV_get _ hj]; simp [Ne.symm e]
  · rw [List.getElem?_eq_none (by rw [mkV_length]; omega), List.getElem?_eq_none (by rw [List.length_set, mkV_length]; omega)]
theorem over_same {C : Array Value} {o : Nat} {v : Value} (h : C[o]? = some v) : over C o [v] = C := by
  simp only [over]
  apply Array.ext
  · simp
  · intro j h1 h2
    rw [Array.getElem_setIfInBounds]
    split
    · rename_i e; subst e; rw [Array.getElem?_eq_getElem h2] at h; exact (Option.some.inj h).symm
    · rfl
theorem sadd_c {H : Heap} {Q : Value → Heap → Prop} {E : Chain → Heap → Prop} {a o n i b c : Nat} {C : Array Value} {t : TypeId} {p : Option Addr} {l : List Nat} (hC : H a = some (.cells C t (0, 0))) (ho : o + 1 < C.size)
    (h1 : C[o]? = some (.slice p l.length c)) (h2 : C[o + 1]? = some (.slice (some ⟨b, 0, none⟩) n n)) (hv : Vec H 1 p l.length c (l.map natV)) (hm : Vec H 1 (some ⟨b, 0, none⟩) n n (mkV n l))
    (hpa : ¬ blk p a) (hpb : ¬ blk p b) (hab : b ≠ a) (hi : i < n) (hlen : l.length < 1048576)
    (hk : ∀ H' p' c', H' a = some (.cells (over C o [.slice p' (addL l i).length c']) t (0, 0)) → Vec H' 1 p' (addL l i).length c' ((addL l i).map natV) → Vec H' 1 (some ⟨b, 0, none⟩) n n (mkV n (addL l i)) →
      (∀ j, j ≠ a → j ≠ b → ¬ blk p j → H j ≠ none → H' j = H j) → (∀ j, blk p' j → blk p j ∨ H j = none) → Q (.tuple #[]) H') :
    Does Pr 80 #[.pointer (some ⟨a, o, none⟩), .int .i64 (i : Nat)] H Q E := by
  refine zqe1_fn _ _ Q E H ?_
  unfold zqe1
  obtain ⟨m1, m2, b', mc, mt, hbe, hb, hms, hmg⟩ := id hm
  cases hbe
  simp only [ptr_some, add_at, Int.toNat_natCast, Nat.mul_one]
  refine ldSl_at (p := some ⟨b, 0, none⟩) (l := n) (m := n) hC h2 ⟨⟨by omega, by omega⟩, ?_⟩
  simp only [ptr_some, add_at, Nat.zero_add]
  refine ldB_at (n := decide (i ∈ l)) hb (by rw [hmg i (by omega), mkV_get l hi]) ?_
  refine sel_not (fun hn => ?_) (fun hy => ?_)
  · have hn : i ∉ l := of_decide_eq_false hn
    have hadd : addL l i = l ++ [i] := if_neg hn
    refine ldSl_at (p := some ⟨b, 0, none⟩) (l := n) (m := n) hC h2 ⟨⟨by omega, by omega⟩, ?_⟩
    simp only [ptr_some, add_at, Nat.zero_add]
    refine wr_new hb (by simp; omega) rfl (c' := mc.setIfInBounds i (.bool true)) rfl fun H2 hc2 hb2 => ?_
    have hC2 : H2 a = some (.cells C t (0, 0)) := by rw [hb2 a (Ne.symm hab)]; exact hC
    have hv2 : Vec H2 1 p l.length c (l.map natV) := hv.keep fun j hj _ => hb2 j (fun e => hpb (e ▸ hj))
    refine ldSl_at (p := p) (l := l.length) (m := c) hC2 h1 ?_
    refine nw_ext fun k H3 hk3 he3 hc3 => ?_
    refine app_one (sz := 1) (ws := [natV i]) sl22 (hv2.ext he3) hc3 rfl rfl hlen (by omega) fun p' c' H4 hv4 hs4 hb4 => ?_
    have hC4 : H4 a = some (.cells C t (0, 0)) := by rw [hs4 a hpa (by rw [he3 _ _ hC2]; simp)]; exact he3 _ _ hC2
    have hH2 : ∀ j, H2 j = none → H j = none := fun j hj => by
      by_cases e : j = b
      · subst e; rw [hc2] at hj; cases hj
      · rw [hb2 j e] at hj; exact hj
    have hnp : ∀ j, blk p' j → blk p j ∨ H j = none := fun j hj => by
      rcases hb4 j hj with h | h
      · exact .inl h
      · exact .inr (hH2 j (he3.free h))
    have hpa' : ∀ j, blk p' j → j ≠ a := fun j hj e => by
      rcases hnp j hj with h | h
      · exact hpa (e ▸ h)
      · rw [e, hC] at h; cases h
    have hpb' : ∀ j, blk p' j → j ≠ b := fun j hj e => by
      rcases hnp j hj with h | h
      · exact hpb (e ▸ h)
      · rw [e, hb] at h; cases h
    refine wr_new hC4 (by simp; omega) rfl (c' := over C o [.slice p' (l.length + 1) c']) rfl fun H5 hc5 hb5 => ?_
    have hl : (addL l i).length = l.length + 1 := by rw [hadd]; simp
    refine hk H5 p' c' (by rw [hl]; exact hc5) ?_ ?_ (fun j hja hjb hjp hj => ?_) hnp
    · rw [hl, hadd]
      have : Vec H5 1 p' (l.length + 1) c' (l.map natV ++ [natV i]) := hv4.keep fun j hj _ => hb5 j (hpa' j hj)
      simpa using this
    · have hH5b : H5 b = some (.cells (mc.setIfInBounds i (.bool true)) mt (0, 0)) := by
        rw [hb5 b hab, hs4 b hpb (by rw [he3 _ _ hc2]; simp)]; exact he3 _ _ hc2
      refine ⟨by rw [mkV_length]; omega, Nat.le_refl _, b, _, mt, rfl, hH5b, by simpa using hms, fun j hj => ?_⟩
      rw [mkV_add hi hn, Array.getElem?_setIfInBounds, List.getElem?_set, mkV_length]
      by_cases e : i = j
      · rw [if_pos e, if_pos e, if_pos (by omega), if_pos (by omega)]
      · rw [if_neg e, if_neg e]; exact hmg j hj
    · rw [hb5 j hja]
      have h2 : H2 j = H j := hb2 j hjb
      cases hh : H j with
      | none => exact absurd hh hj
      | some x =>
        have h3 := he3 j x (by rw [h2]; exact hh)
        rw [hs4 j hjp (by rw [h3]; simp), h3]
  · have hy : i ∈ l := of_decide_eq_true hy
    have hadd : addL l i = l := if_pos hy
    rw [hadd] at hk
    exact hk H p c (by rw [over_same h1]; exact hC) hv hm (fun j _ _ _ _ => rfl) (fun j hj => .inl hj)

/-! ### The machine -/
structure Ma where
  now : List Nat
  bol : Bool
  at_ : Nat
  found : Int
def MC (ps : Option Addr) (n cs : Nat) (p1 : Option Addr) (l1 c1 b1 : Nat) (p3 : Option Addr) (l3 c3 b3 : Nat) (anch bol : Bool) (at_ found : Int) : Array Value :=
  #[.slice ps n cs, .slice p1 l1 c1, .slice (some ⟨b1, 0, none⟩) n n, .slice p3 l3 c3, .slice (some ⟨b3, 0, none⟩) n n, .bool anch, .bool bol, .int .i64 at_, .int .i64 found]
/-- A list of states without repetition. -/
def OkL (n : Nat) (l : List Nat) : Prop := l.Nodup ∧ ∀ i ∈ l, i < n
theorem OkL.add {n i : Nat} {l : List Nat} (h : OkL n l) (hi : i < n) : OkL n (addL l i) := by
  unfold addL
  split
  · exact h
  · rename_i hn
    refine ⟨List.nodup_append.2 ⟨h.1, by simp, fun x hx y hy e => ?_⟩, fun j hj => ?_⟩
    · simp at hy; subst hy; exact hn (e ▸ hx)
    · rcases List.mem_append.1 hj with h' | h'
      · exact h.2 j h'
      · simp at h'; omega
theorem nodup_len : ∀ (n : Nat) (l : List Nat), l.Nodup → (∀ i ∈ l, i < n) → l.length ≤ n
  | 0, l, h, hb => by
    cases l with
    | nil => simp
    | cons x l => exact absurd (hb x (by simp)) (by omega)
  | n + 1, l, h, hb => by
    have ih := nodup_len n (l.erase n) (h.erase n) fun i hi => by
      have h1 := (List.Nodup.mem_erase_iff h).1 hi
      have := hb i h1.2
      have := h1.1
      omega
    have := List.length_erase (a := n) (l := l)
    split at this <;> omega
theorem OkL.len {n : Nat} {l : List Nat} (h : OkL n l) : l.length ≤ n := nodup_len n l h.1 h.2
theorem OkL.nil (n : Nat) : OkL n [] := ⟨by simp, by simp⟩
/-- The machine in block a. -/
def MSt (H0 H : Heap) (a : Nat) (ps : Option Addr) (cs : Nat) (st : List Nd) (anch : Bool) (M : Ma) : Prop :=
  Ext H0 H ∧ H0 a = none ∧ Vec H0 7 ps st.length cs (flat st) ∧ OkL st.length M.now ∧
  ∃ (p1 p3 : Option Addr) (c1 b1 l3 c3 b3 : Nat) (t : TypeId) (xs ys : List Value), H a = some (.cells (MC ps st.length cs p1 M.now.length c1 b1 p3 l3 c3 b3 anch M.bol M.at_ M.found) t (0, 0)) ∧
    Vec H 1 p1 M.now.length c1 (M.now.map natV) ∧ Vec H 1 (some ⟨b1, 0, none⟩) st.length st.length (mkV st.length M.now) ∧
    Vec H 1 p3 l3 c3 xs ∧ Vec H 1 (some ⟨b3, 0, none⟩) st.length st.length ys ∧
    b1 ≠ a ∧ b3 ≠ a ∧ b1 ≠ b3 ∧ H0 b1 = none ∧ H0 b3 = none ∧
    (∀ j, blk p1 j → j ≠ a ∧ j ≠ b1 ∧ j ≠ b3 ∧ ¬ blk p3 j ∧ H0 j = none) ∧ (∀ j, blk p3 j → j ≠ a ∧ j ≠ b1 ∧ j ≠ b3 ∧ H0 j = none)
section
variable {H0 H : Heap} {a cs : Nat} {ps : Option Addr} {st : List Nd} {anch : Bool} {M : Ma} {Q : Value → Heap → Prop} {E : Chain → Heap → Prop}
theorem MSt.ext {H' : Heap} (h : MSt H0 H a ps cs st anch M) (he : Ext H H') : MSt H0 H' a ps cs st anch M := by
  obtain ⟨h1, h2, h3, h4, p1, p3, c1, b1, l3, c3, b3, t, xs, ys, k1, k2, k3, k4, k5, kk⟩ := h
  exact ⟨h1.trans he, h2, h3, h4, p1, p3, c1, b1, l3, c3, b3, t, xs, ys, he _ _ k1, k2.ext he, k3.ext he, k4.ext he, k5.ext he, kk⟩
theorem blk1 {b : Nat} : blk (some ⟨b, 0, none⟩) b := ⟨_, rfl, rfl⟩
theorem MSt.new {i : Nat} (h : MSt H0 H a ps cs st anch M) (hi : H i = none) (o : Obj) : MSt (H0.set i o) (H.set i o) a ps cs st anch M := by
  obtain ⟨h1, h2, h3, h4, p1, p3, c1, b1, l3, c3, b3, t, xs, ys, k1, k2, k3, k4, k5, d1, d2, d3, d4, d5, d6, d7⟩ := h
  have ha : a ≠ i := ne_of k1 hi
  have he : Ext H (H.set i o) := Ext.new hi o
  have nn : ∀ {j}, j ≠ i → H0 j = none → (H0.set i o) j = none := fun hj h => by rw [Heap.set_ne _ _ hj]; exact h
  have n1 : b1 ≠ i := fun e => (k3.known blk1) (e ▸ hi)
  have n3 : b3 ≠ i := fun e => (k5.known blk1) (e ▸ hi)
  have np1 : ∀ j, blk p1 j → j ≠ i := fun j hj e => (k2.known hj) (e ▸ hi)
  have np3 : ∀ j, blk p3 j → j ≠ i := fun j hj e => (k4.known hj) (e ▸ hi)
  refine ⟨fun j x hj => ?_, nn ha h2, h3.ext (Ext.new (h1.free hi) o), h4, p1, p3, c1, b1, l3, c3, b3, t, xs, ys, he _ _ k1, k2.ext he, k3.ext he, k4.ext he, k5.ext he, d1, d2, d3, nn n1 d4, nn n3 d5, fun j hj => ?_, fun j hj => ?_⟩
  · by_cases e : j = i
    · subst e; rw [Heap.set_self] at hj ⊢; exact hj
    · rw [Heap.set_ne _ _ e] at hj ⊢; exact h1 j x hj
  · obtain ⟨e1, e2, e3, e4, e5⟩ := d6 j hj
    exact ⟨e1, e2, e3, e4, nn (np1 j hj) e5⟩
  · obtain ⟨e1, e2, e3, e4⟩ := d7 j hj
    exact ⟨e1, e2, e3, nn (np3 j hj) e4⟩
theorem MSt.old {i : Nat} {o : Obj} (hv : Vec H0 7 ps st.length cs (flat st)) (hi : H0 i = none) (h : MSt (H0.set i o) H a ps cs st anch M) : MSt H0 H a ps cs st anch M := by
  obtain ⟨h1, h2, h3, h4, p1, p3, c1, b1, l3, c3, b3, t, xs, ys, k1, k2, k3, k4, k5, d1, d2, d3, d4, d5, d6, d7⟩ := h
  have hl : ∀ j, (H0.set i o) j = none → H0 j = none := fun j hj => by
    by_cases e : j = i
    · subst e; exact hi
    · rwa [Heap.set_ne _ _ e] at hj
  exact ⟨h1.of_set hi, hl _ h2, hv, h4, p1, p3, c1, b1, l3, c3, b3, t, xs, ys, k1, k2, k3, k4, k5, d1, d2, d3, hl _ d4, hl _ d5, fun j hj => ⟨(d6 j hj).1, (d6 j hj).2.1, (d6 j hj).2.2.1, (d6 j hj).2.2.2.1, hl _ (d6 j hj).2.2.2.2⟩,
    fun j hj => ⟨(d7 j hj).1, (d7 j hj).2.1, (d7 j hj).2.2.1, hl _ (d7 j hj).2.2.2⟩⟩
/-- A state is added to those where the machine is. -/
theorem nadd_c {i : Nat} (h : MSt H0 H a ps cs st anch M) (hi : i < st.length) (hn : st.length ≤ 100000)
    (hk : ∀ H', MSt H0 H' a ps cs st anch { M with now := addL M.now i } → Q (.tuple #[]) H') : Does Pr 80 #[.pointer (some ⟨a, 1, none⟩), .int .i64 (i : Nat)] H Q E := by
  obtain ⟨h1, h2, h3, h4, p1, p3, c1, b1, l3, c3, b3, t, xs, ys, k1, k2, k3, k4, k5, d1, d2, d3, d4, d5, d6, d7⟩ := h
  have hlen := h4.len
  refine sadd_c (o := 1) k1 (show 1 + 1 < 9 by decide) rfl rfl k2 k3 (fun hb => (d6 a hb).1 rfl) (fun hb => (d6 b1 hb).2.1 rfl) d1 hi (by omega) fun H' p' c' q1 q2 q3 q4 q5 => ?_
  have fr : ∀ j, blk p' j → j ≠ a ∧ j ≠ b1 ∧ j ≠ b3 ∧ ¬ blk p3 j ∧ H0 j = none := fun j hj => by
    rcases q5 j hj with h | h
    · exact d6 j h
    · refine ⟨fun e => (by rw [e, k1] at h; cases h), fun e => (k3.known blk1) (e ▸ h), fun e => (k5.known blk1) (e ▸ h), fun hb => (k4.known hb) h, h1.free h⟩
  refine hk H' ⟨fun j o hj => ?_, h2, h3, h4.add hi, p', p3, c', b1, l3, c3, b3, t, xs, ys, q1, q2, q3, k4.keep fun j hj hn => ?_, k5.keep fun j hj hn => ?_, d1, d2, d3, d4, d5, fr, d7⟩
  · rw [q4 j (fun e => by rw [e, h2] at hj; cases hj) (fun e => by rw [e, d4] at hj; cases hj) (fun hb => by rw [(d6 j hb).2.2.2.2] at hj; cases hj) (by rw [h1 j o hj]; simp)]; exact h1 j o hj
  · obtain ⟨e1, e2, e3, e4⟩ := d7 j hj
    exact q4 j e1 e2 (fun hb => (d6 j hb).2.2.2.1 hj) hn
  · obtain ⟨x, hx, rfl⟩ := hj
    cases hx
    exact q4 b3 d2 (Ne.symm d3) (fun hb => (d6 b3 hb).2.2.1 rfl) hn
end
end Go.Proofs.Ytaffcoiomggpfaa

/- Contracts of package auto (4): spread, Here. -/
namespace Go.Proofs.Ytaffcoiomggpfaa
open Go.V
attribute [local irreducible] app
set_option linter.constructorNameAsVariable false
set_option linter.unusedVariables false

def spreadL (st : List Nd) (bol eol : Bool) : Nat → Nat → Bool → List Nat → List Nat × Bool
  | 0, _, m, l => (l, m)
  | f + 1, i, m, l =>
    if i < l.length then
      let x := st.getD (l.getD i 0) default
      if x.k = 2 then spreadL st bol eol f (i + 1) m (addL (addL l x.r.toNat) x.l.toNat)
      else if (x.k = 3 ∧ bol = true) ∨ (x.k = 4 ∧ eol = true) then spreadL st bol eol f (i + 1) m (addL l x.l.toNat)
      else if x.k = 5 then spreadL st bol eol f (i + 1) true l
      else spreadL st bol eol f (i + 1) m l
    else (l, m)
def spread (st : List Nd) (bol eol : Bool) (l : List Nat) : List Nat × Bool := spreadL st bol eol (st.length + 1) 0 false l
theorem addL_len (l : List Nat) (i : Nat) : l.length ≤ (addL l i).length := by unfold addL; split <;> simp
theorem InR.at {st : List Nd} (hr : InR st) {n : Nat} {x : Nd} (hx : st[n]? = some x) : 0 ≤ x.l ∧ x.l < st.length ∧ 0 ≤ x.r ∧ x.r < st.length := hr x (List.mem_iff_getElem?.2 ⟨n, hx⟩)
theorem getD_some {st : List Nd} {j : Nat} (h : j < st.length) : st[j]? = some (st.getD j default) := by rw [List.getD_eq_getElem?_getD, List.getElem?_eq_getElem h]; rfl
theorem spreadL_ok {st : List Nd} (hr : InR st) (bol eol : Bool) : ∀ (f i : Nat) (m : Bool) (l : List Nat), OkL st.length l → OkL st.length (spreadL st bol eol f i m l).1
  | 0, i, m, l, h => h
  | f + 1, i, m, l, h => by
    unfold spreadL
    split
    · rename_i hi
      have hlt : l.getD i 0 < st.length := h.2 _ (by rw [List.getD_eq_getElem?_getD, List.getElem?_eq_getElem hi]; exact List.getElem_mem hi)
      have hb := hr.at (getD_some hlt)
      dsimp only
      generalize st.getD (l.getD i 0) default = x at hb
      split
      · exact spreadL_ok hr bol eol f _ m _ ((h.add (by omega)).add (by omega))
      split
      · exact spreadL_ok hr bol eol f _ m _ (h.add (by omega))
      split
      · exact spreadL_ok hr bol eol f _ true _ h
      · exact spreadL_ok hr bol eol f _ m _ h
    · exact h
section
variable {H0 H : Heap} {a cs : Nat} {ps : Option Addr} {st : List Nd} {anch : Bool} {M : Ma} {Q : Value → Heap → Prop} {E : Chain → Heap → Prop}
theorem MSt.ldSt {K : Option Addr → Nat → Nat → Prop} (h : MSt H0 H a ps cs st anch M) (hk : K ps st.length cs) : ldSl ⟨a, 0, none⟩ H K := by
  obtain ⟨h1, h2, h3, h4, p1, p3, c1, b1, l3, c3, b3, t, xs, ys, k1, kk⟩ := h
  exact ldSl_at (p := ps) (l := st.length) (m := cs) k1 rfl hk
theorem MSt.ldNow {K : Option Addr → Nat → Nat → Prop} (h : MSt H0 H a ps cs st anch M) (hk : ∀ p c, Vec H 1 p M.now.length c (M.now.map natV) → K p M.now.length c) : ldSl ⟨a, 1, none⟩ H K := by
  obtain ⟨h1, h2, h3, h4, p1, p3, c1, b1, l3, c3, b3, t, xs, ys, k1, k2, kk⟩ := h
  exact ldSl_at (p := p1) (l := M.now.length) (m := c1) k1 rfl (hk p1 c1 k2)
theorem MSt.ldAnch {K : Bool → Prop} (h : MSt H0 H a ps cs st anch M) (hk : K anch) : ldB ⟨a, 5, none⟩ H K := by
  obtain ⟨h1, h2, h3, h4, p1, p3, c1, b1, l3, c3, b3, t, xs, ys, k1, kk⟩ := h
  exact ldB_at (n := anch) k1 rfl hk
theorem MSt.ldBol {K : Bool → Prop} (h : MSt H0 H a ps cs st anch M) (hk : K M.bol) : ldB ⟨a, 6, none⟩ H K := by
  obtain ⟨h1, h2, h3, h4, p1, p3, c1, b1, l3, c3, b3, t, xs, ys, k1, kk⟩ := h
  exact ldB_at (n := M.bol) k1 rfl hk
theorem MSt.ldAtM {K : Int → Prop} (h : MSt H0 H a ps cs st anch M) (hk : K (M.at_ : Nat)) : ldI .i64 ⟨a, 7, none⟩ H K := by
  obtain ⟨h1, h2, h3, h4, p1, p3, c1, b1, l3, c3, b3, t, xs, ys, k1, kk⟩ := h
  exact ldI_at (n := (M.at_ : Nat)) k1 rfl hk
theorem MSt.ldFound {K : Int → Prop} (h : MSt H0 H a ps cs st anch M) (hk : K M.found) : ldI .i64 ⟨a, 8, none⟩ H K := by
  obtain ⟨h1, h2, h3, h4, p1, p3, c1, b1, l3, c3, b3, t, xs, ys, k1, kk⟩ := h
  exact ldI_at (n := M.found) k1 rfl hk
theorem vec_at1 {p : Option Addr} {l c : Nat} {vs : List Value} {v : Value} (h : Vec H 1 p l c vs) {n : Nat} (hx : vs[n]? = some v) : ∃ b t cs, p = some ⟨b, 0, none⟩ ∧ H b = some (.cells cs t (0, 0)) ∧ cs[n]? = some v := by
  obtain ⟨v1, v2, v3⟩ := h
  have hn := (List.getElem?_eq_some_iff.1 hx).1
  cases p with
  | none => simp only [] at v3; omega
  | some a =>
    obtain ⟨b, cs, t, rfl, hb, hcs, hget⟩ := v3
    exact ⟨b, t, cs, rfl, hb, by rw [hget n (by omega)]; exact hx⟩
set_option maxHeartbeats 1000000 in
theorem spread_c {eol : Bool} (h : MSt H0 H a ps cs st anch M) (hr : InR st) (hn : st.length ≤ 100000)
    (hk : ∀ H', MSt H0 H' a ps cs st anch { M with now := (spread st M.bol eol M.now).1 } → Q (.bool (spread st M.bol eol M.now).2) H') : Does Pr 81 #[.pointer (some ⟨a, 0, none⟩), .bool eol] H Q E := by
  refine zqf1_fn _ _ Q E H ?_
  have hvs := h.2.2.1
  unfold zqf1 zqf1_48 zqf1_44 zqf1_41
  generalize hR : spread st M.bol eol M.now = R at hk
  have hR : spreadL st M.bol eol (st.length + 1) 0 false M.now = R := hR
  refine ⟨fun m x H' => ∃ (f i : Nat) (l : List Nat), x = (i : Nat) ∧ i ≤ l.length ∧ st.length < f + i ∧ spreadL st M.bol eol f i m l = R ∧ MSt H0 H' a ps cs st anch { M with now := l },
    fun _ x _ => (st.length + 1 - x).toNat, ⟨st.length + 1, 0, M.now, rfl, by omega, by omega, hR, h⟩, ?_⟩
  rintro m x H1 ⟨f, i, l, rfl, hi, hf, hr', h1⟩
  have hll := h1.2.2.2.1.len
  dsimp only at hll
  unfold zqf1_38
  simp only [ptr_some, add_at, Nat.zero_add]
  refine h1.ldNow fun p c hv => ?_
  dsimp only at hv ⊢
  cases f with
  | zero => omega
  | succ f =>
    simp only [spreadL] at hr'
    refine sel_dec (fun hlt => ?_) (fun hge => ?_)
    · have hlt : i < l.length := by omega
      rw [if_pos hlt] at hr'
      have hmem : l[i]? = some (l.getD i 0) := by rw [List.getD_eq_getElem?_getD, List.getElem?_eq_getElem hlt]; rfl
      have hsl : l.getD i 0 < st.length := h1.2.2.2.1.2 _ (List.mem_iff_getElem?.2 ⟨i, hmem⟩)
      generalize hj : l.getD i 0 = j at hmem hsl hr'
      have hx : st[j]? = some (st.getD j default) := by rw [List.getD_eq_getElem?_getD, List.getElem?_eq_getElem hsl]; rfl
      have hb := hr.at hx
      generalize st.getD j default = x at hx hb hr'
      unfold zqf1_33
      simp only [ptr_some, add_at, Nat.zero_add]
      refine h1.ldSt (h1.ldNow fun p c hv => ⟨⟨by omega, by dsimp only; omega⟩, ?_⟩)
      dsimp only at hv ⊢
      obtain ⟨bb, tt, cc, rfl, hbb, hcc⟩ := vec_at1 hv (n := i) (v := natV j) (by simp [hmem])
      simp only [ptr_some, add_at, Int.toNat_natCast, Nat.mul_one, Nat.zero_add]
      refine ldI_at (n := (j : Nat)) hbb hcc ⟨⟨by omega, by omega⟩, ?_⟩
      obtain ⟨sa, rfl, hrd⟩ := vec_at7 (h1.2.2.1.ext h1.1) hx
      simp only [ptr_some, Int.toNat_natCast]
      refine ⟨x.k, x.l, x.r, x.a, x.b, x.c, x.d, hrd, ?_⟩
      refine nw_ext fun q H2 hq2 he2 hc2 => ?_
      refine wr_new hc2 (by simp) rfl (c' := x.cells.toArray) rfl fun H3 hc3 hb3 => ?_
      have hq0 : H0 q = none := h1.1.free hq2
      have h3 : MSt (H0.set q (.cells x.cells.toArray 91 (0, 0))) H3 a (some sa) cs st anch { M with now := l } := by
        refine (h1.new hq2 (.cells x.cells.toArray 91 (0, 0))).ext fun y o hy => ?_
        by_cases e : y = q
        · subst e; rw [Heap.set_self] at hy; rw [hc3]; exact hy
        · rw [Heap.set_ne _ _ e] at hy; rw [hb3 y e]; exact he2 y o hy
      have nx : ∀ (m' : Bool) (l' : List Nat) (H' : Heap), spreadL st M.bol eol f (i + 1) m' l' = R → MSt (H0.set q (.cells x.cells.toArray 91 (0, 0))) H' a (some sa) cs st anch { M with now := l' } → l.length ≤ l'.length →
          zqf1_3 (fun m x H1 => (∃ (f i : Nat) (l : List Nat), x = (i : Nat) ∧ i ≤ l.length ∧ st.length < f + i ∧ spreadL st M.bol eol f i m l = R ∧ MSt H0 H1 a (some sa) cs st anch { M with now := l }) ∧ (st.length + 1 - x).toNat < (st.length + 1 - (i : Nat) : Int).toNat) Q E (some ⟨a, 0, none⟩) eol m' (i : Nat) H' := by
        intro m' l' H' hs h' hl'
        unfold zqf1_3
        have hw : IntKind.wrap .i64 ((i : Int) + 1) = ((i + 1 : Nat) : Int) := by rw [IntWalk.i64_in _ (by omega)]; omega
        rw [hw]
        exact ⟨⟨f, i + 1, l', rfl, by omega, by omega, hs, h'.old hvs hq0⟩, by omega⟩
      have hcx : ∀ (H' : Heap), Ext (H0.set q (.cells x.cells.toArray 91 (0, 0))) H' → H' q = some (.cells x.cells.toArray 91 (0, 0)) := fun H' he => he.get
      generalize H0.set q (.cells x.cells.toArray 91 (0, 0)) = HB at h3 nx hcx
      have hc3' := hcx H3 h3.1
      have el : x.l = ((x.l.toNat : Nat) : Int) := by omega
      have er : x.r = ((x.r.toNat : Nat) : Int) := by omega
      -- goes on at Out
      have out : ∀ (l' : List Nat) (H' : Heap), spreadL st M.bol eol f (i + 1) m (addL l' x.l.toNat) = R → MSt HB H' a (some sa) cs st anch { M with now := l' } → l.length ≤ l'.length →
          zqf1_7 (fun m x H1 => (∃ (f i : Nat) (l : List Nat), x = (i : Nat) ∧ i ≤ l.length ∧ st.length < f + i ∧ spreadL st M.bol eol f i m l = R ∧ MSt H0 H1 a (some sa) cs st anch { M with now := l }) ∧ (st.length + 1 - x).toNat < (st.length + 1 - (i : Nat) : Int).toNat) Q E (some ⟨a, 0, none⟩) eol m (i : Nat) (some ⟨q, 0, none⟩) H' := by
        intro l' H' hs h' hl'
        unfold zqf1_7
        simp only [ptr_some, add_at, Nat.zero_add]
        refine ldI_at (n := x.l) (hcx _ h'.1) rfl ?_
        rw [el]
        refine nadd_c h' (by omega) hn fun H4 h4 => ?_
        exact nx m _ H4 hs h4 (Nat.le_trans hl' (addL_len _ _))
      unfold zqf1_22
      simp only [ptr_some]
      refine ldI_at (n := x.k) hc3' rfl (sel_beq (fun c2 => ?_) (fun c2 => ?_))
      · rw [if_pos c2] at hr'
        unfold zqf1_9
        simp only [ptr_some, add_at, Nat.zero_add]
        refine ldI_at (n := x.r) hc3' rfl ?_
        rw [er]
        refine nadd_c h3 (by omega) hn fun H4 h4 => ?_
        exact out _ H4 hr' h4 (addL_len _ _)
      rw [if_neg c2] at hr'
      have stop : ¬ ((x.k = 3 ∧ M.bol = true) ∨ (x.k = 4 ∧ eol = true)) →
          zqf1_13 (fun m x H1 => (∃ (f i : Nat) (l : List Nat), x = (i : Nat) ∧ i ≤ l.length ∧ st.length < f + i ∧ spreadL st M.bol eol f i m l = R ∧ MSt H0 H1 a (some sa) cs st anch { M with now := l }) ∧ (st.length + 1 - x).toNat < (st.length + 1 - (i : Nat) : Int).toNat) Q E (some ⟨a, 0, none⟩) eol m (i : Nat) (some ⟨q, 0, none⟩) false H3 := by
        intro hno
        rw [if_neg hno] at hr'
        unfold zqf1_13
        refine sel_ff ?_
        unfold zqf1_11
        simp only [ptr_some]
        refine ldI_at (n := x.k) hc3' rfl (sel_beq (fun c5 => ?_) (fun c5 => ?_))
        · rw [if_pos c5] at hr'
          unfold zqf1_5
          exact nx true l H3 hr' h3 (Nat.le_refl _)
        · rw [if_neg c5] at hr'
          exact nx m l H3 hr' h3 (Nat.le_refl _)
      have go : ((x.k = 3 ∧ M.bol = true) ∨ (x.k = 4 ∧ eol = true)) →
          zqf1_13 (fun m x H1 => (∃ (f i : Nat) (l : List Nat), x = (i : Nat) ∧ i ≤ l.length ∧ st.length < f + i ∧ spreadL st M.bol eol f i m l = R ∧ MSt H0 H1 a (some sa) cs st anch { M with now := l }) ∧ (st.length + 1 - x).toNat < (st.length + 1 - (i : Nat) : Int).toNat) Q E (some ⟨a, 0, none⟩) eol m (i : Nat) (some ⟨q, 0, none⟩) true H3 := by
        intro hyes
        rw [if_pos hyes] at hr'
        unfold zqf1_13
        exact sel_tt (out l H3 hr' h3 (Nat.le_refl _))
      have off : (x.k = 3 → M.bol = false) → 
          zqf1_15 (fun m x H1 => (∃ (f i : Nat) (l : List Nat), x = (i : Nat) ∧ i ≤ l.length ∧ st.length < f + i ∧ spreadL st M.bol eol f i m l = R ∧ MSt H0 H1 a (some sa) cs st anch { M with now := l }) ∧ (st.length + 1 - x).toNat < (st.length + 1 - (i : Nat) : Int).toNat) Q E (some ⟨a, 0, none⟩) eol m (i : Nat) (some ⟨q, 0, none⟩) false H3 := by
        intro h3b
        unfold zqf1_15
        refine sel_ff ?_
        simp only [ptr_some]
        refine ldI_at (n := x.k) hc3' rfl (sel_beq (fun c4 => ?_) (fun c4 => ?_))
        · cases eol with
          | true => exact go (.inr ⟨c4, rfl⟩)
          | false => exact stop (by simp; intro h; omega)
        · exact stop (by
            rintro (⟨h, hb⟩ | ⟨h, _⟩)
            · rw [h3b h] at hb; cases hb
            · exact c4 h)
      unfold zqf1_17
      simp only [ptr_some, add_at, Nat.zero_add]
      refine ldI_at (n := x.k) hc3' rfl (sel_beq (fun c3 => ?_) (fun c3 => off (fun h => absurd h c3)))
      refine h3.ldBol ?_
      dsimp only
      cases hbol : M.bol with
      | true =>
        unfold zqf1_15
        rw [hbol] at go
        exact sel_tt (go (.inl ⟨c3, rfl⟩))
      | false => rw [hbol] at off; exact off (fun _ => rfl)
    · rw [if_neg (by omega)] at hr'
      unfold zqf1_1
      rw [← hr'] at hk
      exact hk H1 h1
theorem here_c {p : Option Addr} {n c : Nat} {bs : List UInt8} (h : MSt H0 H a ps cs st anch M) (hr : InR st) (hn : st.length ≤ 100000) (hb : bs.length = n) (hrd : H.rdS p (bs.map byteV))
    (hk : ∀ H', MSt H0 H' a ps cs st anch { M with now := (spread st M.bol (decide (bs.head? = some 10)) M.now).1 } → Q (.bool (spread st M.bol (decide (bs.head? = some 10)) M.now).2) H') :
    Does Pr 58 #[.pointer (some ⟨a, 0, none⟩), .slice p n c] H Q E := by
  refine zqb1_fn _ _ _ _ Q E H ?_
  unfold zqb1
  cases bs with
  | nil =>
    simp at hb
    subst hb
    refine sel_dec (fun h => absurd h (by simp)) (fun _ => ?_)
    exact spread_c h hr hn fun H' h' => ⟨_, rfl, hk H' h'⟩
  | cons x bs =>
    simp at hb
    refine sel_dec (fun _ => ?_) (fun hno => absurd (by simp; omega) hno)
    refine ⟨⟨by omega, by omega⟩, ?_⟩
    cases p with
    | none => simp [Heap.rdS] at hrd
    | some ad =>
      simp only [ptr_some]
      have hc : H.cell? (ad.add 0) = some (byteV x) := hrd.1
      refine ⟨(x.toNat : Nat), hc, ?_⟩
      have e : ((x.toNat : Int) == 10) = decide ((x :: bs).head? = some 10) := by
        simp only [List.head?_cons, Option.some.injEq]
        have : (x.toNat : Int) = 10 ↔ x = 10 := by
          constructor
          · intro h
            have : x.toNat = 10 := by omega
            exact UInt8.toNat_inj.1 this
          · intro h; subst h; rfl
        by_cases hx : x = 10
        · rw [decide_eq_true hx]; simp [this.2 hx]
        · rw [decide_eq_false hx]
          have : ¬ ((x.toNat : Int) = 10) := fun h => hx (this.1 h)
          simpa using this
      dsimp only
      rw [e]
      exact spread_c h hr hn fun H' h' => ⟨_, rfl, hk H' h'⟩
end
end Go.Proofs.Ytaffcoiomggpfaa

/- Contracts of package auto (5): clear, Read, Matched, Feed, Found, Start. -/
namespace Go.Proofs.Ytaffcoiomggpfaa
open Go.V
attribute [local irreducible] app
set_option linter.constructorNameAsVariable false
set_option linter.unusedVariables false

/-- The machine, and what lies in its other set; where its list is. -/
def MSn (H0 H : Heap) (a : Nat) (ps : Option Addr) (cs : Nat) (st : List Nd) (anch : Bool) (M : Ma) (p1 : Option Addr) (nx : List Nat) : Prop :=
  Ext H0 H ∧ H0 a = none ∧ Vec H0 7 ps st.length cs (flat st) ∧ OkL st.length M.now ∧ OkL st.length nx ∧
  ∃ (p3 : Option Addr) (c1 b1 c3 b3 : Nat) (t : TypeId), H a = some (.cells (MC ps st.length cs p1 M.now.length c1 b1 p3 nx.length c3 b3 anch M.bol M.at_ M.found) t (0, 0)) ∧
    Vec H 1 p1 M.now.length c1 (M.now.map natV) ∧ Vec H 1 (some ⟨b1, 0, none⟩) st.length st.length (mkV st.length M.now) ∧
    Vec H 1 p3 nx.length c3 (nx.map natV) ∧ Vec H 1 (some ⟨b3, 0, none⟩) st.length st.length (mkV st.length nx) ∧
    b1 ≠ a ∧ b3 ≠ a ∧ b1 ≠ b3 ∧ H0 b1 = none ∧ H0 b3 = none ∧
    (∀ j, blk p1 j → j ≠ a ∧ j ≠ b1 ∧ j ≠ b3 ∧ ¬ blk p3 j ∧ H0 j = none) ∧ (∀ j, blk p3 j → j ≠ a ∧ j ≠ b1 ∧ j ≠ b3 ∧ H0 j = none)
theorem rep_one (n : Nat) (v : Value) : rep n [v] = List.replicate n v := by
  induction n with
  | zero => rfl
  | succ n ih => simp [rep, ih, List.replicate_succ]
theorem mkV_nil (n : Nat) : mkV n [] = List.replicate n (.bool false) := by
  apply List.ext_getElem?
  intro j
  by_cases hj : j < n
  · rw [mkV_get _ hj, List.getElem?_replicate, if_pos hj]; simp
  · rw [List.getElem?_eq_none (by rw [mkV_length]; omega), List.getElem?_eq_none (by simp; omega)]
theorem wrS_at {H : Heap} {b o : Nat} {c : Array Value} {t : TypeId} {vs : List Value} {K : Heap → Prop} (h : H b = some (.cells c t (0, 0))) (hs : o + vs.length ≤ c.size) (ho : vs.all oneC = true)
    (hk : ∀ H', H' b = some (.cells (over c o vs) t (0, 0)) → (∀ j, j ≠ b → H' j = H j) → K H') : wrS (some ⟨b, 0, none⟩) o vs H K := by
  cases vs with
  | nil => exact hk H h (fun _ _ => rfl)
  | cons v vs =>
    simp only [wrS, ptr_some, add_at, Nat.zero_add]
    exact wr_new h hs ho rfl hk
theorem vec_zero {H : Heap} {sz : Nat} {p : Option Addr} {l c : Nat} {vs : List Value} (h : Vec H sz p l c vs) : Vec H sz p 0 c [] := by
  obtain ⟨v1, v2, v3⟩ := h
  refine ⟨by simp, by omega, ?_⟩
  cases p with
  | none => exact v3
  | some a =>
    obtain ⟨b, cs, t, rfl, hb, hcs, hget⟩ := v3
    exact ⟨b, cs, t, rfl, hb, hcs, fun j hj => by omega⟩
section
variable {H0 H : Heap} {a cs : Nat} {ps : Option Addr} {st : List Nd} {anch : Bool} {M : Ma} {Q : Value → Heap → Prop} {E : Chain → Heap → Prop}
theorem clear_c (h : MSt H0 H a ps cs st anch M) (hk : ∀ H' p1, MSn H0 H' a ps cs st anch M p1 [] → Q (.tuple #[]) H') : Does Pr 92 #[.pointer (some ⟨a, 3, none⟩)] H Q E := by
  refine zqi1_fn _ Q E H ?_
  obtain ⟨h1, h2, h3, h4, p1, p3, c1, b1, l3, c3, b3, t, xs, ys, k1, k2, k3, k4, k5, d1, d2, d3, d4, d5, d6, d7⟩ := h
  unfold zqi1
  simp only [ptr_some, add_at]
  refine ldSl_at (p := some ⟨b3, 0, none⟩) (l := st.length) (m := st.length) k1 rfl ?_
  obtain ⟨m1, m2, b', mc, mt, hbe, hb, hms, hmg⟩ := id k5
  cases hbe
  rw [rep_one]
  refine wrS_at hb (by simp; omega) (by simp [oneC]) fun H2 hc2 hb2 => ?_
  have hC2 : H2 a = some (.cells (MC ps st.length cs p1 M.now.length c1 b1 p3 l3 c3 b3 anch M.bol M.at_ M.found) t (0, 0)) := by rw [hb2 a (Ne.symm d2)]; exact k1
  have hk4 : Vec H2 1 p3 l3 c3 xs := k4.keep fun j hj _ => hb2 j (d7 j hj).2.2.1
  refine ldSl_at (p := p3) (l := l3) (m := c3) hC2 rfl ⟨⟨by omega, by omega⟩, ?_⟩
  have hp : (if c3 = 0 then p3 else Option.map (fun a => Addr.add a (0 * 1)) p3) = p3 := by
    split
    · rfl
    · cases p3 with
      | none => rfl
      | some x =>
        obtain ⟨_, _, bb, _, _, rfl, _⟩ := k4
        simp [add_at]
  rw [hp]
  refine wr_new hC2 (show 3 + 1 ≤ 9 by decide) rfl (c' := MC ps st.length cs p1 M.now.length c1 b1 p3 0 c3 b3 anch M.bol M.at_ M.found) rfl fun H3 hc3 hb3 => ?_
  have e3 : ∀ j, j ≠ a → j ≠ b3 → H3 j = H j := fun j hja hjb => by rw [hb3 j hja, hb2 j hjb]
  refine hk H3 p1 ⟨fun j o hj => ?_, h2, h3, h4, OkL.nil _, p3, c1, b1, c3, b3, t, hc3, k2.keep fun j hj _ => e3 j (d6 j hj).1 (d6 j hj).2.2.1, k3.keep fun j hj _ => ?_, ?_, ?_, d1, d2, d3, d4, d5, d6, d7⟩
  · rw [e3 j (fun e => by rw [e, h2] at hj; cases hj) (fun e => by rw [e, d5] at hj; cases hj)]; exact h1 j o hj
  · obtain ⟨x, hx, rfl⟩ := hj; cases hx
    exact e3 b1 d1 d3
  · exact (vec_zero hk4).keep fun j hj _ => hb3 j (d7 j hj).1
  · rw [mkV_nil]
    refine ⟨by simp, Nat.le_refl _, b3, _, mt, rfl, by rw [hb3 b3 d2]; exact hc2, by rw [over_size]; exact hms, fun j hj => ?_⟩
    rw [over_get _ _ _ _ (by simp; omega), if_pos (by simp; omega)]; simp
theorem xadd_c {i : Nat} {p1 : Option Addr} {nx : List Nat} (h : MSn H0 H a ps cs st anch M p1 nx) (hi : i < st.length) (hn : st.length ≤ 100000)
    (hk : ∀ H', MSn H0 H' a ps cs st anch M p1 (addL nx i) → Q (.tuple #[]) H') : Does Pr 80 #[.pointer (some ⟨a, 3, none⟩), .int .i64 (i : Nat)] H Q E := by
  obtain ⟨h1, h2, h3, h4, h5, p3, c1, b1, c3, b3, t, k1, k2, k3, k4, k5, d1, d2, d3, d4, d5, d6, d7⟩ := h
  have hlen := h5.len
  refine sadd_c (o := 3) k1 (show 3 + 1 < 9 by decide) rfl rfl k4 k5 (fun hb => (d7 a hb).1 rfl) (fun hb => (d7 b3 hb).2.2.1 rfl) d2 hi (by omega) fun H' p' c' q1 q2 q3 q4 q5 => ?_
  have fr : ∀ j, blk p' j → j ≠ a ∧ j ≠ b1 ∧ j ≠ b3 ∧ H0 j = none := fun j hj => by
    rcases q5 j hj with h | h
    · exact d7 j h
    · exact ⟨fun e => (by rw [e, k1] at h; cases h), fun e => (k3.known blk1) (e ▸ h), fun e => (k5.known blk1) (e ▸ h), h1.free h⟩
  refine hk H' ⟨fun j o hj => ?_, h2, h3, h4, h5.add hi, p', c1, b1, c', b3, t, q1, k2.keep fun j hj hn => ?_, k3.keep fun j hj hn => ?_, q2, q3, d1, d2, d3, d4, d5, fun j hj => ?_, fr⟩
  · rw [q4 j (fun e => by rw [e, h2] at hj; cases hj) (fun e => by rw [e, d5] at hj; cases hj) (fun hb => by rw [(d7 j hb).2.2.2] at hj; cases hj) (by rw [h1 j o hj]; simp)]; exact h1 j o hj
  · obtain ⟨e1, e2, e3, e4, e5⟩ := d6 j hj
    exact q4 j e1 e3 e4 hn
  · obtain ⟨x, hx, rfl⟩ := hj; cases hx
    exact q4 b1 d1 d3 (fun hb => (d7 b1 hb).2.1 rfl) hn
  · obtain ⟨e1, e2, e3, e4, e5⟩ := d6 j hj
    refine ⟨e1, e2, e3, fun hb => ?_, e5⟩
    rcases q5 j hb with h | h
    · exact e4 h
    · exact (k2.known hj) h
theorem MSn.new {i : Nat} {p1 : Option Addr} {nx : List Nat} (h : MSn H0 H a ps cs st anch M p1 nx) (hi : H i = none) (o : Obj) : MSn (H0.set i o) (H.set i o) a ps cs st anch M p1 nx := by
  obtain ⟨h1, h2, h3, h4, h5, p3, c1, b1, c3, b3, t, k1, k2, k3, k4, k5, d1, d2, d3, d4, d5, d6, d7⟩ := h
  have ha : a ≠ i := ne_of k1 hi
  have he : Ext H (H.set i o) := Ext.new hi o
  have nn : ∀ {j}, j ≠ i → H0 j = none → (H0.set i o) j = none := fun hj h => by rw [Heap.set_ne _ _ hj]; exact h
  have n1 : b1 ≠ i := fun e => (k3.known blk1) (e ▸ hi)
  have n3 : b3 ≠ i := fun e => (k5.known blk1) (e ▸ hi)
  have np1 : ∀ j, blk p1 j → j ≠ i := fun j hj e => (k2.known hj) (e ▸ hi)
  have np3 : ∀ j, blk p3 j → j ≠ i := fun j hj e => (k4.known hj) (e ▸ hi)
  refine ⟨fun j x hj => ?_, nn ha h2, h3.ext (Ext.new (h1.free hi) o), h4, h5, p3, c1, b1, c3, b3, t, he _ _ k1, k2.ext he, k3.ext he, k4.ext he, k5.ext he, d1, d2, d3, nn n1 d4, nn n3 d5, fun j hj => ?_, fun j hj => ?_⟩
  · by_cases e : j = i
    · subst e; rw [Heap.set_self] at hj ⊢; exact hj
    · rw [Heap.set_ne _ _ e] at hj ⊢; exact h1 j x hj
  · obtain ⟨e1, e2, e3, e4, e5⟩ := d6 j hj
    exact ⟨e1, e2, e3, e4, nn (np1 j hj) e5⟩
  · obtain ⟨e1, e2, e3, e4⟩ := d7 j hj
    exact ⟨e1, e2, e3, nn (np3 j hj) e4⟩
theorem MSn.ext {H' : Heap} {p1 : Option Addr} {nx : List Nat} (h : MSn H0 H a ps cs st anch M p1 nx) (he : Ext H H') : MSn H0 H' a ps cs st anch M p1 nx := by
  obtain ⟨h1, h2, h3, h4, h5, p3, c1, b1, c3, b3, t, k1, k2, k3, k4, k5, kk⟩ := h
  exact ⟨h1.trans he, h2, h3, h4, h5, p3, c1, b1, c3, b3, t, he _ _ k1, k2.ext he, k3.ext he, k4.ext he, k5.ext he, kk⟩
theorem MSn.old {i : Nat} {o : Obj} {p1 : Option Addr} {nx : List Nat} (hv : Vec H0 7 ps st.length cs (flat st)) (hi : H0 i = none) (h : MSn (H0.set i o) H a ps cs st anch M p1 nx) : MSn H0 H a ps cs st anch M p1 nx := by
  obtain ⟨h1, h2, h3, h4, h5, p3, c1, b1, c3, b3, t, k1, k2, k3, k4, k5, d1, d2, d3, d4, d5, d6, d7⟩ := h
  have hl : ∀ j, (H0.set i o) j = none → H0 j = none := fun j hj => by
    by_cases e : j = i
    · subst e; exact hi
    · rwa [Heap.set_ne _ _ e] at hj
  exact ⟨h1.of_set hi, hl _ h2, hv, h4, h5, p3, c1, b1, c3, b3, t, k1, k2, k3, k4, k5, d1, d2, d3, hl _ d4, hl _ d5, fun j hj => ⟨(d6 j hj).1, (d6 j hj).2.1, (d6 j hj).2.2.1, (d6 j hj).2.2.2.1, hl _ (d6 j hj).2.2.2.2⟩,
    fun j hj => ⟨(d7 j hj).1, (d7 j hj).2.1, (d7 j hj).2.2.1, hl _ (d7 j hj).2.2.2⟩⟩
/-- A cell of the machine that is no part of a set is written. -/
theorem MSt.wrS {o : Nat} {v : Value} {M' : Ma} {K : Heap → Prop} (h : MSt H0 H a ps cs st anch M) (ho : o < 9) (hv : oneC v = true) (hnow : M'.now = M.now)
    (hm : ∀ p1 l1 c1 b1 p3 l3 c3 b3, over (MC ps st.length cs p1 l1 c1 b1 p3 l3 c3 b3 anch M.bol M.at_ M.found) o [v] = MC ps st.length cs p1 l1 c1 b1 p3 l3 c3 b3 anch M'.bol M'.at_ M'.found)
    (hk : ∀ H', MSt H0 H' a ps cs st anch M' → K H') : wr ⟨a, o, none⟩ [v] H K := by
  obtain ⟨h1, h2, h3, h4, p1, p3, c1, b1, l3, c3, b3, t, xs, ys, k1, k2, k3, k4, k5, d1, d2, d3, d4, d5, d6, d7⟩ := h
  refine wr_new k1 (show o + 1 ≤ 9 by omega) (by simp [hv]) (hm _ _ _ _ _ _ _ _) fun H2 hc2 hb2 => ?_
  have q2 : Vec H2 1 p1 M.now.length c1 (M.now.map natV) := k2.keep fun j hj _ => hb2 j (d6 j hj).1
  have q3 : Vec H2 1 (some ⟨b1, 0, none⟩) st.length st.length (mkV st.length M.now) := k3.keep fun j hj _ => by obtain ⟨x, hx, rfl⟩ := hj; cases hx; exact hb2 b1 d1
  have q4 : Vec H2 1 p3 l3 c3 xs := k4.keep fun j hj _ => hb2 j (d7 j hj).1
  have q5 : Vec H2 1 (some ⟨b3, 0, none⟩) st.length st.length ys := k5.keep fun j hj _ => by obtain ⟨x, hx, rfl⟩ := hj; cases hx; exact hb2 b3 d2
  rw [← hnow] at q2 q3 h4 hc2
  refine hk H2 ⟨fun j o hj => ?_, h2, h3, h4, p1, p3, c1, b1, l3, c3, b3, t, xs, ys, hc2, q2, q3, q4, q5, d1, d2, d3, d4, d5, d6, d7⟩
  rw [hb2 j (fun e => by rw [e, h2] at hj; cases hj)]; exact h1 j o hj
end
end Go.Proofs.Ytaffcoiomggpfaa
