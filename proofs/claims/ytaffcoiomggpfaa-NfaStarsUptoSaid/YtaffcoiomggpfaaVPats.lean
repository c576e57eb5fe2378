import Derived.Test.YtaffcoiomggpfaaVAuto4
import Derived.Test.YtaffcoiomggpfaaVValid
import Derived.Test.YtaffcoiomggpfaaFlang
import Derived.Test.YtaffcoiomggpfaaFnfa
/- Contracts of package auto (5): clear, Read, Matched, Feed, Found, Start. -/
namespace Go.Proofs.Ytaffcoiomggpfaa
open Go.V
attribute [local irreducible] app
set_option linter.constructorNameAsVariable false
set_option linter.unusedVariables false

def MSn (H0 H : Heap) (a : Nat) (ps : OA) (cs : Nat) (st : List Nd) (anch : Bool) (M : Ma) (p1 : OA) (nx : List Nat) : Prop :=
  Ext H0 H ∧ H0 a = none ∧ Vec H0 7 ps st.length cs (flat st) ∧ OkL st.length M.now ∧ OkL st.length nx ∧
  ∃ (p3 : OA) (c1 b1 c3 b3 : Nat) (t : TypeId), H a = some (.cells (MC ps st.length cs p1 M.now.length c1 b1 p3 nx.length c3 b3 anch M.bol M.at_ M.found) t (0, 0)) ∧
    Vec H 1 p1 M.now.length c1 (M.now.map natV) ∧ Vec H 1 (some ⟨b1, 0, none⟩) st.length st.length (mkV st.length M.now) ∧
    Vec H 1 p3 nx.length c3 (nx.map natV) ∧ Vec H 1 (some ⟨b3, 0, none⟩) st.length st.length (mkV st.length nx) ∧
    b1 ≠ a ∧ b3 ≠ a ∧ b1 ≠ b3 ∧ H0 b1 = none ∧ H0 b3 = none ∧
    (∀ j, blk p1 j → j ≠ a ∧ j ≠ b1 ∧ j ≠ b3 ∧ ¬ blk p3 j ∧ H0 j = none) ∧ (∀ j, blk p3 j → j ≠ a ∧ j ≠ b1 ∧ j ≠ b3 ∧ H0 j = none)
theorem rep_one (n : Nat) (v : Value) : rep n [v] = List.replicate n v := by
  induction n with
  | zero => rfl
  | succ n ih => simp [rep, ih, List.replicate_succ]
theorem mkV_nil (n : Nat) : mkV n [] = List.replicate n (.bool false) := by
  apply List.ext_getElem?
  intro j
  by_cases hj : j < n
  · rw [mkV_get _ hj, List.getElem?_replicate, if_pos hj]; simp
  · rw [List.getElem?_eq_none (by rw [mkV_length]; omega), List.getElem?_eq_none (by simp; omega)]
theorem wrS_at {H : Heap} {b o : Nat} {c : Array Value} {t : TypeId} {vs : List Value} {K : Heap → Prop} (h : H b = some (.cells c t (0, 0))) (hs : o + vs.length ≤ c.size) (ho : vs.all oneC = true)
    (hk : ∀ H', H' b = some (.cells (over c o vs) t (0, 0)) → (∀ j, j ≠ b → H' j = H j) → K H') : wrS (some ⟨b, 0, none⟩) o vs H K := by
  cases vs with
  | nil => exact hk H h (fun _ _ => rfl)
  | cons v vs =>
    simp only [wrS, ptr_some, add_at, Nat.zero_add]
    exact wr_new h hs ho rfl hk
theorem vec_zero {H : Heap} {sz : Nat} {p : OA} {l c : Nat} {vs : List Value} (h : Vec H sz p l c vs) : Vec H sz p 0 c [] := by
  obtain ⟨v1, v2, v3⟩ := h
  refine ⟨by simp, by omega, ?_⟩
  cases p with
  | none => exact v3
  | some a =>
    obtain ⟨b, cs, t, rfl, hb, hcs, hget⟩ := v3
    exact ⟨b, cs, t, rfl, hb, hcs, fun j hj => by omega⟩
section
variable {H0 H : Heap} {a cs : Nat} {ps : OA} {st : List Nd} {anch : Bool} {M : Ma} {Q : QT} {E : ET}
theorem clear_c (h : MSt H0 H a ps cs st anch M) (hk : ∀ H' p1, MSn H0 H' a ps cs st anch M p1 [] → Q (.tuple #[]) H') : Does Pr 92 #[.pointer (some ⟨a, 3, none⟩)] H Q E := by
  refine zqh1_fn _ Q E H ?_
  obtain ⟨h1, h2, h3, h4, p1, p3, c1, b1, l3, c3, b3, t, xs, ys, k1, k2, k3, k4, k5, d1, d2, d3, d4, d5, d6, d7⟩ := h
  unfold zqh1
  simp only [ptr_some, add_at]
  refine ldSl_at (p := some ⟨b3, 0, none⟩) (l := st.length) (m := st.length) k1 rfl ?_
  obtain ⟨m1, m2, b', mc, mt, hbe, hb, hms, hmg⟩ := id k5
  cases hbe
  rw [rep_one]
  refine wrS_at hb (by simp; omega) (by simp [oneC]) fun H2 hc2 hb2 => ?_
  have hC2 : H2 a = some (.cells (MC ps st.length cs p1 M.now.length c1 b1 p3 l3 c3 b3 anch M.bol M.at_ M.found) t (0, 0)) := by rw [hb2 a (Ne.symm d2)]; exact k1
  have hk4 : Vec H2 1 p3 l3 c3 xs := k4.keep fun j hj _ => hb2 j (d7 j hj).2.2.1
  refine ldSl_at (p := p3) (l := l3) (m := c3) hC2 rfl ⟨⟨by omega, by omega⟩, ?_⟩
  have hp : (if c3 = 0 then p3 else Option.map (fun a => Addr.add a (0 * 1)) p3) = p3 := by
    split
    · rfl
    · cases p3 with
      | none => rfl
      | some x =>
        obtain ⟨_, _, bb, _, _, rfl, _⟩ := k4
        simp [add_at]
  rw [hp]
  refine wr_new hC2 (show 3 + 1 ≤ 9 by decide) rfl (c' := MC ps st.length cs p1 M.now.length c1 b1 p3 0 c3 b3 anch M.bol M.at_ M.found) rfl fun H3 hc3 hb3 => ?_
  have e3 : ∀ j, j ≠ a → j ≠ b3 → H3 j = H j := fun j hja hjb => by rw [hb3 j hja, hb2 j hjb]
  refine hk H3 p1 ⟨fun j o hj => ?_, h2, h3, h4, OkL.nil _, p3, c1, b1, c3, b3, t, hc3, k2.keep fun j hj _ => e3 j (d6 j hj).1 (d6 j hj).2.2.1, k3.keep fun j hj _ => ?_, ?_, ?_, d1, d2, d3, d4, d5, d6, d7⟩
  · rw [e3 j (fun e => by rw [e, h2] at hj; cases hj) (fun e => by rw [e, d5] at hj; cases hj)]; exact h1 j o hj
  · obtain ⟨x, hx, rfl⟩ := hj; cases hx
    exact e3 b1 d1 d3
  · exact (vec_zero hk4).keep fun j hj _ => hb3 j (d7 j hj).1
  · rw [mkV_nil]
    refine ⟨by simp, Nat.le_refl _, b3, _, mt, rfl, by rw [hb3 b3 d2]; exact hc2, by rw [over_size]; exact hms, fun j hj => ?_⟩
    rw [over_get _ _ _ _ (by simp; omega), if_pos (by simp; omega)]; simp
theorem xadd_c {i : Nat} {p1 : OA} {nx : List Nat} (h : MSn H0 H a ps cs st anch M p1 nx) (hi : i < st.length) (hn : st.length ≤ 100000)
    (hk : ∀ H', MSn H0 H' a ps cs st anch M p1 (addL nx i) → Q (.tuple #[]) H') : Does Pr 80 #[.pointer (some ⟨a, 3, none⟩), .int .i64 (i : Nat)] H Q E := by
  obtain ⟨h1, h2, h3, h4, h5, p3, c1, b1, c3, b3, t, k1, k2, k3, k4, k5, d1, d2, d3, d4, d5, d6, d7⟩ := h
  have hlen := h5.len
  refine sadd_c (o := 3) k1 (show 3 + 1 < 9 by decide) rfl rfl k4 k5 (fun hb => (d7 a hb).1 rfl) (fun hb => (d7 b3 hb).2.2.1 rfl) d2 hi (by omega) fun H' p' c' q1 q2 q3 q4 q5 => ?_
  have fr : ∀ j, blk p' j → j ≠ a ∧ j ≠ b1 ∧ j ≠ b3 ∧ H0 j = none := fun j hj => by
    rcases q5 j hj with h | h
    · exact d7 j h
    · exact ⟨fun e => (by rw [e, k1] at h; cases h), fun e => (k3.known blk1) (e ▸ h), fun e => (k5.known blk1) (e ▸ h), h1.free h⟩
  refine hk H' ⟨fun j o hj => ?_, h2, h3, h4, h5.add hi, p', c1, b1, c', b3, t, q1, k2.keep fun j hj hn => ?_, k3.keep fun j hj hn => ?_, q2, q3, d1, d2, d3, d4, d5, fun j hj => ?_, fr⟩
  · rw [q4 j (fun e => by rw [e, h2] at hj; cases hj) (fun e => by rw [e, d5] at hj; cases hj) (fun hb => by rw [(d7 j hb).2.2.2] at hj; cases hj) (by rw [h1 j o hj]; simp)]; exact h1 j o hj
  · obtain ⟨e1, e2, e3, e4, e5⟩ := d6 j hj
    exact q4 j e1 e3 e4 hn
  · obtain ⟨x, hx, rfl⟩ := hj; cases hx
    exact q4 b1 d1 d3 (fun hb => (d7 b1 hb).2.1 rfl) hn
  · obtain ⟨e1, e2, e3, e4, e5⟩ := d6 j hj
    refine ⟨e1, e2, e3, fun hb => ?_, e5⟩
    rcases q5 j hb with h | h
    · exact e4 h
    · exact (k2.known hj) h
theorem MSn.new {i : Nat} {p1 : OA} {nx : List Nat} (h : MSn H0 H a ps cs st anch M p1 nx) (hi : H i = none) (o : Obj) : MSn (H0.set i o) (H.set i o) a ps cs st anch M p1 nx := by
  obtain ⟨h1, h2, h3, h4, h5, p3, c1, b1, c3, b3, t, k1, k2, k3, k4, k5, d1, d2, d3, d4, d5, d6, d7⟩ := h
  have ha : a ≠ i := ne_of k1 hi
  have he : Ext H (H.set i o) := Ext.new hi o
  have nn : ∀ {j}, j ≠ i → H0 j = none → (H0.set i o) j = none := fun hj h => by rw [Heap.set_ne _ _ hj]; exact h
  have n1 : b1 ≠ i := fun e => (k3.known blk1) (e ▸ hi)
  have n3 : b3 ≠ i := fun e => (k5.known blk1) (e ▸ hi)
  have np1 : ∀ j, blk p1 j → j ≠ i := fun j hj e => (k2.known hj) (e ▸ hi)
  have np3 : ∀ j, blk p3 j → j ≠ i := fun j hj e => (k4.known hj) (e ▸ hi)
  refine ⟨fun j x hj => ?_, nn ha h2, h3.ext (Ext.new (h1.free hi) o), h4, h5, p3, c1, b1, c3, b3, t, he _ _ k1, k2.ext he, k3.ext he, k4.ext he, k5.ext he, d1, d2, d3, nn n1 d4, nn n3 d5, fun j hj => ?_, fun j hj => ?_⟩
  · by_cases e : j = i
    · subst e; rw [Heap.set_self] at hj ⊢; exact hj
    · rw [Heap.set_ne _ _ e] at hj ⊢; exact h1 j x hj
  · obtain ⟨e1, e2, e3, e4, e5⟩ := d6 j hj
    exact ⟨e1, e2, e3, e4, nn (np1 j hj) e5⟩
  · obtain ⟨e1, e2, e3, e4⟩ := d7 j hj
    exact ⟨e1, e2, e3, nn (np3 j hj) e4⟩
theorem MSn.ext {H' : Heap} {p1 : OA} {nx : List Nat} (h : MSn H0 H a ps cs st anch M p1 nx) (he : Ext H H') : MSn H0 H' a ps cs st anch M p1 nx := by
  obtain ⟨h1, h2, h3, h4, h5, p3, c1, b1, c3, b3, t, k1, k2, k3, k4, k5, kk⟩ := h
  exact ⟨h1.trans he, h2, h3, h4, h5, p3, c1, b1, c3, b3, t, he _ _ k1, k2.ext he, k3.ext he, k4.ext he, k5.ext he, kk⟩
theorem MSn.old {i : Nat} {o : Obj} {p1 : OA} {nx : List Nat} (hv : Vec H0 7 ps st.length cs (flat st)) (hi : H0 i = none) (h : MSn (H0.set i o) H a ps cs st anch M p1 nx) : MSn H0 H a ps cs st anch M p1 nx := by
  obtain ⟨h1, h2, h3, h4, h5, p3, c1, b1, c3, b3, t, k1, k2, k3, k4, k5, d1, d2, d3, d4, d5, d6, d7⟩ := h
  have hl : ∀ j, (H0.set i o) j = none → H0 j = none := fun j hj => by
    by_cases e : j = i
    · subst e; exact hi
    · rwa [Heap.set_ne _ _ e] at hj
  exact ⟨h1.of_set hi, hl _ h2, hv, h4, h5, p3, c1, b1, c3, b3, t, k1, k2, k3, k4, k5, d1, d2, d3, hl _ d4, hl _ d5, fun j hj => ⟨(d6 j hj).1, (d6 j hj).2.1, (d6 j hj).2.2.1, (d6 j hj).2.2.2.1, hl _ (d6 j hj).2.2.2.2⟩,
    fun j hj => ⟨(d7 j hj).1, (d7 j hj).2.1, (d7 j hj).2.2.1, hl _ (d7 j hj).2.2.2⟩⟩
theorem MSt.wrS {o : Nat} {v : Value} {M' : Ma} {K : Heap → Prop} (h : MSt H0 H a ps cs st anch M) (ho : o < 9) (hv : oneC v = true) (hnow : M'.now = M.now)
    (hm : ∀ p1 l1 c1 b1 p3 l3 c3 b3, over (MC ps st.length cs p1 l1 c1 b1 p3 l3 c3 b3 anch M.bol M.at_ M.found) o [v] = MC ps st.length cs p1 l1 c1 b1 p3 l3 c3 b3 anch M'.bol M'.at_ M'.found)
    (hk : ∀ H', MSt H0 H' a ps cs st anch M' → K H') : wr ⟨a, o, none⟩ [v] H K := by
  obtain ⟨h1, h2, h3, h4, p1, p3, c1, b1, l3, c3, b3, t, xs, ys, k1, k2, k3, k4, k5, d1, d2, d3, d4, d5, d6, d7⟩ := h
  refine wr_new k1 (show o + 1 ≤ 9 by omega) (by simp [hv]) (hm _ _ _ _ _ _ _ _) fun H2 hc2 hb2 => ?_
  have q2 : Vec H2 1 p1 M.now.length c1 (M.now.map natV) := k2.keep fun j hj _ => hb2 j (d6 j hj).1
  have q3 : Vec H2 1 (some ⟨b1, 0, none⟩) st.length st.length (mkV st.length M.now) := k3.keep fun j hj _ => by obtain ⟨x, hx, rfl⟩ := hj; cases hx; exact hb2 b1 d1
  have q4 : Vec H2 1 p3 l3 c3 xs := k4.keep fun j hj _ => hb2 j (d7 j hj).1
  have q5 : Vec H2 1 (some ⟨b3, 0, none⟩) st.length st.length ys := k5.keep fun j hj _ => by obtain ⟨x, hx, rfl⟩ := hj; cases hx; exact hb2 b3 d2
  rw [← hnow] at q2 q3 h4 hc2
  refine hk H2 ⟨fun j o hj => ?_, h2, h3, h4, p1, p3, c1, b1, l3, c3, b3, t, xs, ys, hc2, q2, q3, q4, q5, d1, d2, d3, d4, d5, d6, d7⟩
  rw [hb2 j (fun e => by rw [e, h2] at hj; cases hj)]; exact h1 j o hj
end
end Go.Proofs.Ytaffcoiomggpfaa

/- Contracts of package auto (6): Read, Matched, Feed, Found, Start. -/
namespace Go.Proofs.Ytaffcoiomggpfaa
open Go.V
attribute [local irreducible] app
set_option linter.constructorNameAsVariable false
set_option linter.unusedVariables false

def Nd.set (x : Nd) : S4 := ⟨x.a, x.b, x.c, x.d⟩
def readL (st : List Nd) (b : Nat) (l : List Nat) : List Nat :=
  l.foldl (fun acc i => if (st.getD i default).k = 1 ∧ (st.getD i default).set.has b = true then addL acc (st.getD i default).l.toNat else acc) []
def Ma.read (st : List Nd) (anch : Bool) (M : Ma) (b : Nat) : Ma :=
  { M with now := (spread st (decide (b = 10)) false (if anch = true then readL st b M.now else addL (readL st b M.now) 0)).1, bol := decide (b = 10), at_ := M.at_ + 1 }
def Ma.matched (st : List Nd) (M : Ma) : Ma :=
  if M.found < 0 then { M with now := (spread st M.bol false M.now).1, found := if (spread st M.bol false M.now).2 = true then M.at_ else M.found } else M
def feedL (st : List Nd) (anch : Bool) : List Nat → Ma → Ma
  | [], M => M
  | c :: l, M =>
    if 0 ≤ (M.matched st).found then M.matched st
    else if c = 10 then
      let s := spread st (M.matched st).bol true (M.matched st).now
      if s.2 = true then { M.matched st with now := s.1, found := (M.matched st).at_ + 1 }
      else feedL st anch l (Ma.read st anch { M.matched st with now := s.1 } c)
    else feedL st anch l (Ma.read st anch (M.matched st) c)
def feed (st : List Nd) (anch : Bool) (l : List Nat) (M : Ma) : Ma := (feedL st anch l M).matched st
def startM (st : List Nd) (bol : Bool) : Ma := { now := (spread st bol false [0]).1, bol := bol, at_ := 0, found := -1 }
theorem readL_ok {st : List Nd} (hr : InR st) (b : Nat) (l : List Nat) (hl : ∀ i ∈ l, i < st.length) : ∀ acc, OkL st.length acc →
    OkL st.length (l.foldl (fun acc i => if (st.getD i default).k = 1 ∧ (st.getD i default).set.has b = true then addL acc (st.getD i default).l.toNat else acc) acc) := by
  induction l with
  | nil => intro acc h; exact h
  | cons i l ih =>
    intro acc h
    rw [List.foldl_cons]
    refine ih (fun j hj => hl j (by simp [hj])) _ ?_
    have := hr.at (getD_some (hl i (by simp)))
    split
    · exact h.add (by omega)
    · exact h
theorem byte_is (b : Nat) : ((b : Int) == 10) = decide (b = 10) := by
  by_cases h : b = 10
  · subst h; rfl
  · rw [decide_eq_false h]
    have : ¬ ((b : Int) = 10) := by omega
    simpa using this
section
variable {H0 H : Heap} {a cs : Nat} {ps : OA} {st : List Nd} {anch : Bool} {M : Ma} {Q : QT} {E : ET}
set_option maxHeartbeats 1000000 in
theorem read_c {b : Nat} (h : MSt H0 H a ps cs st anch M) (hr : InR st) (hpos : 0 < st.length) (hn : st.length ≤ 100000) (hb : b ≤ 255) (hat : M.at_ ≤ 1099511627776)
    (hk : ∀ H', MSt H0 H' a ps cs st anch (M.read st anch b) → Q (.tuple #[]) H') : Does Pr 59 #[.pointer (some ⟨a, 0, none⟩), .int .u8 (b : Nat)] H Q E := by
  refine zqb1_fn _ _ Q E H ?_
  have hvs := h.2.2.1
  unfold zqb1
  simp only [ptr_some, add_at, Nat.zero_add]
  refine clear_c h fun H1 p1 h1 => ?_
  unfold zqb1_39
  simp only [ptr_some, add_at, Nat.zero_add]
  obtain ⟨_, _, _, hok, _, p3, c1, b1, c3, b3, t, k1, k2, _⟩ := id h1
  refine ldSl_at (p := p1) (l := M.now.length) (m := c1) k1 rfl ?_
  unfold zqb1_36
  refine ⟨fun x H' => ∃ k : Nat, x = (k : Nat) ∧ k ≤ M.now.length ∧ MSn H0 H' a ps cs st anch M p1 (readL st b (M.now.take k)), fun x _ => (M.now.length - x).toNat, ⟨0, rfl, by omega, by simpa [readL] using h1⟩, ?_⟩
  rintro x H2 ⟨k, rfl, hkl, h2⟩
  unfold zqb1_33 zqb1_30
  refine sel_dec (fun hlt => ?_) (fun hge => ?_)
  · have hlt : k < M.now.length := by omega
    obtain ⟨_, _, _, _, _, p3', c1', b1', c3', b3', t', k1', k2', _⟩ := id h2
    have hmem : M.now[k]? = some (M.now.getD k 0) := by rw [List.getD_eq_getElem?_getD, List.getElem?_eq_getElem hlt]; rfl
    have hsl : M.now.getD k 0 < st.length := hok.2 _ (List.mem_iff_getElem?.2 ⟨k, hmem⟩)
    have hstep : readL st b (M.now.take (k + 1)) = if (st.getD (M.now.getD k 0) default).k = 1 ∧ (st.getD (M.now.getD k 0) default).set.has b = true then addL (readL st b (M.now.take k)) (st.getD (M.now.getD k 0) default).l.toNat else readL st b (M.now.take k) := by
      unfold readL
      rw [List.take_add_one, hmem]
      simp only [Option.toList_some, List.foldl_append, List.foldl_cons, List.foldl_nil]
    generalize hj : M.now.getD k 0 = j at hmem hsl hstep
    have hx := getD_some hsl
    have hbd := hr.at hx
    generalize st.getD j default = x at hx hbd hstep
    unfold zqb1_25
    obtain ⟨bb, tt, cc, rfl, hbb, hcc⟩ := vec_at1 k2' (n := k) (v := natV j) (by simp [hmem])
    simp only [ptr_some, add_at, Int.toNat_natCast, Nat.mul_one, Nat.zero_add]
    refine ⟨⟨by omega, by omega⟩, ldI_at (n := (j : Nat)) hbb hcc ?_⟩
    unfold zqb1_22
    simp only [ptr_some]
    refine ldSl_at (p := ps) (l := st.length) (m := cs) k1' rfl ⟨⟨by omega, by omega⟩, ?_⟩
    obtain ⟨sa, rfl, hrd⟩ := vec_at7 (hvs.ext h2.1) hx
    simp only [ptr_some, Int.toNat_natCast]
    refine ⟨x.k, x.l, x.r, x.a, x.b, x.c, x.d, hrd, ?_⟩
    refine nw_ext fun q H3 hq3 he3 hc3 => ?_
    refine wr_new hc3 (by simp) rfl (c' := x.cells.toArray) rfl fun H4 hc4 hb4 => ?_
    have hq0 : H0 q = none := h2.1.free hq3
    have h4 : MSn (H0.set q (.cells x.cells.toArray 91 (0, 0))) H4 a (some sa) cs st anch M (some ⟨bb, 0, none⟩) (readL st b (M.now.take k)) := by
      refine (h2.new hq3 (.cells x.cells.toArray 91 (0, 0))).ext fun y o hy => ?_
      by_cases e : y = q
      · subst e; rw [Heap.set_self] at hy; rw [hc4]; exact hy
      · rw [Heap.set_ne _ _ e] at hy; rw [hb4 y e]; exact he3 y o hy
    have hw : IntKind.wrap .i64 ((k : Int) + 1) = ((k + 1 : Nat) : Int) := by have := hok.len; rw [IntWalk.i64_in _ (by omega)]; omega
    have nx : ∀ (H' : Heap), MSn (H0.set q (.cells x.cells.toArray 91 (0, 0))) H' a (some sa) cs st anch M (some ⟨bb, 0, none⟩) (readL st b (M.now.take (k + 1))) →
        (∃ k' : Nat, IntKind.wrap .i64 ((k : Int) + 1) = (k' : Nat) ∧ k' ≤ M.now.length ∧ MSn H0 H' a (some sa) cs st anch M (some ⟨bb, 0, none⟩) (readL st b (M.now.take k'))) ∧ (M.now.length - IntKind.wrap .i64 ((k : Int) + 1)).toNat < (M.now.length - (k : Nat) : Int).toNat := by
      intro H' h'
      rw [hw]
      exact ⟨⟨k + 1, rfl, by omega, h'.old hvs hq0⟩, by omega⟩
    unfold zqb1_19
    simp only [ptr_some]
    refine ldI_at (n := x.k) hc4 rfl (sel_beq (fun ck => ?_) (fun ck => ?_))
    · have hx8 : IntKind.wrap .u8 (Int.tdiv (b : Int) 64) = ((b / 64 : Nat) : Int) := u8_nat (b / 64) (by omega)
      have hm : Int.tmod (b : Int) 64 = ((b % 64 : Nat) : Int) := rfl
      have h4' : b / 64 < 4 := by omega
      rw [hx8, hm]
      simp only [add_at, Int.toNat_natCast, Nat.mul_one, Nat.zero_add]
      have hcell : x.cells.toArray[3 + b / 64]? = some (.int .u64 (x.set.get (b / 64))) := by
        match b / 64, h4' with
        | 0, _ => rfl
        | 1, _ => rfl
        | 2, _ => rfl
        | 3, _ => rfl
      refine ⟨by decide, ⟨by omega, by omega⟩, ldI_at hc4 hcell ⟨by decide, by omega, ?_⟩⟩
      have hhas : ((IntKind.wrap .u64 (BitVec.ofInt (IntKind.bits .u64) (Int.fdiv (x.set.get (b / 64)) (2 ^ min (b % 64) (IntKind.bits .u64))) &&& BitVec.ofInt (IntKind.bits .u64) 1).toNat : Int) == 1) = x.set.has b := rfl
      rw [hhas]
      unfold zqb1_17
      refine sel_mk (fun hh => ?_) (fun hh => ?_)
      · rw [if_pos ⟨ck, hh⟩] at hstep
        simp only [ptr_some, add_at, Nat.zero_add]
        refine ldI_at (n := x.l) hc4 rfl ?_
        have el : x.l = ((x.l.toNat : Nat) : Int) := by omega
        rw [el]
        refine xadd_c h4 (by omega) hn fun H5 h5 => ?_
        unfold zqb1_15
        rw [← hstep] at h5
        exact nx H5 h5
      · rw [if_neg (fun h => by rw [hh] at h; cases h.2)] at hstep
        unfold zqb1_15
        rw [← hstep] at h4
        exact nx H4 h4
    · rw [if_neg (fun h => ck h.1)] at hstep
      unfold zqb1_17
      refine sel_ff ?_
      unfold zqb1_15
      rw [← hstep] at h4
      exact nx H4 h4
  · obtain rfl : k = M.now.length := by omega
    rw [List.take_length] at h2
    clear h h1 k1 k2
    obtain ⟨h1, h2, h3, h4, h5, p3, c1, b1, c3, b3, t, k1, k2, k3, k4, k5, d1, d2, d3, d4, d5, d6, d7⟩ := h2
    unfold zqb1_12
    simp only [ptr_some, add_at, Nat.zero_add]
    refine ⟨p3, (readL st b M.now).length, c3, some ⟨b3, 0, none⟩, st.length, st.length, rd_at k1 _ 3 0 (fun j hj => by
      match j, hj with
      | 0, _ => rfl
      | 1, _ => rfl), p1, M.now.length, c1, some ⟨b1, 0, none⟩, st.length, st.length, rd_at k1 _ 1 0 (fun j hj => by
      match j, hj with
      | 0, _ => rfl
      | 1, _ => rfl), ?_⟩
    refine wr_new k1 (show 1 + 2 ≤ 9 by decide) rfl (c' := #[.slice ps st.length cs, .slice p3 (readL st b M.now).length c3, .slice (some ⟨b3, 0, none⟩) st.length st.length, .slice p3 (readL st b M.now).length c3, .slice (some ⟨b3, 0, none⟩) st.length st.length, .bool anch, .bool M.bol, .int .i64 M.at_, .int .i64 M.found]) rfl fun H3 hc3 hb3 => ?_
    refine wr_new hc3 (show 3 + 2 ≤ 9 by decide) rfl (c' := MC ps st.length cs p3 (readL st b M.now).length c3 b3 p1 M.now.length c1 b1 anch M.bol M.at_ M.found) rfl fun H4 hc4 hb4 => ?_
    have e4 : ∀ j, j ≠ a → H4 j = H2 j := fun j hj => by rw [hb4 j hj, hb3 j hj]
    have m4 : MSt H0 H4 a ps cs st anch { M with now := readL st b M.now } := by
      refine ⟨fun j o hj => ?_, h2, h3, h5, p3, p1, c3, b3, M.now.length, c1, b1, t, M.now.map natV, mkV st.length M.now, hc4, k4.keep fun j hj _ => e4 j (d7 j hj).1, k5.keep fun j hj _ => ?_, k2.keep fun j hj _ => e4 j (d6 j hj).1, k3.keep fun j hj _ => ?_, d2, d1, Ne.symm d3, d5, d4, fun j hj => ?_, fun j hj => ?_⟩
      · rw [e4 j (fun e => by rw [e, h2] at hj; cases hj)]; exact h1 j o hj
      · obtain ⟨x, hx, rfl⟩ := hj; cases hx; exact e4 b3 d2
      · obtain ⟨x, hx, rfl⟩ := hj; cases hx; exact e4 b1 d1
      · obtain ⟨x1, x2, x3, x4⟩ := d7 j hj
        exact ⟨x1, x3, x2, fun hb => (d6 j hb).2.2.2.1 hj, x4⟩
      · obtain ⟨x1, x2, x3, x4, x5⟩ := d6 j hj
        exact ⟨x1, x3, x2, x5⟩
    unfold zqb1_9
    simp only [ptr_some, add_at, Nat.zero_add]
    refine m4.ldAtM ?_
    have hw : IntKind.wrap .i64 (((M.at_ : Nat) : Int) + 1) = ((M.at_ + 1 : Nat) : Int) := by rw [IntWalk.i64_in _ (by omega)]; omega
    dsimp only
    rw [hw]
    refine m4.wrS (M' := { M with now := readL st b M.now, at_ := M.at_ + 1 }) (by decide) rfl rfl (fun _ _ _ _ _ _ _ _ => rfl) fun H5 m5 => ?_
    unfold zqb1_6
    simp only [ptr_some, add_at, Nat.zero_add]
    rw [byte_is]
    refine m5.wrS (M' := { M with now := readL st b M.now, at_ := M.at_ + 1, bol := decide (b = 10) }) (by decide) rfl rfl (fun _ _ _ _ _ _ _ _ => rfl) fun H6 m6 => ?_
    unfold zqb1_3
    simp only [ptr_some, add_at, Nat.zero_add]
    refine m6.ldAnch ?_
    cases anch with
    | true =>
      refine sel_ff ?_
      unfold zqb1_1
      exact spread_c m6 hr hn fun H7 m7 => ⟨_, rfl, hk H7 m7⟩
    | false =>
      refine sel_tt ?_
      refine nadd_c m6 hpos hn fun H7 m7 => ?_
      unfold zqb1_1
      exact spread_c m7 hr hn fun H8 m8 => ⟨_, rfl, hk H8 m8⟩
theorem matched_c (h : MSt H0 H a ps cs st anch M) (hr : InR st) (hn : st.length ≤ 100000)
    (hk : ∀ H', MSt H0 H' a ps cs st anch (M.matched st) → Q (.bool (decide (0 ≤ (M.matched st).found))) H') : Does Pr 79 #[.pointer (some ⟨a, 0, none⟩)] H Q E := by
  refine zqc1_fn _ Q E H ?_
  unfold zqc1 zqc1_5
  simp only [ptr_some, add_at, Nat.zero_add]
  have fin : ∀ (H' : Heap), MSt H0 H' a ps cs st anch (M.matched st) → zqc1_1 Q E (some ⟨a, 0, none⟩) H' := fun H' h' => by
    unfold zqc1_1
    simp only [ptr_some, add_at, Nat.zero_add]
    exact h'.ldFound (hk H' h')
  refine h.ldFound (sel_dec (fun hf => ?_) (fun hf => ?_))
  · have hm : M.matched st = { M with now := (spread st M.bol false M.now).1, found := if (spread st M.bol false M.now).2 = true then M.at_ else M.found } := if_pos hf
    refine spread_c h hr hn fun H1 h1 => ⟨_, rfl, ?_⟩
    unfold zqc1_3
    refine sel_mk (fun hs => ?_) (fun hs => ?_)
    · simp only [ptr_some, add_at, Nat.zero_add]
      refine h1.ldAtM ?_
      refine h1.wrS (M' := M.matched st) (by decide) rfl (by rw [hm]) (fun _ _ _ _ _ _ _ _ => by rw [hm, if_pos hs]; rfl) fun H2 h2 => fin H2 h2
    · refine fin H1 ?_
      rw [hm, if_neg (by simp [hs])]; exact h1
  · have hm : M.matched st = M := if_neg hf
    unfold zqc1_3
    refine sel_ff (fin H (by rw [hm]; exact h))
theorem found_c (h : MSt H0 H a ps cs st anch M) (hr : InR st) (hn : st.length ≤ 100000)
    (hk : ∀ H', MSt H0 H' a ps cs st anch (M.matched st) → Q (.int .i64 (M.matched st).found) H') : Does Pr 53 #[.pointer (some ⟨a, 0, none⟩)] H Q E := by
  refine zqa1_fn _ Q E H ?_
  unfold zqa1
  refine matched_c h hr hn fun H1 h1 => ⟨_, rfl, ?_⟩
  simp only [ptr_some, add_at, Nat.zero_add]
  exact h1.ldFound (hk H1 h1)
theorem Ma.matched_at (st : List Nd) (M : Ma) : (M.matched st).at_ = M.at_ ∧ (M.matched st).bol = M.bol := by unfold Ma.matched; split <;> exact ⟨rfl, rfl⟩
theorem feed_c {p : OA} {n c : Nat} {bs : List UInt8} (h : MSt H0 H a ps cs st anch M) (hr : InR st) (hpos : 0 < st.length) (hn : st.length ≤ 100000) (hb : bs.length = n) (hrd : H0.rdS p (bs.map byteV))
    (hsz : M.at_ + bs.length ≤ 1099511627776) (hk : ∀ H', MSt H0 H' a ps cs st anch (feed st anch (bs.map UInt8.toNat) M) → Q (.bool (decide (0 ≤ (feed st anch (bs.map UInt8.toNat) M).found))) H') :
    Does Pr 52 #[.pointer (some ⟨a, 0, none⟩), .slice p n c] H Q E := by
  refine zqz_fn _ _ _ _ Q E H ?_
  subst hb
  have fin : ∀ (M' : Ma) (H' : Heap), feed st anch (bs.map UInt8.toNat) M = M'.matched st → MSt H0 H' a ps cs st anch M' → zqz_1 Q E (some ⟨a, 0, none⟩) H' := fun M' H' hm h' => by
    unfold zqz_1
    rw [hm] at hk
    exact matched_c h' hr hn fun H2 h2 => ⟨_, rfl, hk H2 h2⟩
  unfold zqz zqz_30 zqz_27
  refine ⟨fun x H' => ∃ (k : Nat) (M' : Ma), x = (k : Nat) ∧ k ≤ bs.length ∧ feedL st anch ((bs.drop k).map UInt8.toNat) M' = feedL st anch (bs.map UInt8.toNat) M ∧ M'.at_ = M.at_ + k ∧ MSt H0 H' a ps cs st anch M',
    fun x _ => (bs.length - x).toNat, ⟨0, M, rfl, by omega, by simp, by omega, h⟩, ?_⟩
  rintro x H1 ⟨k, M', rfl, hkl, hs, hat, h1⟩
  unfold zqz_24 zqz_21
  refine sel_dec (fun hlt => ?_) (fun hge => ?_)
  · have hlt : k < bs.length := by omega
    have hbk : bs[k]? = some (bs[k]) := List.getElem?_eq_getElem hlt
    rw [List.drop_eq_getElem_cons hlt] at hs
    generalize bs[k] = w at hbk hs
    simp only [List.map_cons, feedL] at hs
    unfold zqz_16
    cases p with
    | none =>
      have : bs.map byteV = [] := hrd
      simp at this; subst this; simp at hlt
    | some ad =>
      have hc : H1.cell? (ad.add (0 + k)) = some (byteV w) := rd_get (rd_ext h1.1 hrd) (by simp [hbk])
      rw [Nat.zero_add] at hc
      simp only [ptr_some, Int.toNat_natCast, Nat.mul_one]
      refine ⟨⟨by omega, by omega⟩, (w.toNat : Nat), hc, ?_⟩
      have hw255 : w.toNat ≤ 255 := by have := w.toNat_lt; omega
      unfold zqz_13
      refine matched_c h1 hr hn fun H2 h2 => ⟨_, rfl, ?_⟩
      have hma := (M'.matched_at st).1
      refine sel_dec (fun hf => ?_) (fun hf => ?_)
      · rw [if_pos hf] at hs
        refine fin _ H2 ?_ h2
        unfold feed; rw [← hs]
      · rw [if_neg hf] at hs
        have rd : ∀ (M2 : Ma) (H3 : Heap), feedL st anch ((bs.drop (k + 1)).map UInt8.toNat) (Ma.read st anch M2 w.toNat) = feedL st anch (bs.map UInt8.toNat) M → M2.at_ = M.at_ + k → MSt H0 H3 a ps cs st anch M2 →
            zqz_5 (fun x H' => (∃ (k : Nat) (M' : Ma), x = (k : Nat) ∧ k ≤ bs.length ∧ feedL st anch ((bs.drop k).map UInt8.toNat) M' = feedL st anch (bs.map UInt8.toNat) M ∧ M'.at_ = M.at_ + k ∧ MSt H0 H' a ps cs st anch M') ∧ (bs.length - x).toNat < (bs.length - (k : Nat) : Int).toNat)
              Q E (some ⟨a, 0, none⟩) (w.toNat : Nat) (some ad) bs.length c ((bs.length : Nat) : Int) (k : Nat) H3 := by
          intro M2 H3 hs2 hat2 h3
          unfold zqz_5
          refine read_c h3 hr hpos hn hw255 (by omega) fun H4 h4 => ?_
          unfold zqz_3
          have hw : IntKind.wrap .i64 ((k : Int) + 1) = ((k + 1 : Nat) : Int) := by rw [IntWalk.i64_in _ (by omega)]; omega
          rw [hw]
          exact ⟨⟨k + 1, _, rfl, by omega, hs2, by show M2.at_ + 1 = _; omega, h4⟩, by omega⟩
        unfold zqz_9
        rw [byte_is]
        refine sel_dec (fun h10 => ?_) (fun h10 => ?_)
        · rw [if_pos h10] at hs
          refine spread_c h2 hr hn fun H3 h3 => ⟨_, rfl, ?_⟩
          unfold zqz_7
          refine sel_mk (fun hsp => ?_) (fun hsp => ?_)
          · rw [if_pos hsp] at hs
            simp only [ptr_some, add_at, Nat.zero_add]
            refine h3.ldAtM ?_
            have hw : IntKind.wrap .i64 ((((M'.matched st).at_ : Nat) : Int) + 1) = (((M'.matched st).at_ : Nat) : Int) + 1 := by rw [IntWalk.i64_in _ (by omega)]
            dsimp only
            rw [hw]
            refine h3.wrS (M' := { M'.matched st with now := (spread st (M'.matched st).bol true (M'.matched st).now).1, found := (((M'.matched st).at_ : Nat) : Int) + 1 }) (by decide) rfl rfl (fun _ _ _ _ _ _ _ _ => rfl) fun H4 h4 => ?_
            refine fin _ H4 ?_ h4
            unfold feed; rw [← hs]
          · rw [if_neg (by simp [hsp])] at hs
            exact rd _ H3 hs (by rw [← hat]; exact hma) h3
        · rw [if_neg h10] at hs
          unfold zqz_7
          exact sel_ff (rd _ H2 hs (by rw [← hat]; exact hma) h2)
  · obtain rfl : k = bs.length := by omega
    rw [List.drop_length] at hs
    refine fin M' H1 ?_ h1
    unfold feed; rw [← hs]; rfl
end
section
variable {H : Heap} {cs : Nat} {ps : OA} {st : List Nd} {anch bol : Bool} {Q : QT} {E : ET}
theorem start_c (hv : Vec H 7 ps st.length cs (flat st)) (hr : InR st) (hpos : 0 < st.length) (hn : st.length ≤ 100000)
    (hk : ∀ a H', MSt H H' a ps cs st anch (startM st bol) → Q (.pointer (some ⟨a, 0, none⟩)) H') : Does Pr 50 #[.slice ps st.length cs, .bool anch, .bool bol] H Q E := by
  refine zqx_fn _ _ _ _ _ Q E H ?_
  unfold zqx
  simp only [Int.toNat_natCast]
  refine ⟨⟨by omega, by omega, by omega, by omega⟩, ?_⟩
  refine nw_ext fun b1 H1 hb1 he1 hc1 => ⟨⟨by omega, by omega, by omega, by omega⟩, ?_⟩
  refine nw_ext fun b3 H2 hb3 he2 hc2 => ?_
  refine nw_ext fun a H3 ha he3 hc3 => ?_
  rw [rep_one, ← mkV_nil] at hc1 hc2
  have n13 : b1 ≠ b3 := ne_of hc1 hb3
  have n1a : b1 ≠ a := ne_of (he2 _ _ hc1) ha
  have n3a : b3 ≠ a := ne_of hc2 ha
  have mk : ∀ (b : Nat), H3 b = some (.cells (mkV st.length []).toArray 4 (0, 0)) → Vec H3 1 (some ⟨b, 0, none⟩) st.length st.length (mkV st.length []) := fun b hb =>
    ⟨by rw [mkV_length]; omega, Nat.le_refl _, b, _, 4, rfl, hb, by simp [mkV_length], fun j hj => by simp⟩
  have m3 : MSt H H3 a ps cs st anch ⟨[], bol, 0, -1⟩ := by
    refine ⟨(he1.trans he2).trans he3, (he1.trans he2).free ha, hv, OkL.nil _, none, none, 0, b1, 0, 0, b3, 127, [], mkV st.length [], hc3, Vec.nil _ 1, mk b1 (he3 _ _ (he2 _ _ hc1)), Vec.nil _ 1, mk b3 (he3 _ _ hc2), n1a, n3a, n13, hb1, he1.free hb3, fun j hj => ?_, fun j hj => ?_⟩
    · obtain ⟨x, hx, _⟩ := hj; cases hx
    · obtain ⟨x, hx, _⟩ := hj; cases hx
  refine nadd_c (i := 0) m3 hpos hn fun H4 m4 => ?_
  refine spread_c m4 hr hn fun H5 m5 => ⟨_, rfl, ?_⟩
  exact hk a H5 m5
end
end Go.Proofs.Ytaffcoiomggpfaa

/- Contracts of package lang: First, Ends. -/
namespace Go.Proofs.Ytaffcoiomggpfaa
open Go.V
attribute [local irreducible] app
set_option linter.constructorNameAsVariable false
set_option linter.unusedVariables false

def firstOf (l : List Nd) (bs : List UInt8) : Int :=
  if validOf l = true then ((feed (buildOf l) false (bs.map UInt8.toNat) (startM (buildOf l) true)).matched (buildOf l)).found else -1
theorem MSt.frame {H0 H H' : Heap} {a cs : Nat} {ps : OA} {st : List Nd} {anch : Bool} {M : Ma} (h : MSt H0 H a ps cs st anch M) (hp : ∀ j, H0 j = none → H j ≠ none → H' j = H j) (hps : Vec H' 7 ps st.length cs (flat st)) :
    MSt (beside H0 H H') H' a ps cs st anch M := by
  obtain ⟨h1, h2, h3, h4, p1, p3, c1, b1, l3, c3, b3, t, xs, ys, k1, k2, k3, k4, k5, d1, d2, d3, d4, d5, d6, d7⟩ := h
  have n1 := k3.known blk1
  have n3 := k5.known blk1
  have ha : H a ≠ none := by rw [k1]; simp
  refine ⟨beside_ext _ _ _, beside_priv h2 ha, hps.keep fun j hj _ => beside_some (h3.known hj), h4, p1, p3, c1, b1, l3, c3, b3, t, xs, ys, by rw [hp a h2 ha]; exact k1,
    k2.keep fun j hj hn => hp j (d6 j hj).2.2.2.2 hn, k3.keep fun j hj hn => ?_, k4.keep fun j hj hn => hp j (d7 j hj).2.2.2 hn, k5.keep fun j hj hn => ?_, d1, d2, d3, beside_priv d4 n1, beside_priv d5 n3, fun j hj => ?_, fun j hj => ?_⟩
  · obtain ⟨x, hx, rfl⟩ := hj; cases hx; exact hp b1 d4 hn
  · obtain ⟨x, hx, rfl⟩ := hj; cases hx; exact hp b3 d5 hn
  · obtain ⟨e1, e2, e3, e4, e5⟩ := d6 j hj
    exact ⟨e1, e2, e3, e4, beside_priv e5 (k2.known hj)⟩
  · obtain ⟨e1, e2, e3, e4⟩ := d7 j hj
    exact ⟨e1, e2, e3, beside_priv e4 (k4.known hj)⟩
end Go.Proofs.Ytaffcoiomggpfaa

/- Contracts of package nfa (1): valid, Run, pick. -/
namespace Go.Proofs.Ytaffcoiomggpfaa
open Go.V
attribute [local irreducible] app
set_option linter.constructorNameAsVariable false
set_option linter.unusedVariables false

def NV (st : List Nd) : Prop := 1 ≤ st.length ∧ st.length ≤ 513 ∧ InR st ∧ ∀ x ∈ st, 1 ≤ x.k ∧ x.k ≤ 5
theorem nis_c {H : Heap} {n : Int} {b : Nat} {p : OA} {l c : Nat} {t : TypeId} {fr : Nat × Nat} {Q : QT} {E : ET} (hb : H b = some (.cells #[.slice p l c] t fr)) (h0 : 0 ≤ n) (h1 : n < l) (hk : Q (.bool true) H) : Does Pr 96 #[.int .i64 n, .pointer (some ⟨b, 0, none⟩)] H Q E := by
  refine zqr1_fn _ _ Q E H ?_
  unfold zqr1
  refine sel_dec (fun _ => ?_) (fun h => absurd h0 h)
  simp only [ptr_some]
  refine ldSl_at (p := p) (l := l) (m := c) hb rfl ?_
  rw [decide_eq_true h1]; exact hk
set_option maxHeartbeats 1000000 in
theorem nvalid_c {H : Heap} {p : OA} {c : Nat} {st : List Nd} {Q : QT} {E : ET} (hv : Nds H p st) (hN : NV st) (hk : ∀ H', Ext H H' → Q (.bool true) H') : Does Pr 62 #[.slice p st.length c] H Q E := by
  obtain ⟨n1, n2, hr, hkind⟩ := hN
  refine zqm1_fn _ _ _ Q E H ?_
  unfold zqm1
  refine nw_ext fun i H1 hi he1 hc1 => ?_
  unfold zqm1_53 zqm1_49
  simp only [ptr_some]
  refine ldSl_at (p := p) (l := st.length) (m := c) hc1 rfl ?_
  unfold zqm1_46
  refine ⟨fun x H' => ∃ j : Nat, x = (j : Nat) ∧ j ≤ st.length ∧ Ext H1 H', fun x _ => ((st.length : Int) - x).toNat, ⟨0, rfl, by omega, Ext.refl _⟩, ?_⟩
  rintro x H2 ⟨j, rfl, hj, he2⟩
  unfold zqm1_43 zqm1_40
  refine sel_dec (fun hlt => ?_) (fun hge => ?_)
  · have hlt : j < st.length := by omega
    obtain ⟨a, rfl, hrd⟩ := (hv.ext (he1.trans he2)) j (st.getD j default) (getD_some hlt)
    have hkx := hkind _ (List.mem_iff_getElem?.2 ⟨j, getD_some hlt⟩)
    have hrx := hr _ (List.mem_iff_getElem?.2 ⟨j, getD_some hlt⟩)
    generalize st.getD j default = X at hrd hkx hrx
    unfold zqm1_35
    refine ⟨⟨by omega, by omega⟩, ?_⟩
    simp only [ptr_some, Int.toNat_natCast]
    refine ⟨X.k, X.l, X.r, X.a, X.b, X.c, X.d, hrd, ?_⟩
    refine nw_ext fun q H3 hq he3 hc3 => ?_
    refine wr_new hc3 (by simp) rfl (c' := X.cells.toArray) rfl fun H4 hc4 hb4 => ?_
    have he4 : Ext H2 H4 := ext_but he3 hq hb4
    have hc4 : H4 q = some (.cells #[.int .i64 X.k, .int .i64 X.l, .int .i64 X.r, .int .u64 X.a, .int .u64 X.b, .int .u64 X.c, .int .u64 X.d] 91 (0, 0)) := hc4
    have he14 := he2.trans he4
    have hb14 := he14 _ _ hc1
    have next : zqm1_3 (fun x' H' => (∃ j : Nat, x' = (j : Nat) ∧ j ≤ st.length ∧ Ext H1 H') ∧ ((st.length : Int) - x').toNat < ((st.length : Int) - (j : Nat)).toNat) Q E (some ⟨i, 0, none⟩) (.func (.func 96) #[] #[(.pointer (some ⟨i, 0, none⟩))]) (some a) st.length c st.length j H4 := by
      unfold zqm1_3
      have hw : IntKind.wrap .i64 ((j : Int) + 1) = ((j + 1 : Nat) : Int) := by rw [IntWalk.i64_in _ (by omega)]; omega
      rw [hw]
      exact ⟨⟨j + 1, rfl, by omega, he14⟩, by omega⟩
    have out : zqm1_7 (fun x' H' => (∃ j : Nat, x' = (j : Nat) ∧ j ≤ st.length ∧ Ext H1 H') ∧ ((st.length : Int) - x').toNat < ((st.length : Int) - (j : Nat)).toNat) Q E (some ⟨i, 0, none⟩) (.func (.func 96) #[] #[(.pointer (some ⟨i, 0, none⟩))]) (some ⟨q, 0, none⟩) (some a) st.length c st.length j H4 := by
      unfold zqm1_7
      simp only [ptr_some, add_at, Nat.zero_add]
      refine ldI_at (n := X.l) hc4 rfl ?_
      exact nis_c hb14 hrx.1 hrx.2.1 ⟨_, rfl, sel_ff next⟩
    unfold zqm1_32
    simp only [ptr_some]
    refine ldI_at (n := X.k) hc4 rfl ?_
    unfold zqm1_19
    refine sel_beq (fun h2 => ?_) (fun h2 => ?_)
    · unfold zqm1_9
      simp only [ptr_some, add_at, Nat.zero_add]
      refine ldI_at (n := X.r) hc4 rfl ?_
      exact nis_c hb14 hrx.2.2.1 hrx.2.2.2 ⟨_, rfl, sel_ff out⟩
    have e13 : ∀ b : Bool, (b = false → X.k = 5) → zqm1_13 (fun x' H' => (∃ j : Nat, x' = (j : Nat) ∧ j ≤ st.length ∧ Ext H1 H') ∧ ((st.length : Int) - x').toNat < ((st.length : Int) - (j : Nat)).toNat) Q E (some ⟨i, 0, none⟩) (.func (.func 96) #[] #[(.pointer (some ⟨i, 0, none⟩))]) (some ⟨q, 0, none⟩) (some a) st.length c st.length j X.k b H4 := by
      intro b hb
      unfold zqm1_13
      refine sel_mk (fun _ => out) (fun h => ?_)
      unfold zqm1_11
      exact sel_beq (fun _ => next) (fun h5 => absurd (hb h) h5)
    unfold zqm1_15
    refine sel_beq (fun h1 => e13 _ fun h => ?_) (fun h1 => ?_)
    · simp [h1] at h
    refine sel_beq (fun h3 => e13 _ fun h => ?_) (fun h3 => e13 _ fun h => ?_)
    · simp [h3] at h
    · have : X.k ≠ 4 := by simpa using h
      omega
  · unfold zqm1_1
    simp only [ptr_some]
    refine ldSl_at (p := p) (l := st.length) (m := c) (he2 _ _ hc1) rfl ?_
    refine sel_dec (fun _ => ?_) (fun h => absurd (by omega) h)
    refine ldSl_at (p := p) (l := st.length) (m := c) (he2 _ _ hc1) rfl ?_
    rw [decide_eq_true (by omega)]
    exact hk H2 (he1.trans he2)
def runOf (st : List Nd) (bs : List UInt8) : Int := ((feed st false (bs.map UInt8.toNat) (startM st true)).matched st).found
theorem nrun_c {H : Heap} {p pt : OA} {c nt ct : Nat} {st : List Nd} {bs : List UInt8} {Q : QT} {E : ET} (hv : Vec H 7 p st.length c (flat st)) (hN : NV st) (hb : Byt H pt nt ct bs) (hn : nt ≤ 1048576)
    (hk : ∀ H', Ext H H' → Q (.int .i64 (runOf st bs)) H') : Does Pr 35 #[.slice p st.length c, .slice pt nt ct] H Q E := by
  refine zqk1_fn _ _ _ _ _ _ Q E H ?_
  unfold zqk1 zqk1_3
  refine nvalid_c (Vec.nds hv) hN fun H1 he1 => ⟨_, rfl, sel_ff ?_⟩
  obtain ⟨n1, n2, hr, _⟩ := hN
  unfold zqk1_1
  refine start_c (hv.ext he1) hr (by omega) (by omega) fun a H3 m3 => ⟨_, rfl, ?_⟩
  have hb2 := hb.ext he1
  refine feed_c m3 hr (by omega) (by omega) hb2.1 hb2.2.2 (by have := hb2.1; show 0 + bs.length ≤ _; omega) fun H4 m4 => ⟨_, rfl, ?_⟩
  refine found_c m4 hr (by omega) fun H5 m5 => ⟨_, rfl, ?_⟩
  exact hk H5 (he1.trans m5.1)
theorem runOf_build {l : List Nd} (bs : List UInt8) (hv : validOf l = true) : runOf (buildOf l) bs = firstOf l bs := (if_pos hv).symm
def pickOf (s : S4) (eol : Bool) : Int := if s.has 10 = true then 10 else if eol = true then -1 else match (List.range 256).find? s.has with
  | some b => (b : Nat)
  | none => -1
theorem phas_c {H : Heap} {s : S4} {i b : Nat} {Q : QT} {E : ET} (hc1 : H i = some (.cells s.cells 46 (0, 0))) (hb : b ≤ 255)
    (hk : Q (.bool (s.has b)) H) : Does Pr 97 #[.int .i64 (b : Nat), .pointer (some ⟨i, 0, none⟩)] H Q E := by
  refine zqs1_fn _ _ Q E H ?_
  unfold zqs1
  have hx : IntKind.wrap .i64 (Int.tdiv (b : Int) 64) = ((b / 64 : Nat) : Int) := by
    have : Int.tdiv (b : Int) 64 = ((b / 64 : Nat) : Int) := rfl
    rw [this, IntWalk.i64_in _ (by omega)]
  have hm : Int.tmod (b : Int) 64 = ((b % 64 : Nat) : Int) := rfl
  have h4 : b / 64 < 4 := by omega
  rw [hx, hm]
  simp only [ptr_some, add_at, Int.toNat_natCast, Nat.mul_one, Nat.zero_add]
  exact ⟨by decide, ⟨by omega, by omega⟩, ldI_at hc1 (S4.cells_get _ h4) ⟨by decide, by omega, hk⟩⟩
def scan (s : S4) (n : Nat) : Option Nat := (List.range' n (256 - n)).find? s.has
theorem scan_0 (s : S4) : (List.range 256).find? s.has = scan s 0 := by unfold scan; rw [List.range_eq_range']
theorem scan_succ (s : S4) {n : Nat} (h : n < 256) : scan s n = match s.has n with
  | true => some n
  | false => scan s (n + 1) := by
  have hr : List.range' n (256 - n) = n :: List.range' (n + 1) (256 - (n + 1)) := by
    rw [show 256 - n = (256 - (n + 1)) + 1 by omega, List.range'_succ]
  unfold scan
  rw [hr, List.find?_cons]
  cases s.has n <;> rfl
theorem scan_end (s : S4) {n : Nat} (h : ¬ n < 256) : scan s n = none := by
  unfold scan
  have hn256 : 256 - n = 0 := by omega
  rw [hn256, List.range'_zero, List.find?_nil]
attribute [local irreducible] scan
attribute [local irreducible] callV
set_option maxRecDepth 20000 in
theorem pick_c {H : Heap} {s : S4} {eol : Bool} {Q : QT} {E : ET} (hk : ∀ H', Ext H H' → Q (.int .i64 (pickOf s eol)) H') : Does Pr 67 #[.agg #[.int .u64 s.a, .int .u64 s.b, .int .u64 s.c, .int .u64 s.d], .bool eol] H Q E := by
  refine zqq1_fn _ _ _ _ _ Q E H ?_
  unfold zqq1
  refine nw_ext fun i H1 hi he1 hc1 => ?_
  have hc1 : H1 i = some (.cells s.cells 46 (0, 0)) := hc1
  unfold zqq1_24 zqq1_21 callV
  refine phas_c (s := s) (b := 10) hc1 (by omega) ⟨_, rfl, sel_mk (fun h => ?_) (fun h => ?_)⟩
  · have := hk H1 he1
    unfold pickOf at this; rw [if_pos h] at this; exact this
  unfold zqq1_17 zqq1_14
  have h0 := scan_0 s
  unfold pickOf at hk
  rw [if_neg (by rw [h]; simp)] at hk
  generalize (List.range 256).find? s.has = F at hk h0
  refine ⟨fun x H' => ∃ n : Nat, x = (n : Nat) ∧ n ≤ 256 ∧ H' = H1 ∧ F = scan s n, fun x _ => (256 - x).toNat, ⟨0, rfl, Nat.zero_le _, rfl, h0⟩, ?_⟩
  intro x H2 hI
  obtain ⟨n, e1, hI⟩ := hI
  obtain ⟨hn, hI⟩ := hI
  obtain ⟨e2, hno⟩ := hI
  subst e1
  subst e2
  unfold zqq1_10
  refine sel_dec (fun hlt => ?_) (fun hge => ?_)
  · unfold zqq1_8
    refine sel_not (fun he => ?_) (fun he => ?_)
    · unfold zqq1_5 callV
      rw [scan_succ s (by omega)] at hno
      refine phas_c (s := s) hc1 (by omega) ⟨_, rfl, sel_mk (fun h2 => ?_) (fun h2 => ?_)⟩
      · rw [h2] at hno
        have := hk H2 he1
        rw [if_neg (by rw [he]; simp), hno] at this
        exact this
      · rw [h2] at hno
        unfold zqq1_3
        have hw : IntKind.wrap .i64 ((n : Int) + 1) = ((n + 1 : Nat) : Int) := by rw [IntWalk.i64_in _ (by omega)]; omega
        rw [hw]
        exact ⟨⟨n + 1, rfl, by omega, rfl, hno⟩, by dsimp only; omega⟩
    · unfold zqq1_1
      have := hk H2 he1
      rw [if_pos he] at this
      exact this
  · unfold zqq1_8
    refine sel_ff ?_
    unfold zqq1_1
    rw [scan_end s (by omega)] at hno
    have := hk H2 he1
    rw [hno] at this
    cases eol <;> exact this
end Go.Proofs.Ytaffcoiomggpfaa

/- Patterns, ranges, appended bytes. -/
namespace Go.Proofs.Ytaffcoiomggpfaa
open Go.V
attribute [local irreducible] app
set_option linter.constructorNameAsVariable false
set_option linter.unusedVariables false

theorem bytes_one (l : List UInt8) : (l.map byteV).all oneC = true := by
  induction l with
  | nil => rfl
  | cons x l ih => simp only [List.map_cons, List.all_cons, Bool.and_eq_true]; exact ⟨rfl, ih⟩
theorem app_byt {H : Heap} {p q : OA} {l c n c2 : Nat} {bs ws : List UInt8} {K : OA → Nat → Nat → Heap → Prop} (hv : Vec H 1 p l c (bs.map byteV)) (hw : Byt H q n c2 ws) (hcap : l + n ≤ 1048576)
    (hk : ∀ p' c' H', Vec H' 1 p' (l + n) c' ((bs ++ ws).map byteV) → (∀ j, ¬ blk p j → H j ≠ none → H' j = H j) → (∀ j, blk p' j → blk p j ∨ H j = none) → K p' (l + n) c' H') : app Pr 24 p l c (.slice q n c2) H K :=
  app_vec (sz := 1) (n := n) (ws := ws.map byteV) sl24 hv (fun K hK => ⟨ws.map byteV, by rw [List.length_map, hw.1]; omega, hw.2.2, hK⟩) (by rw [List.length_map, hw.1]; omega) (bytes_one ws) hcap (by omega)
    fun p' c' H' h1 h2 h3 => hk p' c' H' (by rw [List.map_append]; exact h1) h2 h3
theorem ext_app {H0 H H' : Heap} {p : OA} (he : Ext H0 H) (hf : ∀ j, blk p j → H0 j = none) (hs : ∀ j, ¬ blk p j → H j ≠ none → H' j = H j) : Ext H0 H' := fun j o hj => by
  have h1 := he j o hj
  rw [hs j (fun hb => by rw [hf j hb] at hj; cases hj) (by rw [h1]; simp)]; exact h1
theorem fresh_app {H0 H : Heap} {p p' : OA} (he : Ext H0 H) (hf : ∀ j, blk p j → H0 j = none) (hb : ∀ j, blk p' j → blk p j ∨ H j = none) : ∀ j, blk p' j → H0 j = none := fun j hj => by
  rcases hb j hj with h | h
  · exact hf j h
  · exact he.free h
theorem vec_byt {H : Heap} {p : OA} {l c : Nat} {bs : List UInt8} (h : Vec H 1 p l c (bs.map byteV)) : Byt H p l c bs :=
  ⟨by have := h.1; simpa using this, h.2.1, h.rdS⟩
theorem fresh_blk {H : Heap} {i : Nat} (h : H i = none) : ∀ j, blk (some ⟨i, 0, none⟩) j → H j = none := fun j hj => by obtain ⟨a, ha, rfl⟩ := hj; cases ha; exact h
theorem Byt.take {H : Heap} {p : OA} {n c : Nat} {bs : List UInt8} (h : Byt H p n c bs) (k : Nat) (hk : k ≤ n) :
    Byt H (if c = 0 then p else Option.map (fun a => Addr.add a (0 * 1)) p) (k - 0) (c - 0) (bs.take k) := by
  obtain ⟨h1, h2, h3⟩ := h
  have hp : (if c = 0 then p else Option.map (fun a => Addr.add a (0 * 1)) p) = p := by
    split
    · rfl
    · cases p with
      | none => rfl
      | some a => simp [Addr.add]
  rw [hp]
  refine ⟨by rw [List.length_take]; omega, by omega, ?_⟩
  have tk : ∀ (k : Nat) (a : Addr) (vs : List Value) (i : Nat), H.rd a i vs → H.rd a i (vs.take k) := fun k a => by
    induction k with
    | zero => intro vs i _; simp; trivial
    | succ k ih =>
      intro vs i h
      cases vs with
      | nil => trivial
      | cons v vs => exact ⟨h.1, ih vs (i + 1) h.2⟩
  cases p with
  | none =>
    have : bs.map byteV = [] := h3
    simp at this; subst this; simp; rfl
  | some a =>
    rw [List.map_take]
    exact tk k a _ 0 h3
end Go.Proofs.Ytaffcoiomggpfaa
