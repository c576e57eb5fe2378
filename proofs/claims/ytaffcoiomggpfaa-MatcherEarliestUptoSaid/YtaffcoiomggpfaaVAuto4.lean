/- Contracts of package auto (4): spread, Here. -/
import Derived.Test.YtaffcoiomggpfaaVAuto3
namespace Go.Proofs.Ytaffcoiomggpfaa
open Go.V
attribute [local irreducible] app
set_option linter.constructorNameAsVariable false
set_option linter.unusedVariables false

def spreadL (st : List Nd) (bol eol : Bool) : Nat → Nat → Bool → List Nat → List Nat × Bool
  | 0, _, m, l => (l, m)
  | f + 1, i, m, l =>
    if i < l.length then
      let x := st.getD (l.getD i 0) default
      if x.k = 2 then spreadL st bol eol f (i + 1) m (addL (addL l x.r.toNat) x.l.toNat)
      else if (x.k = 3 ∧ bol = true) ∨ (x.k = 4 ∧ eol = true) then spreadL st bol eol f (i + 1) m (addL l x.l.toNat)
      else if x.k = 5 then spreadL st bol eol f (i + 1) true l
      else spreadL st bol eol f (i + 1) m l
    else (l, m)
def spread (st : List Nd) (bol eol : Bool) (l : List Nat) : List Nat × Bool := spreadL st bol eol (st.length + 1) 0 false l
theorem addL_len (l : List Nat) (i : Nat) : l.length ≤ (addL l i).length := by unfold addL; split <;> simp
theorem InR.at {st : List Nd} (hr : InR st) {n : Nat} {x : Nd} (hx : st[n]? = some x) : 0 ≤ x.l ∧ x.l < st.length ∧ 0 ≤ x.r ∧ x.r < st.length := hr x (List.mem_iff_getElem?.2 ⟨n, hx⟩)
theorem getD_some {st : List Nd} {j : Nat} (h : j < st.length) : st[j]? = some (st.getD j default) := by rw [List.getD_eq_getElem?_getD, List.getElem?_eq_getElem h]; rfl
theorem spreadL_ok {st : List Nd} (hr : InR st) (bol eol : Bool) : ∀ (f i : Nat) (m : Bool) (l : List Nat), OkL st.length l → OkL st.length (spreadL st bol eol f i m l).1
  | 0, i, m, l, h => h
  | f + 1, i, m, l, h => by
    unfold spreadL
    split
    · rename_i hi
      have hlt : l.getD i 0 < st.length := h.2 _ (by rw [List.getD_eq_getElem?_getD, List.getElem?_eq_getElem hi]; exact List.getElem_mem hi)
      have hb := hr.at (getD_some hlt)
      dsimp only
      generalize st.getD (l.getD i 0) default = x at hb
      split
      · exact spreadL_ok hr bol eol f _ m _ ((h.add (by omega)).add (by omega))
      split
      · exact spreadL_ok hr bol eol f _ m _ (h.add (by omega))
      split
      · exact spreadL_ok hr bol eol f _ true _ h
      · exact spreadL_ok hr bol eol f _ m _ h
    · exact h
section
variable {H0 H : Heap} {a cs : Nat} {ps : Option Addr} {st : List Nd} {anch : Bool} {M : Ma} {Q : Value → Heap → Prop} {E : Chain → Heap → Prop}
theorem MSt.ldSt {K : Option Addr → Nat → Nat → Prop} (h : MSt H0 H a ps cs st anch M) (hk : K ps st.length cs) : ldSl ⟨a, 0, none⟩ H K := by
  obtain ⟨h1, h2, h3, h4, p1, p3, c1, b1, l3, c3, b3, t, xs, ys, k1, kk⟩ := h
  exact ldSl_at (p := ps) (l := st.length) (m := cs) k1 rfl hk
theorem MSt.ldNow {K : Option Addr → Nat → Nat → Prop} (h : MSt H0 H a ps cs st anch M) (hk : ∀ p c, Vec H 1 p M.now.length c (M.now.map natV) → K p M.now.length c) : ldSl ⟨a, 1, none⟩ H K := by
  obtain ⟨h1, h2, h3, h4, p1, p3, c1, b1, l3, c3, b3, t, xs, ys, k1, k2, kk⟩ := h
  exact ldSl_at (p := p1) (l := M.now.length) (m := c1) k1 rfl (hk p1 c1 k2)
theorem MSt.ldAnch {K : Bool → Prop} (h : MSt H0 H a ps cs st anch M) (hk : K anch) : ldB ⟨a, 5, none⟩ H K := by
  obtain ⟨h1, h2, h3, h4, p1, p3, c1, b1, l3, c3, b3, t, xs, ys, k1, kk⟩ := h
  exact ldB_at (n := anch) k1 rfl hk
theorem MSt.ldBol {K : Bool → Prop} (h : MSt H0 H a ps cs st anch M) (hk : K M.bol) : ldB ⟨a, 6, none⟩ H K := by
  obtain ⟨h1, h2, h3, h4, p1, p3, c1, b1, l3, c3, b3, t, xs, ys, k1, kk⟩ := h
  exact ldB_at (n := M.bol) k1 rfl hk
theorem MSt.ldAtM {K : Int → Prop} (h : MSt H0 H a ps cs st anch M) (hk : K (M.at_ : Nat)) : ldI .i64 ⟨a, 7, none⟩ H K := by
  obtain ⟨h1, h2, h3, h4, p1, p3, c1, b1, l3, c3, b3, t, xs, ys, k1, kk⟩ := h
  exact ldI_at (n := (M.at_ : Nat)) k1 rfl hk
theorem MSt.ldFound {K : Int → Prop} (h : MSt H0 H a ps cs st anch M) (hk : K M.found) : ldI .i64 ⟨a, 8, none⟩ H K := by
  obtain ⟨h1, h2, h3, h4, p1, p3, c1, b1, l3, c3, b3, t, xs, ys, k1, kk⟩ := h
  exact ldI_at (n := M.found) k1 rfl hk
theorem vec_at1 {p : Option Addr} {l c : Nat} {vs : List Value} {v : Value} (h : Vec H 1 p l c vs) {n : Nat} (hx : vs[n]? = some v) : ∃ b t cs, p = some ⟨b, 0, none⟩ ∧ H b = some (.cells cs t (0, 0)) ∧ cs[n]? = some v := by
  obtain ⟨v1, v2, v3⟩ := h
  have hn := (List.getElem?_eq_some_iff.1 hx).1
  cases p with
  | none => simp only [] at v3; omega
  | some a =>
    obtain ⟨b, cs, t, rfl, hb, hcs, hget⟩ := v3
    exact ⟨b, t, cs, rfl, hb, by rw [hget n (by omega)]; exact hx⟩
set_option maxHeartbeats 1000000 in
theorem spread_c {eol : Bool} (h : MSt H0 H a ps cs st anch M) (hr : InR st) (hn : st.length ≤ 100000)
    (hk : ∀ H', MSt H0 H' a ps cs st anch { M with now := (spread st M.bol eol M.now).1 } → Q (.bool (spread st M.bol eol M.now).2) H') : Does Pr 81 #[.pointer (some ⟨a, 0, none⟩), .bool eol] H Q E := by
  refine uf1_fn _ _ Q E H ?_
  have hvs := h.2.2.1
  unfold uf1 uf1_48 uf1_44 uf1_41
  generalize hR : spread st M.bol eol M.now = R at hk
  have hR : spreadL st M.bol eol (st.length + 1) 0 false M.now = R := hR
  refine ⟨fun m x H' => ∃ (f i : Nat) (l : List Nat), x = (i : Nat) ∧ i ≤ l.length ∧ st.length < f + i ∧ spreadL st M.bol eol f i m l = R ∧ MSt H0 H' a ps cs st anch { M with now := l },
    fun _ x _ => (st.length + 1 - x).toNat, ⟨st.length + 1, 0, M.now, rfl, by omega, by omega, hR, h⟩, ?_⟩
  rintro m x H1 ⟨f, i, l, rfl, hi, hf, hr', h1⟩
  have hll := h1.2.2.2.1.len
  dsimp only at hll
  unfold uf1_38
  simp only [ptr_some, add_at, Nat.zero_add]
  refine h1.ldNow fun p c hv => ?_
  dsimp only at hv ⊢
  cases f with
  | zero => omega
  | succ f =>
    simp only [spreadL] at hr'
    refine sel_dec (fun hlt => ?_) (fun hge => ?_)
    · have hlt : i < l.length := by omega
      rw [if_pos hlt] at hr'
      have hmem : l[i]? = some (l.getD i 0) := by rw [List.getD_eq_getElem?_getD, List.getElem?_eq_getElem hlt]; rfl
      have hsl : l.getD i 0 < st.length := h1.2.2.2.1.2 _ (List.mem_iff_getElem?.2 ⟨i, hmem⟩)
      generalize hj : l.getD i 0 = j at hmem hsl hr'
      have hx : st[j]? = some (st.getD j default) := by rw [List.getD_eq_getElem?_getD, List.getElem?_eq_getElem hsl]; rfl
      have hb := hr.at hx
      generalize st.getD j default = x at hx hb hr'
      unfold uf1_33
      simp only [ptr_some, add_at, Nat.zero_add]
      refine h1.ldSt (h1.ldNow fun p c hv => ⟨⟨by omega, by dsimp only; omega⟩, ?_⟩)
      dsimp only at hv ⊢
      obtain ⟨bb, tt, cc, rfl, hbb, hcc⟩ := vec_at1 hv (n := i) (v := natV j) (by simp [hmem])
      simp only [ptr_some, add_at, Int.toNat_natCast, Nat.mul_one, Nat.zero_add]
      refine ldI_at (n := (j : Nat)) hbb hcc ⟨⟨by omega, by omega⟩, ?_⟩
      obtain ⟨sa, rfl, hrd⟩ := vec_at7 (h1.2.2.1.ext h1.1) hx
      simp only [ptr_some, Int.toNat_natCast]
      refine ⟨x.k, x.l, x.r, x.a, x.b, x.c, x.d, hrd, ?_⟩
      refine nw_ext fun q H2 hq2 he2 hc2 => ?_
      refine wr_new hc2 (by simp) rfl (c' := x.cells.toArray) rfl fun H3 hc3 hb3 => ?_
      have hq0 : H0 q = none := h1.1.free hq2
      have h3 : MSt (H0.set q (.cells x.cells.toArray 91 (0, 0))) H3 a (some sa) cs st anch { M with now := l } := by
        refine (h1.new hq2 (.cells x.cells.toArray 91 (0, 0))).ext fun y o hy => ?_
        by_cases e : y = q
        · subst e; rw [Heap.set_self] at hy; rw [hc3]; exact hy
        · rw [Heap.set_ne _ _ e] at hy; rw [hb3 y e]; exact he2 y o hy
      have nx : ∀ (m' : Bool) (l' : List Nat) (H' : Heap), spreadL st M.bol eol f (i + 1) m' l' = R → MSt (H0.set q (.cells x.cells.toArray 91 (0, 0))) H' a (some sa) cs st anch { M with now := l' } → l.length ≤ l'.length →
          uf1_3 (fun m x H1 => (∃ (f i : Nat) (l : List Nat), x = (i : Nat) ∧ i ≤ l.length ∧ st.length < f + i ∧ spreadL st M.bol eol f i m l = R ∧ MSt H0 H1 a (some sa) cs st anch { M with now := l }) ∧ (st.length + 1 - x).toNat < (st.length + 1 - (i : Nat) : Int).toNat) Q E (some ⟨a, 0, none⟩) eol m' (i : Nat) H' := by
        intro m' l' H' hs h' hl'
        unfold uf1_3
        have hw : IntKind.wrap .i64 ((i : Int) + 1) = ((i + 1 : Nat) : Int) := by rw [IntWalk.i64_in _ (by omega)]; omega
        rw [hw]
        exact ⟨⟨f, i + 1, l', rfl, by omega, by omega, hs, h'.old hvs hq0⟩, by omega⟩
      have hcx : ∀ (H' : Heap), Ext (H0.set q (.cells x.cells.toArray 91 (0, 0))) H' → H' q = some (.cells x.cells.toArray 91 (0, 0)) := fun H' he => he.get
      generalize H0.set q (.cells x.cells.toArray 91 (0, 0)) = HB at h3 nx hcx
      have hc3' := hcx H3 h3.1
      have el : x.l = ((x.l.toNat : Nat) : Int) := by omega
      have er : x.r = ((x.r.toNat : Nat) : Int) := by omega
      -- goes on at Out
      have out : ∀ (l' : List Nat) (H' : Heap), spreadL st M.bol eol f (i + 1) m (addL l' x.l.toNat) = R → MSt HB H' a (some sa) cs st anch { M with now := l' } → l.length ≤ l'.length →
          uf1_7 (fun m x H1 => (∃ (f i : Nat) (l : List Nat), x = (i : Nat) ∧ i ≤ l.length ∧ st.length < f + i ∧ spreadL st M.bol eol f i m l = R ∧ MSt H0 H1 a (some sa) cs st anch { M with now := l }) ∧ (st.length + 1 - x).toNat < (st.length + 1 - (i : Nat) : Int).toNat) Q E (some ⟨a, 0, none⟩) eol m (i : Nat) (some ⟨q, 0, none⟩) H' := by
        intro l' H' hs h' hl'
        unfold uf1_7
        simp only [ptr_some, add_at, Nat.zero_add]
        refine ldI_at (n := x.l) (hcx _ h'.1) rfl ?_
        rw [el]
        refine nadd_c h' (by omega) hn fun H4 h4 => ?_
        exact nx m _ H4 hs h4 (Nat.le_trans hl' (addL_len _ _))
      unfold uf1_22
      simp only [ptr_some]
      refine ldI_at (n := x.k) hc3' rfl (sel_beq (fun c2 => ?_) (fun c2 => ?_))
      · rw [if_pos c2] at hr'
        unfold uf1_9
        simp only [ptr_some, add_at, Nat.zero_add]
        refine ldI_at (n := x.r) hc3' rfl ?_
        rw [er]
        refine nadd_c h3 (by omega) hn fun H4 h4 => ?_
        exact out _ H4 hr' h4 (addL_len _ _)
      rw [if_neg c2] at hr'
      have stop : ¬ ((x.k = 3 ∧ M.bol = true) ∨ (x.k = 4 ∧ eol = true)) →
          uf1_13 (fun m x H1 => (∃ (f i : Nat) (l : List Nat), x = (i : Nat) ∧ i ≤ l.length ∧ st.length < f + i ∧ spreadL st M.bol eol f i m l = R ∧ MSt H0 H1 a (some sa) cs st anch { M with now := l }) ∧ (st.length + 1 - x).toNat < (st.length + 1 - (i : Nat) : Int).toNat) Q E (some ⟨a, 0, none⟩) eol m (i : Nat) (some ⟨q, 0, none⟩) false H3 := by
        intro hno
        rw [if_neg hno] at hr'
        unfold uf1_13
        refine sel_ff ?_
        unfold uf1_11
        simp only [ptr_some]
        refine ldI_at (n := x.k) hc3' rfl (sel_beq (fun c5 => ?_) (fun c5 => ?_))
        · rw [if_pos c5] at hr'
          unfold uf1_5
          exact nx true l H3 hr' h3 (Nat.le_refl _)
        · rw [if_neg c5] at hr'
          exact nx m l H3 hr' h3 (Nat.le_refl _)
      have go : ((x.k = 3 ∧ M.bol = true) ∨ (x.k = 4 ∧ eol = true)) →
          uf1_13 (fun m x H1 => (∃ (f i : Nat) (l : List Nat), x = (i : Nat) ∧ i ≤ l.length ∧ st.length < f + i ∧ spreadL st M.bol eol f i m l = R ∧ MSt H0 H1 a (some sa) cs st anch { M with now := l }) ∧ (st.length + 1 - x).toNat < (st.length + 1 - (i : Nat) : Int).toNat) Q E (some ⟨a, 0, none⟩) eol m (i : Nat) (some ⟨q, 0, none⟩) true H3 := by
        intro hyes
        rw [if_pos hyes] at hr'
        unfold uf1_13
        exact sel_tt (out l H3 hr' h3 (Nat.le_refl _))
      have off : (x.k = 3 → M.bol = false) → 
          uf1_15 (fun m x H1 => (∃ (f i : Nat) (l : List Nat), x = (i : Nat) ∧ i ≤ l.length ∧ st.length < f + i ∧ spreadL st M.bol eol f i m l = R ∧ MSt H0 H1 a (some sa) cs st anch { M with now := l }) ∧ (st.length + 1 - x).toNat < (st.length + 1 - (i : Nat) : Int).toNat) Q E (some ⟨a, 0, none⟩) eol m (i : Nat) (some ⟨q, 0, none⟩) false H3 := by
        intro h3b
        unfold uf1_15
        refine sel_ff ?_
        simp only [ptr_some]
        refine ldI_at (n := x.k) hc3' rfl (sel_beq (fun c4 => ?_) (fun c4 => ?_))
        · cases eol with
          | true => exact go (.inr ⟨c4, rfl⟩)
          | false => exact stop (by simp; intro h; omega)
        · exact stop (by
            rintro (⟨h, hb⟩ | ⟨h, _⟩)
            · rw [h3b h] at hb; cases hb
            · exact c4 h)
      unfold uf1_17
      simp only [ptr_some, add_at, Nat.zero_add]
      refine ldI_at (n := x.k) hc3' rfl (sel_beq (fun c3 => ?_) (fun c3 => off (fun h => absurd h c3)))
      refine h3.ldBol ?_
      dsimp only
      cases hbol : M.bol with
      | true =>
        unfold uf1_15
        rw [hbol] at go
        exact sel_tt (go (.inl ⟨c3, rfl⟩))
      | false => rw [hbol] at off; exact off (fun _ => rfl)
    · rw [if_neg (by omega)] at hr'
      unfold uf1_1
      rw [← hr'] at hk
      exact hk H1 h1
theorem here_c {p : Option Addr} {n c : Nat} {bs : List UInt8} (h : MSt H0 H a ps cs st anch M) (hr : InR st) (hn : st.length ≤ 100000) (hb : bs.length = n) (hrd : H.rdS p (bs.map byteV))
    (hk : ∀ H', MSt H0 H' a ps cs st anch { M with now := (spread st M.bol (decide (bs.head? = some 10)) M.now).1 } → Q (.bool (spread st M.bol (decide (bs.head? = some 10)) M.now).2) H') :
    Does Pr 58 #[.pointer (some ⟨a, 0, none⟩), .slice p n c] H Q E := by
  refine ub1_fn _ _ _ _ Q E H ?_
  unfold ub1
  cases bs with
  | nil =>
    simp at hb
    subst hb
    refine sel_dec (fun h => absurd h (by simp)) (fun _ => ?_)
    exact spread_c h hr hn fun H' h' => ⟨_, rfl, hk H' h'⟩
  | cons x bs =>
    simp at hb
    refine sel_dec (fun _ => ?_) (fun hno => absurd (by simp; omega) hno)
    refine ⟨⟨by omega, by omega⟩, ?_⟩
    cases p with
    | none => simp [Heap.rdS] at hrd
    | some ad =>
      simp only [ptr_some]
      have hc : H.cell? (ad.add 0) = some (byteV x) := hrd.1
      refine ⟨(x.toNat : Nat), hc, ?_⟩
      have e : ((x.toNat : Int) == 10) = decide ((x :: bs).head? = some 10) := by
        simp only [List.head?_cons, Option.some.injEq]
        have : (x.toNat : Int) = 10 ↔ x = 10 := by
          constructor
          · intro h
            have : x.toNat = 10 := by omega
            exact UInt8.toNat_inj.1 this
          · intro h; subst h; rfl
        by_cases hx : x = 10
        · rw [decide_eq_true hx]; simp [this.2 hx]
        · rw [decide_eq_false hx]
          have : ¬ ((x.toNat : Int) = 10) := fun h => hx (this.1 h)
          simpa using this
      dsimp only
      rw [e]
      exact spread_c h hr hn fun H' h' => ⟨_, rfl, hk H' h'⟩
end
end Go.Proofs.Ytaffcoiomggpfaa
