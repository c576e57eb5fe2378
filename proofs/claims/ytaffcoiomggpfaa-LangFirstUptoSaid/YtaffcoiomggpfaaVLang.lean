/- Contracts of package lang: First, Ends. -/
import Derived.Test.YtaffcoiomggpfaaVAuto6
import Derived.Test.YtaffcoiomggpfaaVByt
import Derived.Test.YtaffcoiomggpfaaFlang
namespace Go.Proofs.Ytaffcoiomggpfaa
open Go.V
attribute [local irreducible] app
set_option linter.constructorNameAsVariable false
set_option linter.unusedVariables false

def firstOf (l : List Nd) (bs : List UInt8) : Int :=
  if validOf l = true then ((feed (buildOf l) false (bs.map UInt8.toNat) (startM (buildOf l) true)).matched (buildOf l)).found else -1
def endsL (st : List Nd) : List UInt8 → Nat → Ma → List Nat
  | [], i, M => if (spread st M.bol false M.now).2 = true then [i] else []
  | c :: r, i, M => (if (spread st M.bol (decide (c = 10)) M.now).2 = true then [i] else []) ++ endsL st r (i + 1) (Ma.read st true { M with now := (spread st M.bol (decide (c = 10)) M.now).1 } c.toNat)
def endsOf (l : List Nd) (bs : List UInt8) (at_ : Nat) : List Nat :=
  if validOf l = true then endsL (buildOf l) (bs.drop at_) at_ (startM (buildOf l) (decide (at_ = 0 ∨ bs[at_ - 1]? = some 10))) else []
theorem First_n {H : Heap} {p pt : Option Addr} {c nt ct : Nat} {l : List Nd} {bs : List UInt8} {Q : Value → Heap → Prop} {E : Chain → Heap → Prop} (hv : Nds H p l) (hb : Byt H pt nt ct bs) (hn : nt ≤ 1048576)
    (hk : ∀ H', Ext H H' → Q (.int .i64 (firstOf l bs)) H') : Does Pr 19 #[.slice p l.length c, .slice pt nt ct] H Q E := by
  refine zqt_fn _ _ _ _ _ _ Q E H ?_
  unfold zqt zqt_3
  refine Valid_n hv fun H1 he1 => ⟨_, rfl, ?_⟩
  refine sel_not (fun hval => ?_) (fun hval => ?_)
  · have : firstOf l bs = -1 := if_neg (by rw [hval]; simp)
    rw [this] at hk
    exact hk H1 he1
  · have : firstOf l bs = ((feed (buildOf l) false (bs.map UInt8.toNat) (startM (buildOf l) true)).matched (buildOf l)).found := if_pos hval
    rw [this] at hk
    obtain ⟨b1, b2, b3, b4⟩ := build_facts hval
    unfold zqt_1
    refine Build_c (hv.ext he1) hval fun H2 p2 c2 he2 hv2 hf2 => ⟨_, _, _, rfl, ?_⟩
    refine start_c hv2 b1 (by omega) (by omega) fun a H3 m3 => ⟨_, rfl, ?_⟩
    have hb2 := (hb.ext he1).ext he2
    refine feed_c m3 b1 (by omega) (by omega) hb2.1 hb2.2.2 (by have := hb2.1; show 0 + bs.length ≤ _; omega) fun H4 m4 => ⟨_, rfl, ?_⟩
    refine found_c m4 b1 (by omega) fun H5 m5 => ⟨_, rfl, ?_⟩
    exact hk H5 ((he1.trans he2).trans m5.1)
theorem First_c {H : Heap} {p pt : Option Addr} {c nt ct : Nat} {l : List Nd} {bs : List UInt8} {Q : Value → Heap → Prop} {E : Chain → Heap → Prop} (hv : Vec H 7 p l.length c (flat l)) (hb : Byt H pt nt ct bs) (hn : nt ≤ 1048576)
    (hk : ∀ H', Ext H H' → Q (.int .i64 (firstOf l bs)) H') : Does Pr 19 #[.slice p l.length c, .slice pt nt ct] H Q E := First_n (Vec.nds hv) hb hn hk
theorem MSt.frame {H0 H H' : Heap} {a cs : Nat} {ps : Option Addr} {st : List Nd} {anch : Bool} {M : Ma} (h : MSt H0 H a ps cs st anch M) (hp : ∀ j, H0 j = none → H j ≠ none → H' j = H j) (hps : Vec H' 7 ps st.length cs (flat st)) :
    MSt (beside H0 H H') H' a ps cs st anch M := by
  obtain ⟨h1, h2, h3, h4, p1, p3, c1, b1, l3, c3, b3, t, xs, ys, k1, k2, k3, k4, k5, d1, d2, d3, d4, d5, d6, d7⟩ := h
  have n1 := k3.known blk1
  have n3 := k5.known blk1
  have ha : H a ≠ none := by rw [k1]; simp
  refine ⟨beside_ext _ _ _, beside_priv h2 ha, hps.keep fun j hj _ => beside_some (h3.known hj), h4, p1, p3, c1, b1, l3, c3, b3, t, xs, ys, by rw [hp a h2 ha]; exact k1,
    k2.keep fun j hj hn => hp j (d6 j hj).2.2.2.2 hn, k3.keep fun j hj hn => ?_, k4.keep fun j hj hn => hp j (d7 j hj).2.2.2 hn, k5.keep fun j hj hn => ?_, d1, d2, d3, beside_priv d4 n1, beside_priv d5 n3, fun j hj => ?_, fun j hj => ?_⟩
  · obtain ⟨x, hx, rfl⟩ := hj; cases hx; exact hp b1 d4 hn
  · obtain ⟨x, hx, rfl⟩ := hj; cases hx; exact hp b3 d5 hn
  · obtain ⟨e1, e2, e3, e4, e5⟩ := d6 j hj
    exact ⟨e1, e2, e3, e4, beside_priv e5 (k2.known hj)⟩
  · obtain ⟨e1, e2, e3, e4⟩ := d7 j hj
    exact ⟨e1, e2, e3, beside_priv e4 (k4.known hj)⟩
set_option maxHeartbeats 1000000 in
theorem Ends_n {H : Heap} {p pt : Option Addr} {c nt ct at_ : Nat} {l : List Nd} {bs : List UInt8} {Q : Value → Heap → Prop} {E : Chain → Heap → Prop} (hv : Nds H p l) (hb : Byt H pt nt ct bs) (hn : nt ≤ 65536) (hat : at_ ≤ nt)
    (hk : ∀ H' p' c', Ext H H' → Vec H' 1 p' (endsOf l bs at_).length c' ((endsOf l bs at_).map natV) → Q (.slice p' (endsOf l bs at_).length c') H') : Does Pr 24 #[.slice p l.length c, .slice pt nt ct, .int .i64 (at_ : Nat)] H Q E := by
  refine zqu_fn _ _ _ _ _ _ _ Q E H ?_
  unfold zqu zqu_27
  refine Valid_n hv fun H1 he1 => ⟨_, rfl, ?_⟩
  refine sel_not (fun hval => ?_) (fun hval => ?_)
  · have : endsOf l bs at_ = [] := if_neg (by rw [hval]; simp)
    rw [this] at hk
    unfold zqu_25
    exact sel_tt (hk H1 none 0 he1 (Vec.nil _ 1))
  refine sel_dec (fun h => absurd h (by omega)) (fun _ => ?_)
  unfold zqu_25
  refine sel_dec (fun h => absurd h (by omega)) (fun _ => ?_)
  unfold zqu_22
  obtain ⟨b1, b2, b3, b4⟩ := build_facts hval
  refine Build_c (hv.ext he1) hval fun H2 p2 c2 he2 hv2 hf2 => ⟨_, _, _, rfl, ?_⟩
  have he12 := he1.trans he2
  have hb2 := hb.ext he12
  obtain ⟨hbl, hbc, hbr⟩ := id hb2
  generalize hst : buildOf l = st at *
  -- the loop
  have loop : ∀ (bol : Bool) (a : Nat) (H3 : Heap), decide (at_ = 0 ∨ bs[at_ - 1]? = some 10) = bol → MSt H2 H3 a p2 c2 st true (startM st bol) → zqu_19 Q E pt nt ct (at_ : Nat) (some ⟨a, 0, none⟩) H3 := by
    intro bol a H3 hbol m3
    have hends : endsOf l bs at_ = endsL st (bs.drop at_) at_ (startM st bol) := by unfold endsOf; rw [if_pos hval, hbol, hst]
    unfold zqu_19 zqu_16 zqu_13
    refine ⟨fun p' n' c' x H' => ∃ (i : Nat) (out : List Nat) (M : Ma) (HB : Heap), x = (i : Nat) ∧ i ≤ nt ∧ n' = out.length ∧ out.length ≤ i ∧ out ++ endsL st (bs.drop i) i M = endsOf l bs at_ ∧ M.at_ ≤ i ∧
        Ext H2 HB ∧ MSt HB H' a p2 c2 st true M ∧ Vec HB 1 p' out.length c' (out.map natV) ∧ ∀ j, blk p' j → H2 j = none,
      fun _ _ _ x _ => (nt + 1 - x).toNat, ⟨at_, [], _, H2, rfl, hat, rfl, by simp, by rw [hends]; rfl, Nat.zero_le _, Ext.refl _, m3, Vec.nil _ 1, fun j hj => by obtain ⟨x, hx, _⟩ := hj; cases hx⟩, ?_⟩
    rintro p' n' c' x H4 ⟨i, out, M, HB, rfl, hi, rfl, hol, heq, hmat, heB, m4, hvo, hfr⟩
    unfold zqu_8
    simp only [Int.toNat_natCast]
    refine ⟨⟨by omega, by omega⟩, ?_⟩
    have hb4 := ((hb2.ext heB).ext m4.1).from i hi
    refine here_c m4 b1 (by omega) hb4.1 hb4.2.2 fun H5 m5 => ⟨_, rfl, ?_⟩
    have hhead : (bs.drop i).head? = bs[i]? := by simp
    have he45 : Ext HB H5 := m5.1
    -- behind the test
    have next : ∀ (p'' : Option Addr) (c'' : Nat) (out' : List Nat) (H6 HB' : Heap), out'.length ≤ i + 1 → (∀ c r, bs.drop i = c :: r → out' ++ endsL st r (i + 1) (Ma.read st true { M with now := (spread st M.bol (decide ((bs.drop i).head? = some 10)) M.now).1 } c.toNat) = endsOf l bs at_) →
        (bs.drop i = [] → out' = endsOf l bs at_) → Ext H2 HB' → MSt HB' H6 a p2 c2 st true { M with now := (spread st M.bol (decide ((bs.drop i).head? = some 10)) M.now).1 } → Vec HB' 1 p'' out'.length c'' (out'.map natV) → (∀ j, blk p'' j → H2 j = none) →
        zqu_5 (fun p' n' c' x H' => (∃ (i : Nat) (out : List Nat) (M : Ma) (HB : Heap), x = (i : Nat) ∧ i ≤ nt ∧ n' = out.length ∧ out.length ≤ i ∧ out ++ endsL st (bs.drop i) i M = endsOf l bs at_ ∧ M.at_ ≤ i ∧
        Ext H2 HB ∧ MSt HB H' a p2 c2 st true M ∧ Vec HB 1 p' out.length c' (out.map natV) ∧ ∀ j, blk p' j → H2 j = none) ∧ (nt + 1 - x).toNat < (nt + 1 - (i : Nat) : Int).toNat) Q E pt nt ct (some ⟨a, 0, none⟩) p'' out'.length c'' (i : Nat) H6 := by
      intro p'' c'' out' H6 HB' hlen' hcons hnil heB' m6 hv6 hfr6
      unfold zqu_5
      refine sel_beq (fun hend => ?_) (fun hne => ?_)
      · have hout := hnil (List.drop_eq_nil_of_le (by omega))
        rw [← hout] at hk
        exact hk H6 p'' c'' ((he12.trans heB').trans m6.1) (hv6.ext m6.1)
      · have hlt : i < bs.length := by omega
        have hdrop := List.drop_eq_getElem_cons hlt
        have hbk : bs[i]? = some bs[i] := List.getElem?_eq_getElem hlt
        have hc := hcons _ _ hdrop
        generalize bs[i] = w at hbk hc
        unfold zqu_3
        cases pt with
        | none =>
          have : bs.map byteV = [] := hbr
          simp at this; subst this; simp at hlt
        | some ad =>
          have hcell : H6.cell? (ad.add (0 + i)) = some (byteV w) := rd_get (rd_ext (heB'.trans m6.1) hbr) (by simp [hbk])
          rw [Nat.zero_add] at hcell
          simp only [ptr_some, Int.toNat_natCast, Nat.mul_one]
          refine ⟨⟨by omega, by omega⟩, (w.toNat : Nat), hcell, ?_⟩
          have hw255 : w.toNat ≤ 255 := by have := w.toNat_lt; omega
          refine read_c m6 b1 (by omega) (by omega) hw255 (by dsimp only; omega) fun H7 m7 => ?_
          unfold zqu_1
          have hw : IntKind.wrap .i64 ((i : Int) + 1) = ((i + 1 : Nat) : Int) := by rw [IntWalk.i64_in _ (by omega)]; omega
          rw [hw]
          exact ⟨⟨i + 1, out', _, HB', rfl, by omega, rfl, hlen', hc, by show M.at_ + 1 ≤ i + 1; omega, heB', m7, hv6, hfr6⟩, by omega⟩
    have hstep : endsL st (bs.drop i) i M = (if (spread st M.bol (decide ((bs.drop i).head? = some 10)) M.now).2 = true then [i] else []) ++
        (match bs.drop i with | [] => [] | c :: r => endsL st r (i + 1) (Ma.read st true { M with now := (spread st M.bol (decide ((bs.drop i).head? = some 10)) M.now).1 } c.toNat)) := by
      cases hd : bs.drop i with
      | nil => simp [endsL]
      | cons w r => simp [endsL]
    rw [hstep] at heq
    refine sel_mk (fun hs => ?_) (fun hs => ?_)
    · rw [if_pos hs] at heq
      refine nw_ext fun q H6 hq6 he6 hc6 => ?_
      have hv6 : Vec H6 1 p' out.length c' (out.map natV) := (hvo.ext he45).ext he6
      refine app_one (sz := 1) (ws := [natV i]) sl22 hv6 hc6 rfl rfl (by omega) (by omega) fun p'' c'' H7 hv7 hs7 hb7 => ?_
      have priv : ∀ j, HB j = none → H5 j ≠ none → H7 j = H5 j := fun j h0 h5 => by
        cases hh : H5 j with
        | none => exact absurd hh h5
        | some o =>
          have h6 := he6 j o hh
          rw [hs7 j (fun hb => (hvo.known hb) h0) (by rw [h6]; simp), h6]
      have old : ∀ j o, H2 j = some o → H7 j = some o := fun j o hj => by
        have h6 := he6 j o (he45 j o (heB j o hj))
        rw [hs7 j (fun hb => by rw [hfr j hb] at hj; cases hj) (by rw [h6]; simp), h6]
      have m7 := m5.frame priv (hv2.ext old)
      have hlen : (out ++ [i]).length = out.length + 1 := by simp
      have hv7' : Vec H7 1 p'' (out ++ [i]).length c'' ((out ++ [i]).map natV) := by rw [hlen]; simpa using hv7
      have hvb : Vec (beside HB H5 H7) 1 p'' (out ++ [i]).length c'' ((out ++ [i]).map natV) := hv7'.keep fun j hj _ => by
        rcases hb7 j hj with h | h
        · exact beside_some (hvo.known h)
        · exact beside_free (he6.free h)
      have hfb : ∀ j, blk p'' j → H2 j = none := fun j hj => by
        rcases hb7 j hj with h | h
        · exact hfr j h
        · exact ((heB.trans he45).trans he6).free h
      have := next p'' c'' (out ++ [i]) H7 (beside HB H5 H7) (by rw [hlen]; omega) (fun c r hcr => by rw [hcr] at heq ⊢; simpa using heq) (fun hnil => by rw [hnil] at heq; simpa using heq)
        (fun j o hj => by rw [beside_some (by rw [heB j o hj]; simp)]; exact old j o hj) m7 hvb hfb
      rw [hlen] at this; exact this
    · rw [if_neg (by rw [hs]; exact Bool.false_ne_true)] at heq
      exact next p' c' out H5 HB (by omega) (fun c r hcr => by rw [hcr] at heq ⊢; simpa using heq) (fun hnil => by rw [hnil] at heq; simpa using heq) heB m5 hvo hfr
  refine sel_beq (fun h0 => ?_) (fun h0 => ?_)
  · refine start_c hv2 b1 (by omega) (by omega) fun a H3 m3 => ⟨_, rfl, ?_⟩
    exact loop true a H3 (by rw [decide_eq_true (.inl (by omega))]) m3
  · have hw : IntKind.wrap .i64 ((at_ : Int) - 1) = ((at_ - 1 : Nat) : Int) := by rw [IntWalk.i64_in _ (by omega)]; omega
    rw [hw]
    refine ⟨⟨by omega, by omega⟩, ?_⟩
    have hlt : at_ - 1 < bs.length := by omega
    have hbk : bs[at_ - 1]? = some bs[at_ - 1] := List.getElem?_eq_getElem hlt
    generalize bs[at_ - 1] = w at hbk
    cases pt with
    | none =>
      have : bs.map byteV = [] := hbr
      simp at this; subst this; simp at hlt
    | some ad =>
      have hcell : H2.cell? (ad.add (0 + (at_ - 1))) = some (byteV w) := rd_get hbr (by simp [hbk])
      rw [Nat.zero_add] at hcell
      simp only [ptr_some, Int.toNat_natCast, Nat.mul_one]
      refine ⟨(w.toNat : Nat), hcell, ?_⟩
      dsimp only
      rw [byte_is]
      refine start_c hv2 b1 (by omega) (by omega) fun a H3 m3 => ⟨_, rfl, ?_⟩
      refine loop _ a H3 ?_ m3
      have hw10 : w.toNat = 10 ↔ w = 10 := ⟨fun h => UInt8.toNat_inj.1 h, fun h => by rw [h]; rfl⟩
      rw [hbk]
      apply decide_eq_decide.2
      constructor
      · rintro (h | h)
        · omega
        · exact hw10.2 (by simpa using h)
      · intro h; exact .inr (by rw [hw10.1 h])
theorem Ends_c {H : Heap} {p pt : Option Addr} {c nt ct at_ : Nat} {l : List Nd} {bs : List UInt8} {Q : Value → Heap → Prop} {E : Chain → Heap → Prop} (hv : Vec H 7 p l.length c (flat l)) (hb : Byt H pt nt ct bs) (hn : nt ≤ 65536) (hat : at_ ≤ nt)
    (hk : ∀ H' p' c', Ext H H' → Vec H' 1 p' (endsOf l bs at_).length c' ((endsOf l bs at_).map natV) → Q (.slice p' (endsOf l bs at_).length c') H') : Does Pr 24 #[.slice p l.length c, .slice pt nt ct, .int .i64 (at_ : Nat)] H Q E := Ends_n (Vec.nds hv) hb hn hat hk
end Go.Proofs.Ytaffcoiomggpfaa
