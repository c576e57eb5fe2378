import Derived.Test.YtaffcoiomggpfaaVKind5
import Derived.Test.YtaffcoiomggpfaaVR08h
/- firstOf: the least number of bytes that match. -/
namespace Go.Proofs.Ytaffcoiomggpfaa
open Go.V
attribute [local irreducible] app
set_option linter.unusedVariables false

theorem feed_cons (st : List Nd) (anch : Bool) (c : Nat) (r : List Nat) (M : Ma) : feed st anch (c :: r) M = if 0 ≤ (M.matched st).found then M.matched st
    else if c = 10 ∧ (spread st (M.matched st).bol true (M.matched st).now).2 = true then { M.matched st with now := (spread st (M.matched st).bol true (M.matched st).now).1, found := (M.matched st).at_ + 1 }
    else feed st anch r (stepM st anch M c) := by
  unfold feed
  rw [feedL_cons]
  split
  · rw [matched_stop ‹_›]
  · split
    · rw [matched_stop (by dsimp only; omega)]
    · rfl
theorem cl_spread {st : List Nd} (hr : InR st) (bol eol : Bool) {l : List Nat} (ho : OkL st.length l) (q : Nat) : q ∈ (spread st bol eol l).1 ↔ Cl st bol eol (· ∈ l) q := spread_mem hr bol eol ho q
theorem rd_readL {st : List Nd} {c : Nat} (l : List Nat) (q : Nat) : q ∈ readL st c l ↔ Rd st c (· ∈ l) q := mem_readL l
theorem Rd.congr {st : List Nd} {c : Nat} {P P' : Nat → Prop} (h : ∀ q, P q ↔ P' q) (q : Nat) : Rd st c P q ↔ Rd st c P' q := by
  rw [show P = P' from funext fun q => propext (h q)]
theorem Cl.congr {st : List Nd} {bol eol : Bool} {P P' : Nat → Prop} (h : ∀ q, P q ↔ P' q) (q : Nat) : Cl st bol eol P q ↔ Cl st bol eol P' q := by
  rw [show P = P' from funext fun q => propext (h q)]
def Least (M : Nat → Prop) (i n : Nat) (F F0 : Int) : Prop := (F = F0 ∧ ∀ k, i ≤ k → k ≤ n → ¬ M k) ∨ ∃ k : Nat, i ≤ k ∧ k ≤ n ∧ F = (k : Nat) ∧ M k ∧ ∀ k', i ≤ k' → k' < k → ¬ M k'
theorem feed_spec {st : List Nd} {t : List Nat} (hr : InR st) (hpos : 0 < st.length) (h5 : ∀ j, j < st.length → ((st.getD j default).k = 5 ↔ j = 1)) : ∀ (r : List Nat) (i : Nat) (M : Ma), OkL st.length M.now → M.found < 0 → M.at_ = i →
    (M.bol = true ↔ bolAt t i) → t.drop i = r → i ≤ t.length → Trk st 1 t i (· ∈ M.now) → Old st 1 t i → Least (Mt st 1 t) i t.length (feed st false r M).found M.found := by
  intro r
  induction r with
  | nil =>
    intro i M ho hf ha hb ht hi hT hO
    have hlen : i = t.length := by
      have := congrArg List.length ht; simp at this; omega
    have hm : (M.matched st).found = if (spread st M.bol false M.now).2 = true then (M.at_ : Int) else M.found := by unfold Ma.matched; rw [if_pos hf]
    show Least _ i t.length (M.matched st).found M.found
    rw [hm]
    have h1 := spread_one hr h5 M.bol false ho
    by_cases hs : (spread st M.bol false M.now).2 = true
    · rw [if_pos hs]
      refine .inr ⟨i, by omega, by omega, by rw [ha], ?_, fun k' h1 h2 => by omega⟩
      exact hit_here hT hb ((cl_spread hr _ _ ho 1).1 (h1.1 hs))
    · rw [if_neg hs]
      refine .inl ⟨rfl, fun k h2 h3 => ?_⟩
      obtain rfl : k = i := by omega
      exact miss_here hO hT hb (fun h => hs (h1.2 ((cl_spread hr _ _ ho 1).2 h)))
  | cons c r ih =>
    intro i M ho hf ha hb ht hi hT hO
    have hc : t[i]? = some c := by
      have := congrArg (·[0]?) ht
      simpa using this
    have hlt : i < t.length := by
      rcases Nat.lt_or_ge i t.length with h | h
      · exact h
      · rw [List.getElem?_eq_none h] at hc; cases hc
    have hdr : t.drop (i + 1) = r := by
      have := congrArg List.tail ht
      simpa using this
    have h1 := spread_one hr h5 M.bol false ho
    have hm : (M.matched st).found = if (spread st M.bol false M.now).2 = true then (M.at_ : Int) else M.found := by unfold Ma.matched; rw [if_pos hf]
    have hmn : (M.matched st).now = (spread st M.bol false M.now).1 := by unfold Ma.matched; rw [if_pos hf]
    have hmb := (M.matched_at st).2
    have hma := (M.matched_at st).1
    have hok := matched_ok hr ho
    rw [feed_cons]
    by_cases hs : (spread st M.bol false M.now).2 = true
    · rw [if_pos hs] at hm
      rw [if_pos (by omega), hm]
      refine .inr ⟨i, by omega, by omega, by rw [ha], ?_, fun k' h1 h2 => by omega⟩
      exact hit_here hT hb ((cl_spread hr _ _ ho 1).1 (h1.1 hs))
    rw [if_neg hs] at hm
    rw [if_neg (by omega)]
    have hmiss : ¬ Mt st 1 t i := miss_here hO hT hb (fun h => hs (h1.2 ((cl_spread hr _ _ ho 1).2 h)))
    have hc2 : ∀ (e : Bool) q, q ∈ (spread st (M.matched st).bol e (M.matched st).now).1 ↔ Cl st M.bol e (· ∈ M.now) q := fun e q => by
      rw [cl_spread hr _ _ hok, hmb, hmn, Cl.congr (cl_spread hr M.bol false ho), Cl.twice (fun h => absurd h (by decide))]
    by_cases h10 : c = 10 ∧ (spread st (M.matched st).bol true (M.matched st).now).2 = true
    · rw [if_pos h10]
      refine .inr ⟨i + 1, by omega, by omega, ?_, ?_, fun k' h1 h2 => ?_⟩
      · show ((M.matched st).at_ : Int) + 1 = _
        rw [hma, ha]; omega
      · exact hit_eol (eol := true) hT hb (by rw [hc, h10.1]) ((hc2 true 1).1 ((spread_one hr h5 _ true hok).1 h10.2))
      · obtain rfl : k' = i := by omega
        exact hmiss
    rw [if_neg h10]
    obtain ⟨s1, s2, s3⟩ := stepM_facts hr hpos false c ho
    have hcl : ∀ q, q ∈ (if c = 10 then { M.matched st with now := (spread st (M.matched st).bol true (M.matched st).now).1 } else M.matched st : Ma).now ↔ Cl st M.bol (decide (c = 10)) (· ∈ M.now) q := fun q => by
      by_cases e : c = 10
      · rw [if_pos e, decide_eq_true e]; exact hc2 true q
      · rw [if_neg e, decide_eq_false e, hmn]; exact cl_spread hr _ _ ho q
    have hclo : OkL st.length (if c = 10 then { M.matched st with now := (spread st (M.matched st).bol true (M.matched st).now).1 } else M.matched st : Ma).now := by
      split
      · exact spread_ok hr _ _ hok
      · exact hok
    have hng : ¬ Cl st M.bol (decide (c = 10)) (· ∈ M.now) 1 := fun h => by
      by_cases e : c = 10
      · rw [decide_eq_true e] at h
        exact h10 ⟨e, (spread_one hr h5 _ true hok).2 ((hc2 true 1).2 h)⟩
      · rw [decide_eq_false e] at h
        exact hs (h1.2 ((cl_spread hr _ _ ho 1).2 h))
    have hbol : (stepM st false M c).bol = true ↔ bolAt t (i + 1) := by
      show decide (c = 10) = true ↔ _
      unfold bolAt
      rw [decide_eq_true_iff, show i + 1 - 1 = i from rfl, hc]
      constructor
      · intro h; exact .inr (by rw [h])
      · rintro (h | h)
        · omega
        · exact Option.some.inj h
    have hT' : Trk st 1 t (i + 1) (· ∈ (stepM st false M c).now) := by
      have hrd := readL_ok hr c _ hclo.2 [] (OkL.nil _)
      change OkL st.length (readL st c _) at hrd
      have hadd := hrd.add hpos
      have t1 : Trk st 1 t (i + 1) (· ∈ addL (readL st c (if c = 10 then { M.matched st with now := (spread st (M.matched st).bol true (M.matched st).now).1 } else M.matched st : Ma).now) 0) :=
        trk_step (bol := M.bol) (eol := decide (c = 10)) hT hb hc (by simp) fun q => by
          rw [mem_addL, rd_readL, Rd.congr hcl]
      refine trk_congr (trk_cl t1 hbol) fun q => ?_
      show q ∈ (spread st (decide (c = 10)) false (addL (readL st c _) 0)).1 ↔ _
      exact cl_spread hr _ _ hadd q
    have hO' : Old st 1 t (i + 1) := old_step hO hT hb hc (by simp) hng
    have := ih (i + 1) (stepM st false M c) s1 (by rw [s3, hm]; exact hf) (by rw [s2, ha]) hbol hdr (by omega) hT' hO'
    rw [s3, hm] at this
    rcases this with ⟨e, hn⟩ | ⟨k, k1, k2, k3, k4, k5⟩
    · refine .inl ⟨e, fun k h1 h2 => ?_⟩
      by_cases hk : k = i
      · subst hk; exact hmiss
      · exact hn k (by omega) h2
    · refine .inr ⟨k, by omega, k2, k3, k4, fun k' h1 h2 => ?_⟩
      by_cases hk : k' = i
      · subst hk; exact hmiss
      · exact k5 k' (by omega) h2
def Mn (l : List Nd) (t : List Nat) (n : Nat) : Prop := ∃ j, j ≤ n ∧ ∃ k, mean (t.take n) l l.length (l.length - 1) j k
theorem mt_mn (l : List Nd) (t : List Nat) (n : Nat) : Mt (buildOf l) 1 t n ↔ Mn l t n := by
  unfold Mt Mn
  constructor
  · rintro ⟨j, hj, k, m, ha⟩
    exact ⟨j, hj, k, (acc_build l j k).1 ⟨m, ha⟩⟩
  · rintro ⟨j, hj, k, hm⟩
    obtain ⟨m, ha⟩ := (acc_build l j k).2 hm
    exact ⟨j, hj, k, m, ha⟩
theorem feed_start {st : List Nd} {t : List Nat} (hr : InR st) (hpos : 0 < st.length) (h5 : ∀ j, j < st.length → ((st.getD j default).k = 5 ↔ j = 1)) :
    Least (Mt st 1 t) 0 t.length (feed st false t (startM st true)).found (-1) := by
  have h0 : OkL st.length [0] := ⟨by simp, fun j hj => by obtain rfl := List.mem_singleton.1 hj; exact hpos⟩
  have hb : ((startM st true).bol = true ↔ bolAt t 0) := ⟨fun _ => .inl rfl, fun _ => rfl⟩
  refine feed_spec hr hpos h5 t 0 (startM st true) (start_ok hr hpos true) (by show (-1 : Int) < 0; omega) rfl hb (by simp) (by omega) ?_ old_0
  refine trk_congr (trk_cl (trk_0 (P := (· ∈ [0])) fun q => List.mem_singleton) hb) fun q => ?_
  exact cl_spread hr _ _ h0 q
theorem firstOf_spec {l : List Nd} (bs : List UInt8) (hv : validOf l = true) : Least (Mn l (bs.map UInt8.toNat)) 0 bs.length (firstOf l bs) (-1) := by
  obtain ⟨hr, hlen, _, _⟩ := build_facts hv
  have := feed_start (t := bs.map UInt8.toNat) hr (by omega) (build_five l)
  rw [firstOf_feed hv, show Mn l (bs.map UInt8.toNat) = Mt (buildOf l) 1 (bs.map UInt8.toNat) from funext fun n => propext (mt_mn l _ n).symm]
  rw [List.length_map] at this
  exact this
theorem Least.unique {M : Nat → Prop} {i n : Nat} {F F' F0 : Int} (h : Least M i n F F0) (h' : Least M i n F' F0) : F = F' := by
  rcases h with ⟨e, hn⟩ | ⟨k, k1, k2, k3, k4, k5⟩ <;> rcases h' with ⟨e', hn'⟩ | ⟨k', k1', k2', k3', k4', k5'⟩
  · rw [e, e']
  · exact absurd k4' (hn k' k1' k2')
  · exact absurd k4 (hn' k k1 k2)
  · rw [k3, k3']
    rcases Nat.lt_trichotomy k k' with h | h | h
    · exact absurd k4 (k5' k k1 h)
    · rw [h]
    · exact absurd k4' (k5 k' k1' h)
end Go.Proofs.Ytaffcoiomggpfaa

/- Relations between places: package r09 (4): root, First. -/
namespace Go.Proofs.Ytaffcoiomggpfaa
open Go.V
attribute [local irreducible] app
set_option linter.constructorNameAsVariable false
set_option linter.unusedVariables false

theorem sl134 : SlT Pr 134 1 := .of (by kernel_rfl)
def AllR (H0 HB H : Heap) (p : OA) (m c N : Nat) (ps : Nat → OA) (cs : Nat → Nat) (M : Nat → Nat → Nat → Prop) : Prop :=
  Ext H0 HB ∧ Ext HB H ∧ Vec H 1 p m c ((List.range m).map fun i => Value.slice (ps i) N (cs i)) ∧ (∀ j, blk p j → HB j = none) ∧ ∀ i, i < m → RelH HB (ps i) N (cs i) (M i)
theorem AllR.get {H0 HB H : Heap} {p : OA} {m c N i : Nat} {ps : Nat → OA} {cs : Nat → Nat} {M : Nat → Nat → Nat → Prop} {K : OA → Nat → Nat → Prop} (h : AllR H0 HB H p m c N ps cs M) {H' : Heap} (he : Ext H H') (hi : i < m)
    (hK : K (ps i) N (cs i)) : (0 ≤ (i : Int) ∧ (i : Int) < ((m : Nat) : Int)) ∧ ptr p fun q => ldSl (Addr.add q ((i : Int).toNat * 1)) H' K := by
  refine ⟨⟨by omega, by omega⟩, ?_⟩
  obtain ⟨b, t, cc, rfl, q, g⟩ := vec_at1 (h.2.2.1.ext he) (n := i) (v := .slice (ps i) N (cs i)) (by simp [hi])
  simp only [ptr_some, add_at, Int.toNat_natCast, Nat.mul_one, Nat.zero_add]
  exact ldSl_at q g hK
theorem AllR.rel {H0 HB H : Heap} {p : OA} {m c N i : Nat} {ps : Nat → OA} {cs : Nat → Nat} {M : Nat → Nat → Nat → Prop} (h : AllR H0 HB H p m c N ps cs M) {H' : Heap} (he : Ext H H') (hi : i < m) : RelH H' (ps i) N (cs i) (M i) :=
  (h.2.2.2.2 i hi).ext (h.2.1.trans he)
theorem AllR.push {H0 HB H H3 H4 : Heap} {p p' : OA} {m c N c' : Nat} {ps : Nat → OA} {cs : Nat → Nat} {M : Nat → Nat → Nat → Prop} {ad : Nat → Nat} {R : Nat → Nat → Prop} {K : OA → Nat → Nat → Heap → Prop}
    (h : AllR H0 HB H p m c N ps cs M) (he : Ext H H3) (hr : RelA H3 H4 p' N N c' ad R) (hm : m < 65536) (hR : ∀ i k, i < N → k < N → (R i k ↔ M m i k))
    (hk : ∀ p2 c2 HB' H' ps' cs', AllR H0 HB' H' p2 (m + 1) c2 N ps' cs' M → K p2 (m + 1) c2 H') :
    nw (.cells #[.slice p' N c'] 79 (0, 0)) H4 fun i H5 => app Pr 134 p m c (.slice (some ⟨i, 0, none⟩) 1 1) H5 K := by
  obtain ⟨h1, h2, h3, h4, h5⟩ := h
  obtain ⟨r1, r2, r3, r4, r5⟩ := id hr
  have hx : Ext H H4 := he.trans r1
  have base1 : Ext HB (beside HB H3 H4) := fun q o hq => by
    rw [beside_some (by rw [hq]; simp)]
    exact hx q o (h2 q o hq)
  have base2 : Ext (beside HB H3 H4) H4 := beside_ext _ _ _
  have hnew : RelH (beside HB H3 H4) p' N c' R :=
    ⟨ad, r2.keep fun j hj _ => beside_free (r5 j hj), fun i hi => by rw [beside_free (r3 i hi).2.1]; exact (r3 i hi).1⟩
  refine nw_ext fun q H5 hq he5 hc5 => ?_
  refine app_one (sz := 1) (ws := [.slice p' N c']) sl134 ((h3.ext hx).ext he5) hc5 rfl rfl (by omega) (by omega) fun p2 c2 H6 hv6 hs6 hb6 => ?_
  have hfb : ∀ j, blk p j → (beside HB H3 H4) j = none := fun j hj => beside_priv (h4 j hj) (fun e => (h3.ext he).known hj e)
  refine hk p2 c2 (beside HB H3 H4) H6 (fun i => if i = m then p' else ps i) (fun i => if i = m then c' else cs i) ⟨h1.trans base1, ext_app (base2.trans he5) hfb hs6, ?_, fresh_app (base2.trans he5) hfb hb6, fun i hi => ?_⟩
  · have : ((List.range (m + 1)).map fun i => Value.slice (if i = m then p' else ps i) N (if i = m then c' else cs i)) = ((List.range m).map fun i => Value.slice (ps i) N (cs i)) ++ [.slice p' N c'] := by
      rw [List.range_succ, List.map_append]
      congr 1
      · refine List.map_congr_left fun j hj => ?_
        rw [List.mem_range] at hj
        simp only [if_neg (show ¬ j = m by omega)]
      · simp
    rw [this]; exact hv6
  · dsimp only
    by_cases e : i = m
    · subst e; simp only [if_true]; exact hnew.congr hR
    · simp only [if_neg e]; exact (h5 i (by omega)).ext base1
end Go.Proofs.Ytaffcoiomggpfaa

/- endsOf: the places to which the pattern leads. -/
namespace Go.Proofs.Ytaffcoiomggpfaa
open Go.V
attribute [local irreducible] app
set_option linter.unusedVariables false

end Go.Proofs.Ytaffcoiomggpfaa

/- Contracts of package jobmuxref08 (2): the parser's small functions, classes, lists of nodes. -/
namespace Go.Proofs.Ytaffcoiomggpfaa
open Go.V
attribute [local irreducible] app
set_option linter.constructorNameAsVariable false
set_option linter.unusedVariables false

structure PS where
  s : ByteArray
  at_ : Nat
  deep : Nat
  e : Int
namespace PS
def cells (q : PS) : Array Value := #[.string q.s, .int .i64 q.at_, .int .i64 q.deep, .int .i64 q.e]
def fail (q : PS) (e : Int) : PS := if q.e = 0 then { q with e := e } else q
def inc (q : PS) : PS := { q with at_ := q.at_ + 1 }
def more (q : PS) : Bool := decide (q.e = 0) && decide (q.at_ < q.s.size)
def byte (q : PS) : Nat := byteAt q.s q.at_
def escape8 (q : PS) : S4 × Bool × PS :=
  if q.s.size ≤ q.at_ then (S4.zero, false, q.fail 82)
  else match named8 q.byte with
    | (s, x, y) => (s, x, (if y = true then q else q.fail 82).inc)
def single8 (q : PS) : S4 × Bool × PS :=
  if q.byte = 92 then q.inc.escape8 else if q.byte = 94 ∨ q.byte = 45 ∨ q.byte = 93 then (S4.zero, false, q.inc.fail 80) else (S4.zero.with1 q.byte, true, q.inc)
def element8 (q : PS) : S4 × PS :=
  match q.single8 with
  | (a, one, q1) =>
    if q1.more = true ∧ q1.byte = 45 then
      if one = false ∨ q1.s.size ≤ q1.at_ + 1 then (a, q1.inc.fail 80)
      else match q1.inc.single8 with
        | (b, two, q3) => (S4.zero.with_ (only8 a) (only8 b), if q3.e = 0 ∧ (two = false ∨ only8 b < only8 a) then q3.fail 80 else q3)
    else (a, q1)
def classLoop8 : Nat → Bool → Nat → S4 → PS → S4 × PS
  | 0, _, _, s, q => (s, q)
  | f + 1, neg, n, s, q =>
    if q.more = true then
      if q.byte = 93 then (if neg = true then s.not else s, (if n = 0 then q.fail 80 else q).inc)
      else match q.element8 with
        | (x, q1) => classLoop8 f neg (n + 1) (s.or x) q1
    else (s, q.fail 80)
def class8 (q : PS) : S4 × PS :=
  let neg := q.more && decide (q.byte = 94)
  classLoop8 (q.s.size + 28) neg 0 S4.zero (if neg = true then q.inc else q)
structure Mo (q q' : PS) : Prop where
  s : q'.s = q.s
  at_ : q.at_ ≤ q'.at_
  deep : q.deep ≤ q'.deep
theorem Mo.refl (q : PS) : Mo q q := ⟨rfl, Nat.le_refl _, Nat.le_refl _⟩
theorem Mo.trans {a b c : PS} (h : Mo a b) (g : Mo b c) : Mo a c := ⟨g.s.trans h.s, Nat.le_trans h.at_ g.at_, Nat.le_trans h.deep g.deep⟩
theorem Mo.fail (q : PS) (e : Int) : Mo q (q.fail e) := by unfold PS.fail; split <;> exact ⟨rfl, Nat.le_refl _, Nat.le_refl _⟩
theorem Mo.inc (q : PS) : Mo q q.inc := ⟨rfl, Nat.le_succ _, Nat.le_refl _⟩
theorem fail_at (q : PS) (e : Int) : (q.fail e).at_ = q.at_ ∧ (q.fail e).s = q.s ∧ (q.fail e).deep = q.deep := by unfold PS.fail; split <;> exact ⟨rfl, rfl, rfl⟩
theorem fail_e (q : PS) {e : Int} (he : e ≠ 0) : (q.fail e).e ≠ 0 := by
  unfold PS.fail
  by_cases h : q.e = 0
  · rw [if_pos h]; exact he
  · rw [if_neg h]; exact h
theorem more_iff {q : PS} : q.more = true ↔ q.e = 0 ∧ q.at_ < q.s.size := by simp [PS.more]
theorem escape8_mo (q : PS) : Mo q q.escape8.2.2 := by
  unfold PS.escape8
  split
  · exact Mo.fail _ _
  · split
    rename_i s x y _
    cases y
    · exact (Mo.fail _ _).trans (Mo.inc _)
    · exact Mo.inc _
theorem single8_mo (q : PS) : Mo q q.single8.2.2 ∧ q.at_ < q.single8.2.2.at_ := by
  unfold PS.single8
  split
  · have := escape8_mo q.inc
    exact ⟨(Mo.inc q).trans this, Nat.lt_of_lt_of_le (Nat.lt_succ_self _) this.at_⟩
  · split
    · exact ⟨(Mo.inc q).trans (Mo.fail _ _), by rw [(fail_at q.inc 80).1]; exact Nat.lt_succ_self _⟩
    · exact ⟨Mo.inc q, Nat.lt_succ_self _⟩
theorem element8_mo (q : PS) : Mo q q.element8.2 ∧ q.at_ < q.element8.2.at_ := by
  have h := single8_mo q
  unfold PS.element8
  revert h
  generalize q.single8 = R
  obtain ⟨a, one, q1⟩ := R
  intro h
  dsimp only at h ⊢
  split
  · have h1 := h.1.trans (Mo.inc q1)
    have h2 : q.at_ < q1.inc.at_ := Nat.lt_trans h.2 (Nat.lt_succ_self _)
    split
    · exact ⟨h1.trans (Mo.fail _ _), Nat.lt_of_lt_of_le h2 (Mo.fail _ _).at_⟩
    · have h3 := (single8_mo q1.inc).1
      revert h3
      generalize q1.inc.single8 = R
      obtain ⟨b, two, q3⟩ := R
      intro h3
      dsimp only at h3 ⊢
      split
      · exact ⟨(h1.trans h3).trans (Mo.fail _ _), Nat.lt_of_lt_of_le h2 (h3.trans (Mo.fail _ _)).at_⟩
      · exact ⟨h1.trans h3, Nat.lt_of_lt_of_le h2 h3.at_⟩
  · exact h
theorem classLoop8_mo : ∀ (f : Nat) (neg : Bool) (n : Nat) (s : S4) (q : PS), Mo q (classLoop8 f neg n s q).2
  | 0, _, _, _, q => Mo.refl q
  | f + 1, neg, n, s, q => by
    unfold classLoop8
    split
    · split
      · dsimp only
        split
        · exact (Mo.fail _ _).trans (Mo.inc _)
        · exact Mo.inc _
      · have h := (element8_mo q).1
        revert h
        generalize q.element8 = R
        obtain ⟨x, q1⟩ := R
        intro h
        exact h.trans (classLoop8_mo f neg _ _ _)
    · exact Mo.fail _ _
theorem class8_mo (q : PS) : Mo q q.class8.2 := by
  unfold PS.class8
  dsimp only
  split
  · exact (Mo.inc q).trans (classLoop8_mo _ _ _ _ _)
  · exact classLoop8_mo _ _ _ _ _
end PS

def Exb (b : Nat) (H H' : Heap) : Prop := ∀ j o, j ≠ b → H j = some o → H' j = some o
theorem Exb.refl (b : Nat) (H : Heap) : Exb b H H := fun _ _ _ h => h
theorem Exb.trans {b : Nat} {A B C : Heap} (h : Exb b A B) (g : Exb b B C) : Exb b A C := fun j o hj x => g j o hj (h j o hj x)
theorem _root_.Go.V.Ext.exb {H H' : Heap} (h : Ext H H') (b : Nat) : Exb b H H' := fun j o _ x => h j o x
theorem Exb.upd {b : Nat} {H H' : Heap} (h : Exb b H H') (o : Obj) : Exb b H (H'.set b o) := fun j x hj hx => by rw [Heap.set_ne _ _ hj]; exact h j x hj hx
theorem Exb.set {b i : Nat} {H H' : Heap} (h : Exb b H H') (hi : H i = none) (o : Obj) : Exb b H (H'.set i o) := fun j x hj hx => by
  rw [Heap.set_ne _ _ (fun e => by rw [e, hi] at hx; cases hx)]; exact h j x hj hx
def PSs (H : Heap) (b : Nat) (q : PS) : Prop :=
  q.s.size ≤ 4096 ∧ q.at_ + q.deep ≤ q.s.size + 26 ∧ (q.e = 0 → q.at_ ≤ q.s.size ∧ q.deep ≤ 24) ∧ H b = some (.cells q.cells 83 (0, 0))
section
variable {H : Heap} {b : Nat} {q : PS} {Q : QT} {E : ET}
theorem PSs.ext {H' : Heap} (h : PSs H b q) (he : Ext H H') : PSs H' b q := ⟨h.1, h.2.1, h.2.2.1, he _ _ h.2.2.2⟩
theorem PSs.other {i : Nat} {o : Obj} (h : PSs H b q) (hi : b ≠ i) : PSs (H.set i o) b q := ⟨h.1, h.2.1, h.2.2.1, by rw [Heap.set_ne _ _ hi]; exact h.2.2.2⟩
theorem PSs.ne {i : Nat} (h : PSs H b q) (hi : H i = none) : b ≠ i := ne_of h.2.2.2 hi
theorem PSs.ldAt {K : Int → Prop} (h : PSs H b q) (hk : K (q.at_ : Nat)) : ldI .i64 (Addr.add ⟨b, 0, none⟩ 1) H K := by rw [add_at]; exact ldI_at (n := (q.at_ : Nat)) h.2.2.2 rfl hk
theorem PSs.ldDeep {K : Int → Prop} (h : PSs H b q) (hk : K (q.deep : Nat)) : ldI .i64 (Addr.add ⟨b, 0, none⟩ 2) H K := by rw [add_at]; exact ldI_at (n := (q.deep : Nat)) h.2.2.2 rfl hk
theorem PSs.ldE {K : Int → Prop} (h : PSs H b q) (hk : K q.e) : ldI .i64 (Addr.add ⟨b, 0, none⟩ 3) H K := by rw [add_at]; exact ldI_at (n := q.e) h.2.2.2 rfl hk
theorem PSs.ldStr {K : ByteArray → Prop} (h : PSs H b q) (hk : K q.s) : ldS ⟨b, 0, none⟩ H K := ldS_at (n := q.s) h.2.2.2 rfl hk
theorem PSs.incS {K : Heap → Prop} (h : PSs H b q) (h1 : q.at_ + 1 + q.deep ≤ q.s.size + 26) (h2 : q.e = 0 → q.at_ < q.s.size)
    (hk : ∀ H', PSs H' b q.inc → Exb b H H' → K H') : wr (Addr.add ⟨b, 0, none⟩ 1) [.int .i64 (IntKind.wrap .i64 ((q.at_ : Nat) + 1))] H K := by
  obtain ⟨a1, a2, a3, a4⟩ := h
  rw [add_at]
  have hw : IntKind.wrap .i64 (((q.at_ : Nat) : Int) + 1) = ((q.at_ + 1 : Nat) : Int) := by rw [IntWalk.i64_in _ (by omega)]; omega
  rw [hw]
  refine wr_at a4 (by simp [PS.cells]) rfl (hk _ ⟨a1, by simpa [PS.inc] using h1, fun he => ⟨h2 he, (a3 he).2⟩, Heap.set_self _ _ _⟩ ((Exb.refl _ _).upd _))
theorem pfail_c {e : Int} (he : e ≠ 0) (h : PSs H b q) (hk : ∀ H', PSs H' b (q.fail e) → Exb b H H' → Q (.tuple #[]) H') : Does Pr 57 #[.pointer (some ⟨b, 0, none⟩), .int .i64 e] H Q E := by
  refine zqd_fn _ _ Q E H ?_
  unfold zqd
  simp only [ptr_some]
  refine h.ldE (sel_beq (fun h0 => ?_) (fun h0 => ?_))
  · obtain ⟨a1, a2, a3, a4⟩ := h
    have hf : q.fail e = { q with e := e } := if_pos h0
    rw [hf] at hk
    rw [add_at]
    exact wr_at a4 (by simp [PS.cells]) rfl (hk _ ⟨a1, a2, fun h => absurd h he, Heap.set_self _ _ _⟩ ((Exb.refl _ _).upd _))
  · have hf : q.fail e = q := if_neg h0
    rw [hf] at hk
    exact hk _ h (Exb.refl _ _)
theorem more_c (h : PSs H b q) (hk : Q (.bool q.more) H) : Does Pr 90 #[.pointer (some ⟨b, 0, none⟩)] H Q E := by
  refine zqg_fn _ Q E H ?_
  unfold zqg
  simp only [ptr_some]
  refine h.ldE (sel_beq (fun h0 => ?_) (fun h0 => ?_))
  · refine h.ldAt (h.ldStr ?_)
    have e : q.more = decide (((q.at_ : Nat) : Int) < (q.s.size : Nat)) := by unfold PS.more; rw [decide_eq_true h0]; simp
    rwa [e] at hk
  · have e : q.more = false := by unfold PS.more; rw [decide_eq_false h0]; rfl
    rwa [e] at hk
theorem escape8_c (h : PSs H b q) (h0 : q.e = 0) (hk : ∀ H' s x q', q.escape8 = (s, x, q') → PSs H' b q' → Exb b H H' → Q (.tuple #[.agg s.cells, .bool x]) H') : Does Pr 109 #[.pointer (some ⟨b, 0, none⟩)] H Q E := by
  refine zqo_fn _ Q E H ?_
  unfold zqo
  refine nw_ext fun i H1 hi he1 hc1 => ?_
  have hc1 : H1 i = some (cs S4.zero) := hc1
  have hbi := h.ne hi
  have h1 := h.ext he1
  have hib : i ≠ b := Ne.symm hbi
  obtain ⟨g1, g2, g3, g4⟩ := id h
  unfold zqo_9
  simp only [ptr_some]
  refine h1.ldAt (h1.ldStr (sel_dec (fun hd => ?_) (fun hd => ?_)))
  · refine pfail_c (by decide) h1 fun H2 h2 hx2 => ?_
    refine S4.wr S4.zero (hx2 _ _ hib hc1) ⟨_, _, _, _, S4.rd (s := S4.zero) (Heap.set_self _ _ _), ?_⟩
    exact hk _ S4.zero false (q.fail 82) (by unfold PS.escape8; rw [if_pos (by omega)]) (h2.other hbi) (((he1.exb b).trans hx2).set hi _)
  · have hlt : q.at_ < q.s.size := by omega
    unfold zqo_6
    simp only [ptr_some]
    refine h1.ldStr (h1.ldAt ⟨⟨by omega, by omega⟩, ?_⟩)
    rw [sAt_nat]
    refine named8_c (byteAt_le _ _) fun H2 s x y he2 hn => ⟨_, _, _, _, _, _, rfl, ?_⟩
    have h2 := h1.ext he2
    refine nw_ext fun j H3 hj he3 hc3 => ?_
    have hc3 : H3 j = some (cs S4.zero) := hc3
    have hbj := h2.ne hj
    have hij : i ≠ j := ne_of (he2 _ _ hc1) hj
    refine S4.wr s hc3 ?_
    have h4 : PSs (H3.set j (cs s)) b q := (h2.ext he3).other hbj
    have hj4 : (H3.set j (cs s)) j = some (cs s) := Heap.set_self _ _ _
    have hi4 : (H3.set j (cs s)) i = some (cs S4.zero) := by rw [Heap.set_ne _ _ hij]; exact he3 _ _ (he2 _ _ hc1)
    have hx4 : Exb b H (H3.set j (cs s)) := (((he1.trans he2).trans he3).set ((he1.trans he2).free hj) _).exb b
    change zqo_3 _ _ _ _ _ _ _ (H3.set j (cs s))
    revert h4 hj4 hi4 hx4
    generalize H3.set j (cs s) = H4
    intro h4 hj4 hi4 hx4
    have fin : ∀ (q1 : PS) (H5 : Heap), (if y = true then q else q.fail 82) = q1 → PSs H5 b q1 → Exb b H4 H5 → zqo_1 Q E (some ⟨b, 0, none⟩) (some ⟨i, 0, none⟩) (some ⟨j, 0, none⟩) x H5 := by
      intro q1 H5 hq h5 hx5
      have hq1 : q1.at_ = q.at_ ∧ q1.s = q.s ∧ q1.deep = q.deep := by
        rw [← hq]; split
        · exact ⟨rfl, rfl, rfl⟩
        · exact PS.fail_at q 82
      unfold zqo_1
      simp only [ptr_some]
      refine h5.ldAt (h5.incS (by have := (g3 h0).2; rw [hq1.1, hq1.2.1, hq1.2.2]; omega) (fun _ => by rw [hq1.1, hq1.2.1]; exact hlt) fun H6 h6 hx6 => ?_)
      refine ⟨_, _, _, _, S4.rd (hx6 _ _ (Ne.symm hbj) (hx5 _ _ (Ne.symm hbj) hj4)), ?_⟩
      refine S4.wr s (hx6 _ _ hib (hx5 _ _ hib hi4)) ⟨_, _, _, _, S4.rd (s := s) (Heap.set_self _ _ _), ?_⟩
      exact hk _ s x q1.inc (by unfold PS.escape8; rw [if_neg (by omega)]; unfold PS.byte; rw [hn]; dsimp only; rw [hq]) (h6.other hbi) (((hx4.trans hx5).trans hx6).set hi _)
    unfold zqo_3
    refine sel_not (fun hy => ?_) (fun hy => ?_)
    · exact pfail_c (by decide) h4 fun H5 h5 hx5 => fin _ H5 (by rw [if_neg (by simp [hy])]) h5 hx5
    · exact fin q H4 (by rw [if_pos hy]) h4 (Exb.refl _ _)
theorem single8_c (h : PSs H b q) (h0 : q.e = 0) (hlt : q.at_ < q.s.size) (hk : ∀ H' s x q', q.single8 = (s, x, q') → PSs H' b q' → Exb b H H' → Q (.tuple #[.agg s.cells, .bool x]) H') : Does Pr 124 #[.pointer (some ⟨b, 0, none⟩)] H Q E := by
  refine zqv1_fn _ Q E H ?_
  unfold zqv1
  refine nw_ext fun i H1 hi he1 hc1 => ?_
  have hc1 : H1 i = some (cs S4.zero) := hc1
  have hbi := h.ne hi
  have h1 := h.ext he1
  have hib : i ≠ b := Ne.symm hbi
  obtain ⟨g1, g2, g3, g4⟩ := id h
  unfold zqv1_23
  simp only [ptr_some]
  refine h1.ldStr (h1.ldAt ⟨⟨by omega, by omega⟩, ?_⟩)
  rw [sAt_nat]
  unfold zqv1_20 zqv1_16 zqv1_12 zqv1_10
  simp only [ptr_some]
  refine h1.ldAt (h1.incS (by have := (g3 h0).2; omega) (fun _ => hlt) fun H2 h2 hx2 => ?_)
  have hbyte : byteAt q.s q.at_ = q.byte := rfl
  have hb255 : q.byte ≤ 255 := byteAt_le _ _
  rw [hbyte]
  have hc2 := hx2 _ _ hib hc1
  have hxx := (he1.exb b).trans hx2
  refine sel_beq (fun hc => ?_) (fun hc => ?_)
  · unfold zqv1_3
    refine escape8_c h2 h0 fun H3 s x q3 hq3 h3 hx3 => ⟨_, _, _, _, _, rfl, ?_⟩
    simp only [ptr_some]
    refine S4.wr s (hx3 _ _ hib hc2) ⟨_, _, _, _, S4.rd (s := s) (Heap.set_self _ _ _), ?_⟩
    exact hk _ s x q3 (by unfold PS.single8; rw [if_pos (by omega), hq3]) (h3.other hbi) ((hxx.trans hx3).set hi _)
  · have bad : (q.byte = 94 ∨ q.byte = 45 ∨ q.byte = 93) → zqv1_5 Q E (some ⟨b, 0, none⟩) (some ⟨i, 0, none⟩) (q.byte : Nat) true H2 := by
      intro hbad
      unfold zqv1_5
      refine sel_tt (pfail_c (by decide) h2 fun H3 h3 hx3 => ?_)
      simp only [ptr_some]
      refine S4.wr S4.zero (hx3 _ _ hib hc2) ⟨_, _, _, _, S4.rd (s := S4.zero) (Heap.set_self _ _ _), ?_⟩
      exact hk _ S4.zero false (q.inc.fail 80) (by unfold PS.single8; rw [if_neg (by omega), if_pos hbad]) (h3.other hbi) ((hxx.trans hx3).set hi _)
    unfold zqv1_7
    refine sel_mk (fun h94 => ?_) (fun h94 => ?_)
    · rw [h94]; exact bad (.inl (by have h : (q.byte : Int) = 94 := (by simpa using h94); omega))
    refine sel_mk (fun h45 => ?_) (fun h45 => ?_)
    · rw [h45]; exact bad (.inr (.inl (by have : (q.byte : Int) = 45 := by simpa using h45
                                          omega)))
    cases h93 : ((q.byte : Int) == 93) with
    | true => exact bad (.inr (.inr (by have : (q.byte : Int) = 93 := by simpa using h93
                                        omega)))
    | false =>
      have h94 : (q.byte : Int) ≠ 94 := by simpa using h94
      have h45 : (q.byte : Int) ≠ 45 := by simpa using h45
      have h93 : (q.byte : Int) ≠ 93 := by simpa using h93
      unfold zqv1_5
      refine sel_ff ?_
      unfold zqv1_1
      refine With_c (s := S4.zero) hb255 fun H3 he3 => ⟨_, _, _, _, rfl, ?_⟩
      simp only [ptr_some]
      refine S4.wr (S4.zero.with1 q.byte) (he3 _ _ hc2) ⟨_, _, _, _, S4.rd (s := S4.zero.with1 q.byte) (Heap.set_self _ _ _), ?_⟩
      exact hk _ _ true q.inc (by unfold PS.single8; rw [if_neg (by omega), if_neg (by omega)]) ((h2.ext he3).other hbi) ((hxx.trans (he3.exb b)).set hi _)
end
end Go.Proofs.Ytaffcoiomggpfaa

/- Contracts of package jobmuxref08 (3): classes. -/
namespace Go.Proofs.Ytaffcoiomggpfaa
open Go.V
attribute [local irreducible] app
set_option linter.constructorNameAsVariable false
set_option linter.unusedVariables false
variable {H : Heap} {b : Nat} {q : PS} {Q : QT} {E : ET}

theorem element8_c (h : PSs H b q) (h0 : q.e = 0) (hlt : q.at_ < q.s.size) (hk : ∀ H' s q', q.element8 = (s, q') → PSs H' b q' → Exb b H H' → Q (.agg s.cells) H') : Does Pr 118 #[.pointer (some ⟨b, 0, none⟩)] H Q E := by
  refine zqs_fn _ Q E H ?_
  unfold zqs
  refine nw_ext fun i H1 hi he1 hc1 => ?_
  have hc1 : H1 i = some (cs S4.zero) := hc1
  have hbi := h.ne hi
  have h1 := h.ext he1
  have hib : i ≠ b := Ne.symm hbi
  obtain ⟨g1, g2, g3, g4⟩ := id h
  unfold zqs_27
  refine single8_c h1 h0 hlt fun H2 a one q1 hq1 h2 hx2 => ⟨_, _, _, _, _, rfl, ?_⟩
  refine nw_ext fun j H3 hj he3 hc3 => ?_
  have hc3 : H3 j = some (cs S4.zero) := hc3
  have hbj := h2.ne hj
  have hjb : j ≠ b := Ne.symm hbj
  have hij : i ≠ j := ne_of (hx2 _ _ hib hc1) hj
  refine S4.wr a hc3 ?_
  have h4 : PSs (H3.set j (cs a)) b q1 := (h2.ext he3).other hbj
  have hj4 : (H3.set j (cs a)) j = some (cs a) := Heap.set_self _ _ _
  have hi4 : (H3.set j (cs a)) i = some (cs S4.zero) := by rw [Heap.set_ne _ _ hij]; exact he3 _ _ (hx2 _ _ hib hc1)
  have hj0 : H j = none := by
    cases hh : H j with
    | none => rfl
    | some o => rw [hx2 _ _ hjb (he1 _ _ hh)] at hj; cases hj
  have hx4 : Exb b H (H3.set j (cs a)) := (((he1.exb b).trans hx2).trans (he3.exb b)).set hj0 _
  change zqs_23 _ _ _ _ _ _ (H3.set j (cs a))
  revert h4 hj4 hi4 hx4
  generalize H3.set j (cs a) = H4
  intro h4 hj4 hi4 hx4
  have hmo := PS.single8_mo q
  rw [hq1] at hmo
  dsimp only at hmo
  -- the end: a set is returned
  have ret : ∀ (s : S4) (q' : PS) (H5 : Heap), q.element8 = (s, q') → PSs H5 b q' → Exb b H4 H5 → wr ⟨i, 0, none⟩ [.int .u64 s.a, .int .u64 s.b, .int .u64 s.c, .int .u64 s.d] H5 fun H6 =>
      ∃ n1 n2 n3 n4 : Int, H6.rd ⟨i, 0, none⟩ 0 [(.int .u64 n1), (.int .u64 n2), (.int .u64 n3), (.int .u64 n4)] ∧ Q (.agg #[(.int .u64 n1), (.int .u64 n2), (.int .u64 n3), (.int .u64 n4)]) H6 := by
    intro s q' H5 hq' h5 hx5
    exact S4.wr s (hx5 _ _ hib hi4) ⟨_, _, _, _, S4.rd (s := s) (Heap.set_self _ _ _), hk _ s q' hq' (h5.other hbi) ((hx4.trans hx5).set hi _)⟩
  have no : ¬ (q1.more = true ∧ q1.byte = 45) → zqs_21 Q E (some ⟨b, 0, none⟩) (some ⟨i, 0, none⟩) (some ⟨j, 0, none⟩) one true H4 := by
    intro hno
    unfold zqs_21
    refine sel_tt ?_
    simp only [ptr_some]
    refine ⟨_, _, _, _, S4.rd hj4, ret a q1 H4 ?_ h4 (Exb.refl _ _)⟩
    unfold PS.element8; rw [hq1]; dsimp only; rw [if_neg hno]
  unfold zqs_23
  refine more_c h4 ⟨_, rfl, sel_not (fun hm => no (by simp [hm])) (fun hm => ?_)⟩
  obtain ⟨m1, m2⟩ := PS.more_iff.1 hm
  simp only [ptr_some]
  refine h4.ldStr (h4.ldAt ⟨⟨by omega, by omega⟩, ?_⟩)
  rw [sAt_nat]
  have hbyte : byteAt q1.s q1.at_ = q1.byte := rfl
  rw [hbyte]
  cases h45 : ((q1.byte : Int) != 45) with
  | true => exact no (by have : (q1.byte : Int) ≠ 45 := by simpa using h45
                         intro h; omega)
  | false =>
    have h45 : q1.byte = 45 := by
      have : (q1.byte : Int) = 45 := by simpa using h45
      omega
    have hel : q.element8 = if one = false ∨ q1.s.size ≤ q1.at_ + 1 then (a, q1.inc.fail 80)
      else match q1.inc.single8 with
        | (b, two, q3) => (S4.zero.with_ (only8 a) (only8 b), if q3.e = 0 ∧ (two = false ∨ only8 b < only8 a) then q3.fail 80 else q3) := by
      unfold PS.element8; rw [hq1]; dsimp only; rw [if_pos ⟨hm, h45⟩]
    unfold zqs_21
    refine sel_ff ?_
    unfold zqs_18
    simp only [ptr_some]
    refine h4.ldAt (h4.incS (by have := h4.2.2.1 m1; omega) (fun _ => m2) fun H5 h5 hx5 => ?_)
    -- a fault
    have bad : (one = false ∨ q1.s.size ≤ q1.at_ + 1) → zqs_12 Q E (some ⟨b, 0, none⟩) (some ⟨i, 0, none⟩) (some ⟨j, 0, none⟩) true H5 := by
      intro hb
      unfold zqs_12
      refine sel_tt (pfail_c (by decide) h5 fun H6 h6 hx6 => ?_)
      simp only [ptr_some]
      refine ⟨_, _, _, _, S4.rd (hx6 _ _ hjb (hx5 _ _ hjb hj4)), ret a _ H6 (by rw [hel, if_pos hb]) h6 (hx5.trans hx6)⟩
    unfold zqs_14
    refine sel_not (fun hone => bad (.inl hone)) (fun hone => ?_)
    simp only [ptr_some]
    refine h5.ldAt (h5.ldStr ?_)
    cases hsz : decide (((q1.inc.at_ : Nat) : Int) ≥ ((q1.inc.s.size : Nat) : Int)) with
    | true => exact bad (.inr (by have := of_decide_eq_true hsz; simp only [PS.inc] at this; omega))
    | false =>
      have hsz : q1.at_ + 1 < q1.s.size := by have := of_decide_eq_false hsz; simp only [PS.inc] at this; omega
      rw [if_neg (by rw [hone]; simp; omega)] at hel
      unfold zqs_12
      refine sel_ff ?_
      unfold zqs_9
      refine single8_c h5 m1 hsz fun H6 c two q3 hq3 h6 hx6 => ⟨_, _, _, _, _, rfl, ?_⟩
      rw [hq3] at hel
      dsimp only at hel
      refine nw_ext fun k H7 hk7 he7 hc7 => ?_
      have hc7 : H7 k = some (cs S4.zero) := hc7
      have hbk := h6.ne hk7
      have hkb : k ≠ b := Ne.symm hbk
      have hj6 := hx6 _ _ hjb (hx5 _ _ hjb hj4)
      have hi6 := hx6 _ _ hib (hx5 _ _ hib hi4)
      have hjk : j ≠ k := ne_of hj6 hk7
      have hik : i ≠ k := ne_of hi6 hk7
      refine S4.wr c hc7 ?_
      have h8 : PSs (H7.set k (cs c)) b q3 := (h6.ext he7).other hbk
      have hk8 : (H7.set k (cs c)) k = some (cs c) := Heap.set_self _ _ _
      have hj8 : (H7.set k (cs c)) j = some (cs a) := by rw [Heap.set_ne _ _ hjk]; exact he7 _ _ hj6
      have hk40 : H4 k = none := by
        cases hh : H4 k with
        | none => rfl
        | some o => rw [hx6 _ _ hkb (hx5 _ _ hkb hh)] at hk7; cases hk7
      have hx8 : Exb b H4 (H7.set k (cs c)) := ((hx5.trans hx6).trans (he7.exb b)).set hk40 _
      change zqs_5 _ _ _ _ _ _ _ (H7.set k (cs c))
      revert h8 hk8 hj8 hx8
      generalize H7.set k (cs c) = H8
      intro h8 hk8 hj8 hx8
      have fin : ∀ (q4 : PS) (H9 : Heap), (if q3.e = 0 ∧ (two = false ∨ only8 c < only8 a) then q3.fail 80 else q3) = q4 → PSs H9 b q4 → Exb b H8 H9 →
          zqs_1 Q E (some ⟨i, 0, none⟩) (some ⟨j, 0, none⟩) (some ⟨k, 0, none⟩) H9 := by
        intro q4 H9 hq4 h9 hx9
        unfold zqs_1
        refine ⟨fun z => z = k, ?_⟩
        simp only [ptr_some]
        refine ⟨_, _, _, _, S4.rd (hx9 _ _ hjb hj8), by trivial, _, _, _, _, S4.rd (hx9 _ _ hkb hk8), ?_⟩
        refine only8_c (s := a) fun H10 he10 => ⟨_, rfl, fun z hz _ => ?_, ?_⟩
        · subst hz; rw [he10 _ _ (hx9 _ _ hkb hk8)]; exact (hx9 _ _ hkb hk8).symm
        refine only8_c (s := c) fun H11 he11 => ⟨_, rfl, ?_⟩
        refine Range_c (only8_le _) (only8_le _) fun H12 he12 => ⟨_, _, _, _, rfl, ?_⟩
        refine ret _ q4 H12 (by rw [hel, hq4]) (((h9.ext he10).ext he11).ext he12) ((hx8.trans hx9).trans ((he10.trans he11).trans he12 |>.exb b))
      have fault : ∀ H9, PSs H9 b q3 → Exb b H8 H9 → (q3.e = 0 ∧ (two = false ∨ only8 c < only8 a)) → zqs_3 Q E (some ⟨b, 0, none⟩) (some ⟨i, 0, none⟩) (some ⟨j, 0, none⟩) (some ⟨k, 0, none⟩) true H9 := by
        intro H9 h9 hx9 hb
        unfold zqs_3
        exact sel_tt (pfail_c (by decide) h9 fun H10 h10 hx10 => fin _ H10 (if_pos hb) h10 (hx9.trans hx10))
      have good : ∀ H9, PSs H9 b q3 → Exb b H8 H9 → ¬ (q3.e = 0 ∧ (two = false ∨ only8 c < only8 a)) → zqs_3 Q E (some ⟨b, 0, none⟩) (some ⟨i, 0, none⟩) (some ⟨j, 0, none⟩) (some ⟨k, 0, none⟩) false H9 := by
        intro H9 h9 hx9 hb
        unfold zqs_3
        exact sel_ff (fin _ H9 (if_neg hb) h9 hx9)
      unfold zqs_5
      refine ⟨fun z => z = k, ?_⟩
      simp only [ptr_some]
      refine h8.ldE (sel_beq (fun he => ?_) (fun he => good H8 h8 (Exb.refl _ _) (fun h => he h.1)))
      refine sel_not (fun ht => fault H8 h8 (Exb.refl _ _) ⟨he, .inl ht⟩) (fun ht => ?_)
      refine ⟨_, _, _, _, S4.rd hj8, by trivial, _, _, _, _, S4.rd hk8, ?_⟩
      refine only8_c (s := a) fun H10 he10 => ⟨_, rfl, fun z hz _ => ?_, ?_⟩
      · subst hz; rw [he10 _ _ hk8]; exact hk8.symm
      refine only8_c (s := c) fun H11 he11 => ⟨_, rfl, ?_⟩
      cases hgt : decide (((only8 a : Nat) : Int) > ((only8 c : Nat) : Int)) with
      | true => exact fault H11 ((h8.ext he10).ext he11) ((he10.trans he11).exb b) ⟨he, .inr (by have := of_decide_eq_true hgt; omega)⟩
      | false => exact good H11 ((h8.ext he10).ext he11) ((he10.trans he11).exb b) (by have := of_decide_eq_false hgt; rw [ht]; simp; omega)
theorem PSs.atOf (h : PSs H b q) : atOf b H = q.at_ := by
  unfold Go.Proofs.Ytaffcoiomggpfaa.atOf
  rw [h.2.2.2]
  simp [PS.cells]
set_option maxHeartbeats 1000000 in
theorem class8_c (h : PSs H b q) (h0 : q.e = 0) (hk : ∀ H' s q', q.class8 = (s, q') → PSs H' b q' → Exb b H H' → Q (.agg s.cells) H') : Does Pr 110 #[.pointer (some ⟨b, 0, none⟩)] H Q E := by
  refine zqp_fn _ Q E H ?_
  unfold zqp zqp_44
  refine nw_ext fun i H1 hi he1 hc1 => ?_
  refine nw_ext fun j H2 hj he2 hc2 => ?_
  have hc2 : H2 j = some (cs S4.zero) := hc2
  have hi2 : H2 i = some (cs S4.zero) := he2 _ _ hc1
  have hij : i ≠ j := ne_of hc1 hj
  have hib : i ≠ b := Ne.symm (h.ne hi)
  have hj0 := he1.free hj
  have hjb : j ≠ b := Ne.symm (h.ne hj0)
  have he12 := he1.trans he2
  have h2 := h.ext he12
  have hx2 := he12.exb b
  -- the loop
  have loop : ∀ (neg : Bool) (q1 : PS) (H3 : Heap), (q.more && decide (q.byte = 94)) = neg → (if neg = true then q.inc else q) = q1 → PSs H3 b q1 → Exb b H2 H3 →
      zqp_34 Q E (some ⟨b, 0, none⟩) (some ⟨i, 0, none⟩) (some ⟨j, 0, none⟩) neg H3 := by
    intro neg q1 H3 hneg hq1 h3 hx3
    have hs1 : q1.s = q.s := by rw [← hq1]; split <;> rfl
    generalize hR : q1.s.size + 28 = F
    have hcl : q.class8 = PS.classLoop8 F neg 0 S4.zero q1 := by
      unfold PS.class8; dsimp only; rw [hneg, hq1, ← hR, hs1]
    unfold zqp_34 zqp_31
    refine ⟨fun x H' => ∃ (f n : Nat) (out : S4) (q' : PS), x = (n : Nat) ∧ n ≤ q'.at_ ∧ q'.s.size + 27 < f + q'.at_ ∧ PS.classLoop8 f neg n out q' = q.class8 ∧ q'.s = q1.s ∧ PSs H' b q' ∧ Exb b H H' ∧ H' i = some (cs S4.zero) ∧ H' j = some (cs out),
      fun _ H' => q1.s.size + 27 - atOf b H', ⟨F, 0, S4.zero, q1, by simp, by omega, by omega, hcl.symm, rfl, h3, hx2.trans hx3, hx3 _ _ hib hi2, hx3 _ _ hjb hc2⟩, ?_⟩
    rintro x H4 ⟨f, n, out, q', rfl, hn, hf, hcr, hs', h4, hx4, hi4, hj4⟩
    have h4b := h4.2.1
    have h4s := h4.1
    have ret : ∀ (s : S4) (q2 : PS) (H5 : Heap), q.class8 = (s, q2) → PSs H5 b q2 → Exb b H4 H5 → wr ⟨i, 0, none⟩ [.int .u64 s.a, .int .u64 s.b, .int .u64 s.c, .int .u64 s.d] H5 fun H6 =>
        ∃ n1 n2 n3 n4 : Int, H6.rd ⟨i, 0, none⟩ 0 [(.int .u64 n1), (.int .u64 n2), (.int .u64 n3), (.int .u64 n4)] ∧ Q (.agg #[(.int .u64 n1), (.int .u64 n2), (.int .u64 n3), (.int .u64 n4)]) H6 := by
      intro s q2 H5 hq2 h5 hx5
      exact S4.wr s (hx5 _ _ hib hi4) ⟨_, _, _, _, S4.rd (s := s) (Heap.set_self _ _ _), hk _ s q2 hq2 (h5.other (Ne.symm hib)) ((hx4.trans hx5).set hi _)⟩
    cases f with
    | zero => omega
    | succ f =>
      unfold zqp_28
      refine more_c h4 ⟨_, rfl, ?_⟩
      simp only [PS.classLoop8] at hcr
      cases hm : q'.more with
      | false =>
        rw [hm] at hcr
        refine sel_ff ?_
        unfold zqp_1
        refine pfail_c (by decide) h4 fun H5 h5 hx5 => ?_
        simp only [ptr_some]
        refine ⟨_, _, _, _, S4.rd (hx5 _ _ hjb hj4), ret out _ H5 (by rw [← hcr]; rfl) h5 hx5⟩
      | true =>
        rw [if_pos hm] at hcr
        obtain ⟨m1, m2⟩ := PS.more_iff.1 hm
        refine sel_tt ?_
        unfold zqp_22
        simp only [ptr_some]
        refine h4.ldStr (h4.ldAt ⟨⟨by omega, by omega⟩, ?_⟩)
        rw [sAt_nat]
        have hbyte : byteAt q'.s q'.at_ = q'.byte := rfl
        rw [hbyte]
        unfold zqp_20
        refine sel_beq (fun h93 => ?_) (fun h93 => ?_)
        · rw [if_pos (by omega)] at hcr
          have fin : ∀ (q2 : PS) (H5 : Heap), (if n = 0 then q'.fail 80 else q') = q2 → PSs H5 b q2 → Exb b H4 H5 →
              zqp_12 (fun x' H1 => (∃ (f n : Nat) (out : S4) (q' : PS), x' = (n : Nat) ∧ n ≤ q'.at_ ∧ q'.s.size + 27 < f + q'.at_ ∧ PS.classLoop8 f neg n out q' = q.class8 ∧ q'.s = q1.s ∧ PSs H1 b q' ∧ Exb b H H1 ∧ H1 i = some (cs S4.zero) ∧ H1 j = some (cs out)) ∧
                q1.s.size + 27 - Go.Proofs.Ytaffcoiomggpfaa.atOf b H1 < q1.s.size + 27 - Go.Proofs.Ytaffcoiomggpfaa.atOf b H4) Q E (some ⟨b, 0, none⟩) (some ⟨i, 0, none⟩) (some ⟨j, 0, none⟩) neg H5 := by
            intro q2 H5 hq2 h5 hx5
            have hq' : q2.at_ = q'.at_ ∧ q2.s = q'.s ∧ q2.deep = q'.deep := by
              rw [← hq2]; split
              · exact PS.fail_at q' 80
              · exact ⟨rfl, rfl, rfl⟩
            unfold zqp_12
            simp only [ptr_some]
            refine h5.ldAt (h5.incS (by have := (h4.2.2.1 m1).2; rw [hq'.1, hq'.2.1, hq'.2.2]; omega) (fun _ => by rw [hq'.1, hq'.2.1]; exact m2) fun H6 h6 hx6 => ?_)
            have hj6 := hx6 _ _ hjb (hx5 _ _ hjb hj4)
            rw [hq2] at hcr
            unfold zqp_9
            cases neg with
            | true =>
              refine sel_tt ?_
              simp only [ptr_some]
              refine ⟨_, _, _, _, S4.rd hj6, Not_c (s := out) fun H7 he7 => ⟨_, _, _, _, rfl, ?_⟩⟩
              refine ret out.not q2.inc H7 hcr.symm (h6.ext he7) ((hx5.trans hx6).trans (he7.exb b))
            | false =>
              refine sel_ff ?_
              unfold zqp_7
              simp only [ptr_some]
              refine ⟨_, _, _, _, S4.rd hj6, ret out q2.inc H6 hcr.symm h6 (hx5.trans hx6)⟩
          unfold zqp_15
          refine sel_beq (fun hn0 => ?_) (fun hn0 => ?_)
          · exact pfail_c (by decide) h4 fun H5 h5 hx5 => fin _ H5 (if_pos (by omega)) h5 hx5
          · exact fin _ H4 (if_neg (by omega)) h4 (Exb.refl _ _)
        · rw [if_neg (by omega)] at hcr
          unfold zqp_18 zqp_5
          refine ⟨fun z => z = j, ?_⟩
          simp only [ptr_some]
          refine ⟨by trivial, _, _, _, _, S4.rd hj4, ?_⟩
          refine element8_c h4 m1 m2 fun H5 x q2 hq2 h5 hx5 => ⟨_, _, _, _, rfl, fun z hz _ => ?_, ?_⟩
          · subst hz; rw [hx5 _ _ hjb hj4]; exact hj4.symm
          rw [hq2] at hcr
          dsimp only at hcr
          have hmo := PS.element8_mo q'
          rw [hq2] at hmo
          dsimp only at hmo
          refine Union_c (s := out) (t := x) fun H6 he6 => ⟨_, _, _, _, rfl, ?_⟩
          have h6 := h5.ext he6
          refine S4.wr (out.or x) (he6 _ _ (hx5 _ _ hjb hj4)) ?_
          unfold zqp_3
          have h7 : PSs (H6.set j (cs (out.or x))) b q2 := h6.other (Ne.symm hjb)
          have hw : IntKind.wrap .i64 ((n : Int) + 1) = ((n + 1 : Nat) : Int) := by rw [IntWalk.i64_in _ (by omega)]; omega
          rw [hw]
          have h5b := h5.2.1
          refine ⟨⟨f, n + 1, out.or x, q2, rfl, by omega, by rw [hmo.1.s]; omega, hcr, hmo.1.s.trans hs', h7, ((hx4.trans hx5).trans (he6.exb b)).set hj0 _, ?_, Heap.set_self _ _ _⟩, ?_⟩
          · rw [Heap.set_ne _ _ hij]; exact he6 _ _ (hx5 _ _ hib hi4)
          · show q1.s.size + 27 - Go.Proofs.Ytaffcoiomggpfaa.atOf b (H6.set j (cs (out.or x))) < _
            rw [h7.atOf, h4.atOf]
            rw [hmo.1.s, hs'] at h5b
            have := hmo.2
            omega
  unfold zqp_41
  refine more_c h2 ⟨_, rfl, sel_mk (fun hm => ?_) (fun hm => ?_)⟩
  · obtain ⟨m1, m2⟩ := PS.more_iff.1 hm
    simp only [ptr_some]
    refine h2.ldStr (h2.ldAt ⟨⟨by omega, by omega⟩, ?_⟩)
    rw [sAt_nat]
    have hbyte : byteAt q.s q.at_ = q.byte := rfl
    rw [hbyte]
    unfold zqp_38
    cases hc : ((q.byte : Int) == 94) with
    | true =>
      have hc : (q.byte : Int) = 94 := by simpa using hc
      refine sel_tt ?_
      simp only [ptr_some]
      refine h2.ldAt (h2.incS (by have := (h2.2.2.1 m1).2; omega) (fun _ => m2) fun H3 h3 hx3 => ?_)
      exact loop true q.inc H3 (by rw [hm]; simp; omega) (if_pos rfl) h3 hx3
    | false =>
      have hc : (q.byte : Int) ≠ 94 := by simpa using hc
      exact sel_ff (loop false q H2 (by simp; omega) (if_neg (by simp)) h2 (Exb.refl _ _))
  · unfold zqp_38
    exact sel_ff (loop false q H2 (by rw [hm]; rfl) (if_neg (by simp)) h2 (Exb.refl _ _))
end Go.Proofs.Ytaffcoiomggpfaa

/- Contracts of package jobmuxref08 (4): leaf, shifted, join. -/
namespace Go.Proofs.Ytaffcoiomggpfaa
open Go.V
attribute [local irreducible] app
set_option linter.constructorNameAsVariable false
set_option linter.unusedVariables false
variable {H : Heap} {Q : QT} {E : ET}

def ndI (k : Int) (s : S4) : Nd := ⟨k, 0, 0, s.a, s.b, s.c, s.d⟩
theorem leaf_c {k : Int} {s : S4} (hk : ∀ H' p c, Ext H H' → Vec H' 7 p 1 c (flat [ndI k s]) → (∀ j, blk p j → H j = none) → Q (.slice p 1 c) H') :
    Does Pr 101 #[.int .i64 k, .agg s.cells] H Q E := by
  refine zqj_fn _ _ _ _ _ Q E H ?_
  unfold zqj
  refine nw_ext fun i H1 hi he1 hc1 => ?_
  have hc1 : H1 i = some (cs s) := hc1
  refine ⟨_, _, _, _, S4.rd hc1, ?_⟩
  refine nw_ext fun j H2 hj he2 hc2 => ?_
  exact hk _ (some ⟨j, 0, none⟩) 1 (he1.trans he2) ⟨rfl, Nat.le_refl _, j, _, 48, rfl, hc2, rfl, fun n hn => by simp [flat, ndI, Nd.cells]⟩ fun n hn => by
    obtain ⟨a, ha, rfl⟩ := hn
    cases ha
    exact he1.free hj
def sh (k kid place n : Int) : Int := if kid < kids2 k then IntKind.wrap .i64 (place + n) else 0
theorem shifted_c {k kid place n : Int} (hk : Q (.int .i64 (sh k kid place n)) H) : Does Pr 102 #[.int .i64 k, .int .i64 kid, .int .i64 place, .int .i64 n] H Q E := by
  refine zqk_fn _ _ _ _ Q E H ?_
  unfold zqk zqk_3
  refine Kids2_c ⟨_, rfl, sel_dec (fun h => ?_) (fun h => ?_)⟩
  · unfold sh at hk; rw [if_pos h] at hk; exact hk
  · unfold zqk_1
    unfold sh at hk; rw [if_neg h] at hk; exact hk
def Nd.shift (n : Int) (x : Nd) : Nd := { x with l := sh x.k 0 x.l n, r := sh x.k 1 x.r n }
def joinN (k : Int) (l r : List Nd) : List Nd :=
  l ++ r.map (Nd.shift l.length) ++ [⟨k, (l.length : Int) - 1, if 0 < r.length then (l.length : Int) + r.length - 1 else 0, 0, 0, 0, 0⟩]
theorem joinN_length (k : Int) (l r : List Nd) : (joinN k l r).length = l.length + r.length + 1 := by simp [joinN]; omega
set_option maxHeartbeats 1000000 in
theorem join_c {k : Int} {p1 p2 : OA} {l1 c1 l2 c2 : Nat} {L R : List Nd} (hL : Vec H 7 p1 l1 c1 (flat L)) (hR : Vec H 7 p2 l2 c2 (flat R)) (h1 : l1 = L.length) (h2 : l2 = R.length) (hsz : l1 + l2 < 1048576)
    (hk : ∀ H' p c, Ext H H' → Vec H' 7 p (joinN k L R).length c (flat (joinN k L R)) → (∀ j, blk p j → H j = none) → Q (.slice p (joinN k L R).length c) H') :
    Does Pr 91 #[.int .i64 k, .slice p1 l1 c1, .slice p2 l2 c2] H Q E := by
  refine zqh_fn _ _ _ _ _ _ _ Q E H ?_
  unfold zqh zqh_21
  refine nw_ext fun i H1 hi he1 hc1 => ?_
  have hv0 : Vec H1 7 (some ⟨i, 0, none⟩) 0 0 [] := ⟨rfl, Nat.le_refl _, i, _, 48, rfl, hc1, rfl, fun j hj => by omega⟩
  have hL1 := hL.ext he1
  refine app_vec (sz := 7) (n := l1) (ws := flat L) sl23 hv0 (fun K hK => ⟨flat L, hL1.1, hL1.rdS, hK⟩) hL1.1 (by
    have : ∀ l : List Nd, (flat l).all oneC = true := fun l => by
      induction l with
      | nil => rfl
      | cons x l ih => simp only [flat, List.flatMap_cons, List.all_append, Bool.and_eq_true]; exact ⟨rfl, ih⟩
    exact this L) (by omega) (by omega) fun p' c' H2 hv2 hs2 hb2 => ?_
  have he2 : Ext H H2 := fun j o hj => by
    have h1j := he1 _ _ hj
    rw [hs2 j (fun hb => by obtain ⟨a, ha, rfl⟩ := hb; cases ha; rw [hi] at hj; cases hj) (by simp [h1j])]; exact h1j
  have hf2 : ∀ j, blk p' j → H j = none := fun j hj => by
    rcases hb2 j hj with h | h
    · obtain ⟨a, ha, rfl⟩ := h; cases ha; exact hi
    · exact he1.free h
  unfold zqh_17 zqh_14
  refine ⟨fun p l c x H' => ∃ n : Nat, x = (n : Nat) ∧ n ≤ R.length ∧ l = L.length + n ∧ Vec H' 7 p l c (flat (L ++ (R.take n).map (Nd.shift L.length))) ∧ Ext H H' ∧ ∀ j, blk p j → H j = none,
    fun _ _ _ x _ => (l2 - x).toNat, ⟨0, rfl, by omega, by omega, by simpa [Nat.zero_add] using hv2, he2, hf2⟩, ?_⟩
  rintro p l c x H3 ⟨n, rfl, hn, rfl, hv3, he3, hf3⟩
  unfold zqh_11
  refine sel_dec (fun hd => ?_) (fun hd => ?_)
  · have hnR : n < R.length := by omega
    obtain ⟨x, hx⟩ : ∃ x, R[n]? = some x := ⟨_, List.getElem?_eq_getElem hnR⟩
    obtain ⟨a2, rfl, hrd⟩ := vec_at7 (hR.ext he3) hx
    unfold zqh_9
    simp only [ptr_some, Int.toNat_natCast]
    refine ⟨⟨by omega, by omega⟩, x.k, x.l, x.r, x.a, x.b, x.c, x.d, hrd, ?_⟩
    refine nw_ext fun m H4 hm he4 hc4 => ?_
    refine wr_new hc4 (by simp) rfl (c' := x.cells.toArray) rfl fun H5 hc5 hb5 => ?_
    have he5 := ext_but he4 hm hb5
    refine ⟨fun z => z = m, ?_⟩
    refine ldI_at (n := x.k) hc5 rfl (ldI_at (n := x.l) hc5 rfl ⟨rfl, ldI_at (n := x.k) hc5 rfl ⟨rfl, ldI_at (n := x.r) hc5 rfl ?_⟩⟩)
    refine shifted_c ⟨_, rfl, fun z hz _ => rfl, shifted_c ⟨_, rfl, ?_⟩⟩
    rw [h1]
    refine wr_new hc5 (by simp [Nd.cells]) rfl (c' := #[.int .i64 x.k, .int .i64 (sh x.k 0 x.l (L.length : Nat)), .int .i64 x.r, .int .u64 x.a, .int .u64 x.b, .int .u64 x.c, .int .u64 x.d]) rfl fun H6 hc6 hb6 => ?_
    refine wr_new hc6 (by simp) rfl (c' := (x.shift L.length).cells.toArray) rfl fun H6 hc6 hb62 => ?_
    have he6 : Ext H3 H6 := ext_but (ext_but he5 hm hb6) hm hb62
    refine ⟨(x.shift L.length).k, (x.shift L.length).l, (x.shift L.length).r, (x.shift L.length).a, (x.shift L.length).b, (x.shift L.length).c, (x.shift L.length).d, rd_at hc6 _ 0 0 (fun j hj => by simp [Nd.cells]), ?_⟩
    refine nw_ext fun m2 H7 hm2 he7 hc7 => ?_
    have hv7 := hv3.ext (he6.trans he7)
    refine app_one (sz := 7) (ws := (x.shift L.length).cells) sl23 hv7 hc7 rfl rfl (by omega) (by omega) fun p' c' H8 hv8 hs8 hb8 => ?_
    have hw : IntKind.wrap .i64 ((n : Int) + 1) = ((n + 1 : Nat) : Int) := by rw [IntWalk.i64_in _ (by omega)]; omega
    rw [hw]
    have he37 := (he3.trans he6).trans he7
    refine ⟨⟨n + 1, rfl, by omega, by omega, ?_, fun j o hj => ?_, fun j hj => ?_⟩, by omega⟩
    · rw [flat_snoc] at hv8
      have e : L ++ (R.take n).map (Nd.shift L.length) ++ [x.shift L.length] = L ++ (R.take (n + 1)).map (Nd.shift L.length) := by
        rw [List.take_add_one, hx]; simp
      rw [e] at hv8; exact hv8
    · have := he37 _ _ hj
      rw [hs8 j (fun hb => by rw [hf3 j hb] at hj; cases hj) (by simp [this])]; exact this
    · rcases hb8 j hj with h | h
      · exact hf3 j h
      · exact he37.free h
  · obtain rfl : n = R.length := by omega
    rw [List.take_length] at hv3
    unfold zqh_6
    refine nw_ext fun m H4 hm he4 hc4 => ?_
    refine wr_at hc4 (by simp) rfl ?_
    have w1 : IntKind.wrap .i64 (((l1 : Nat) : Int) - 1) = (L.length : Int) - 1 := by rw [IntWalk.i64_in _ (by omega), h1]
    rw [w1]
    have he5 : ∀ o, Ext H3 (H4.set m o) := fun o => he4.set hm o
    have fin : ∀ (H5 : Heap) (r : Int), (if 0 < R.length then (L.length : Int) + R.length - 1 else 0) = r → Ext H3 H5 → H5 m = some (.cells #[.int .i64 k, .int .i64 ((L.length : Int) - 1), .int .i64 r, .int .u64 0, .int .u64 0, .int .u64 0, .int .u64 0] 48 (0, 0)) →
        zqh_1 Q E p (L.length + R.length) c (some ⟨m, 0, none⟩) H5 := by
      intro H5 r hr he5 hc5
      unfold zqh_1
      simp only [ptr_some]
      refine ⟨k, (L.length : Int) - 1, r, 0, 0, 0, 0, rd_at hc5 _ 0 0 (fun j hj => by simp), ?_⟩
      refine nw_ext fun m2 H7 hm2 he7 hc7 => ?_
      have hv7 := hv3.ext (he5.trans he7)
      refine app_one (sz := 7) (ws := (⟨k, (L.length : Int) - 1, r, 0, 0, 0, 0⟩ : Nd).cells) sl23 hv7 hc7 rfl rfl (by omega) (by omega) fun p' c' H8 hv8 hs8 hb8 => ?_
      have he37 := (he3.trans he5).trans he7
      rw [flat_snoc, ← hr] at hv8
      have e : (joinN k L R).length = L.length + R.length + 1 := joinN_length k L R
      rw [← e] at hv8 ⊢
      refine hk H8 p' c' (fun j o hj => ?_) hv8 (fun j hj => ?_)
      · have := he37 _ _ hj
        rw [hs8 j (fun hb => by rw [hf3 j hb] at hj; cases hj) (by simp [this])]; exact this
      · rcases hb8 j hj with h | h
        · exact hf3 j h
        · exact he37.free h
    unfold zqh_3
    refine sel_dec (fun hg => ?_) (fun hg => ?_)
    · simp only [ptr_some, add_at]
      refine wr_at (Heap.set_self _ _ _) (by simp [over]) rfl ?_
      have w2 : IntKind.wrap .i64 (IntKind.wrap .i64 (((l1 : Nat) : Int) + ((l2 : Nat) : Int)) - 1) = (L.length : Int) + R.length - 1 := by
        rw [IntWalk.i64_in (_ + _) (by omega), IntWalk.i64_in _ (by omega), h1, h2]
      rw [w2]
      exact fin _ _ (if_pos (by omega)) ((he5 _).set hm _) (Heap.set_self _ _ _)
    · exact fin _ 0 (if_neg (by omega)) (he5 _) (Heap.set_self _ _ _)
end Go.Proofs.Ytaffcoiomggpfaa
