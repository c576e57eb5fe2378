/- RegexValid. -/
import Derived.Test.YtaffcoiomggpfaaVL08
import Derived.Test.YtaffcoiomggpfaaVPEq3
import Derived.Test.YtaffcoiomggpfaaVR08h
import Derived.Test.YtaffcoiomggpfaaVPats
namespace Go.Proofs.Ytaffcoiomggpfaa
open Go.V
attribute [local irreducible] app
attribute [local irreducible] l08_RegexValid_1
set_option linter.unusedVariables false

theorem flat_ones : ∀ l : List Nd, (flat l).all oneC = true := fun l => by
  induction l with
  | nil => rfl
  | cons x l ih => simp only [flat, List.flatMap_cons, List.all_append, Bool.and_eq_true]; exact ⟨rfl, ih⟩
/-- One number of one node is written. -/
theorem vec_edit {H : Heap} {p : Option Addr} {l c n j : Nat} {L : List Nd} {x x' : Nd} {v : Value} {a : Addr} {K : Heap → Prop} (h : Vec H 7 p l c (flat L)) (ha : p = some a) (hl : l = L.length) (hx : L[n]? = some x) (hj : j < 7) (hv : oneC v = true)
    (hx' : ∀ k, x'.cells[k]? = if k = j then some v else x.cells[k]?) (hk : ∀ H', Vec H' 7 p l c (flat (L.set n x')) → (∀ i, ¬ blk p i → H' i = H i) → K H') : wr (Addr.add (Addr.add a (n * 7)) j) [v] H K := by
  subst ha hl
  obtain ⟨v1, v2, b, cs, t, hab, hb, hcs, hget⟩ := h
  cases hab
  have hn : n < L.length := (List.getElem?_eq_some_iff.1 hx).1
  rw [add_at, add_at, Nat.zero_add]
  refine wr_at hb (by simp only [List.length_singleton]; omega) (by simp [hv]) (hk _ ?_ fun i hi => ?_)
  · refine ⟨by rw [flat_length, List.length_set], v2, b, _, t, rfl, Heap.set_self _ _ _, by rw [over_size]; exact hcs, fun m hm => ?_⟩
    rw [over_get _ _ _ _ (by simp only [List.length_singleton]; omega)]
    have hmi : m = m / 7 * 7 + m % 7 := by omega
    have hm7 : m % 7 < 7 := Nat.mod_lt _ (by decide)
    have hmL : m / 7 < L.length := by omega
    have hy : L[m / 7]? = some L[m / 7] := List.getElem?_eq_getElem hmL
    by_cases e : m / 7 = n
    · have hset : (L.set n x')[m / 7]? = some x' := by rw [e, List.getElem?_set_self hn]
      have h1 : (flat (L.set n x'))[m]? = x'.cells[m % 7]? := by
        have := flat_get hset hm7; rw [← hmi] at this; exact this
      rw [h1, hx']
      by_cases ej : m % 7 = j
      · have : m = n * 7 + j := by omega
        rw [if_pos ej, if_pos (by simp only [List.length_singleton]; omega), this]; simp
      · rw [if_neg ej, if_neg (by simp only [List.length_singleton]; omega), hget m hm]
        have := flat_get hx hm7; rw [← e, ← hmi] at this; exact this
    · have hset : (L.set n x')[m / 7]? = some L[m / 7] := by rw [List.getElem?_set_ne (fun h => e h.symm)]; exact hy
      rw [if_neg (by simp only [List.length_singleton]; omega), hget m hm]
      have h1 := flat_get hset hm7; rw [← hmi] at h1
      have h2 := flat_get hy hm7; rw [← hmi] at h2
      rw [h1, h2]
  · exact Heap.set_ne _ _ (fun e => hi ⟨_, rfl, e⟩)
theorem Vec.ptr7 {H : Heap} {p : Option Addr} {l c : Nat} {L : List Nd} (h : Vec H 7 p l c (flat L)) {n : Nat} {x : Nd} (hx : L[n]? = some x) : ∃ b, p = some ⟨b, 0, none⟩ := by
  obtain ⟨a, rfl, _⟩ := vec_at7 h hx
  obtain ⟨_, _, b, _, _, h, _⟩ := h
  exact ⟨b, by rw [h]⟩
theorem deflt0 : (rParse ⟨[40, 97, 124, 98, 41, 42, 99, 63].toArray⟩).2 = 0 := by decide +kernel
theorem of_snd {R : List Nd × Int} (h : R.2 = 0) : ∃ L, R = (L, 0) := ⟨R.1, by rw [← h]⟩
theorem deflt : ∃ L, rParse ⟨[40, 97, 124, 98, 41, 42, 99, 63].toArray⟩ = (L, 0) := of_snd deflt0
theorem rParse_valid {s : ByteArray} {L : List Nd} (h : rParse s = (L, 0)) : validOf L = true ∧ 0 < L.length ∧ L.length ≤ 256 := by
  rw [← parse_eq] at h
  obtain ⟨_, _, h3, h4⟩ := (rxParse_small h).2 rfl
  refine ⟨h3, ?_, h4⟩
  cases L with
  | nil => simp [validOf] at h3
  | cons x L => simp
set_option maxHeartbeats 1000000 in
theorem RegexValid_c {H : Heap} {p p1 : Option Addr} {n c c1 : Nat} {xs : List Int} {raw : List Nd} {what at_ : Int} {Q : Value → Heap → Prop} {E : Chain → Heap → Prop} (h : Ints H p n xs) (hraw : Nds H p1 raw) (hrl : raw.length ≤ 1048576)
    (hk : ∀ H', Ext H H' → Q (.bool true) H') : Does Pr 12 #[.slice p n c, .slice p1 raw.length c1, .int .i64 what, .int .i64 at_] H Q E := by
  refine l08_RegexValid_fn _ _ _ _ _ _ _ _ Q E H ?_
  unfold l08_RegexValid l08_RegexValid_21
  refine sane_c fun H1 he1 => ⟨_, rfl, ?_⟩
  refine sel_ff ?_
  unfold l08_RegexValid_18
  refine sel_dec (fun _ => hk _ he1) (fun hsz => ?_)
  unfold l08_RegexValid_15
  refine text_c (h.ext he1) fun s H2 he2 hs => ⟨_, rfl, ?_⟩
  refine rParse_c fun H3 px cx X e hpx hXl he3 hvX => ⟨_, _, _, _, rfl, ?_⟩
  have heA := (he1.trans he2).trans he3
  -- from a list of nodes on
  have go : ∀ (X : List Nd) (px : Option Addr) (cx : Nat) (H4 : Heap), Ext H H4 → Vec H4 7 px X.length cx (flat X) → validOf X = true → 0 < X.length → X.length ≤ 256 → l08_RegexValid_9 Q E p1 raw.length c1 what at_ px X.length cx H4 := by
    intro X px cx H4 he4 hvX hval hpos hle
    unfold l08_RegexValid_9
    refine nw_ext fun i H5 hi he5 hc5 => ?_
    have hv0 : Vec H5 7 (some ⟨i, 0, none⟩) 0 0 [] := ⟨rfl, Nat.le_refl _, i, _, 48, rfl, hc5, rfl, fun j hj => by omega⟩
    have hX5 := hvX.ext he5
    refine app_vec (sz := 7) (n := X.length) (ws := flat X) sl23 hv0 (fun K hK => ⟨flat X, hX5.1, hX5.rdS, hK⟩) hX5.1 (flat_ones X) (by omega) (by omega) fun py cy H6 hv6 hs6 hb6 => ?_
    have he6 : Ext H4 H6 := fun j o hj => by
      have h1j := he5 _ _ hj
      rw [hs6 j (fun hb => by obtain ⟨a, ha, rfl⟩ := hb; cases ha; rw [hi] at hj; cases hj) (by simp [h1j])]; exact h1j
    have hfy : ∀ j, blk py j → H4 j = none := fun j hj => by
      rcases hb6 j hj with h | h
      · obtain ⟨a, ha, rfl⟩ := h; cases ha; exact hi
      · exact he5.free h
    rw [List.nil_append, Nat.zero_add] at hv6
    rw [Nat.zero_add]
    -- the end
    have fin : ∀ (Y : List Nd) (q : Option Addr) (l cq : Nat) (H7 : Heap), l = Y.length → Y.length ≤ 1048576 → Nds H7 q Y → Ext H4 H7 → l08_RegexValid_1 Q E p1 raw.length c1 px X.length cx q l cq H7 := by
      intro Y q l cq H7 hl hYl hvY he7
      subst hl
      unfold l08_RegexValid_1
      refine Valid_n (Vec.nds (hvX.ext he7)) fun H8 he8 => ⟨_, rfl, ?_⟩
      rw [hval]
      refine sel_tt ?_
      refine Valid_n (hvY.ext he8) fun H9 he9 => ⟨_, rfl, ?_⟩
      refine rValid_c hYl ((hvY.ext he8).ext he9) fun H10 he10 => ⟨_, rfl, ?_⟩
      rw [beq_self_eq_true]
      refine sel_tt ?_
      have he47 := (((he4.trans he7).trans he8).trans he9).trans he10
      refine Valid_n (hraw.ext he47) fun H11 he11 => ⟨_, rfl, ?_⟩
      refine rValid_c hrl ((hraw.ext he47).ext he11) fun H12 he12 => ⟨_, rfl, ?_⟩
      rw [beq_self_eq_true]
      exact hk _ ((he47.trans he11).trans he12)
    unfold l08_RegexValid_6
    have hmb := modOf_bounds (a := at_) (n := X.length) (by omega) (by omega)
    refine Mod_c (by omega) ⟨_, rfl, ⟨hmb.1, hmb.2⟩, ?_⟩
    generalize modOf at_ ((X.length : Nat) : Int) = m at hmb
    have hml : m.toNat < X.length := by omega
    obtain ⟨x, hx⟩ : ∃ x, X[m.toNat]? = some x := ⟨_, List.getElem?_eq_getElem hml⟩
    obtain ⟨b, rfl⟩ := Vec.ptr7 hv6 hx
    obtain ⟨a, ha, hrd⟩ := vec_at7 hv6 hx
    simp only [ptr_some]
    -- an edit
    have edit : ∀ (j : Nat) (v : Value) (x' : Nd), j < 7 → oneC v = true → (∀ k, x'.cells[k]? = if k = j then some v else x.cells[k]?) →
        wr (Addr.add (Addr.add ⟨b, 0, none⟩ (m.toNat * 7)) j) [v] H6 fun H7 => l08_RegexValid_1 Q E p1 raw.length c1 px X.length cx (some ⟨b, 0, none⟩) X.length cy H7 := by
      intro j v x' hj hv hx'
      refine vec_edit hv6 rfl rfl hx hj hv hx' fun H7 hv7 hs7 => ?_
      refine fin (X.set m.toNat x') _ _ _ H7 (by simp) (by rw [List.length_set]; omega) (Vec.nds hv7) fun i o hi4 => ?_
      rw [hs7 i (fun hb => by rw [hfy i hb] at hi4; cases hi4)]; exact he6 i o hi4
    unfold l08_RegexValid_3
    have hwb := modOf_bounds (a := what) (n := 6) (by omega) (by omega)
    refine Mod_c (by decide) ⟨_, rfl, ?_⟩
    obtain rfl : a = ⟨b, 0, none⟩ := by cases ha; rfl
    have cell : ∀ (j : Nat) (v : Value), x.cells[j]? = some v → H6.cell? (Addr.add (Addr.add ⟨b, 0, none⟩ (m.toNat * 7)) j) = some v := fun j v hjv => by
      have := rd_get (j := j) hrd hjv
      rw [Nat.zero_add] at this; exact this
    refine sel_beq (fun _ => ?_) (fun _ => ?_)
    · refine Mod_c (by decide) ⟨_, rfl, ?_⟩
      simp only [ptr_some]
      exact edit 0 _ { x with k := modOf at_ 12 } (by omega) rfl (fun k => by
        match k with
        | 0 => rfl
        | 1 => rfl
        | 2 => rfl
        | 3 => rfl
        | 4 => rfl
        | 5 => rfl
        | 6 => rfl
        | k + 7 => rfl)
    refine sel_beq (fun _ => ?_) (fun _ => ?_)
    · simp only [ptr_some]
      refine ⟨x.l, cell 1 _ rfl, ?_⟩
      exact edit 1 _ { x with l := IntKind.wrap .i64 (x.l + 1) } (by omega) rfl (fun k => by
        match k with
        | 0 => rfl
        | 1 => rfl
        | 2 => rfl
        | 3 => rfl
        | 4 => rfl
        | 5 => rfl
        | 6 => rfl
        | k + 7 => rfl)
    refine sel_beq (fun _ => ?_) (fun _ => ?_)
    · simp only [ptr_some]
      refine ⟨x.r, cell 2 _ rfl, ?_⟩
      exact edit 2 _ { x with r := IntKind.wrap .i64 (x.r - 1) } (by omega) rfl (fun k => by
        match k with
        | 0 => rfl
        | 1 => rfl
        | 2 => rfl
        | 3 => rfl
        | 4 => rfl
        | 5 => rfl
        | 6 => rfl
        | k + 7 => rfl)
    refine sel_beq (fun _ => ?_) (fun _ => ?_)
    · simp only [ptr_some]
      refine ⟨⟨by omega, by omega⟩, x.b, ?_, ⟨by omega, by omega⟩, ?_⟩
      · have := cell 4 (.int .u64 x.b) rfl
        simp only [add_at] at this ⊢; exact this
      have he : Addr.add (Addr.add (Addr.add ⟨b, 0, none⟩ (m.toNat * 7)) 3) 1 = Addr.add (Addr.add ⟨b, 0, none⟩ (m.toNat * 7)) 4 := by simp only [add_at]
      rw [he]
      exact edit 4 _ { x with b := IntKind.wrap .u64 (x.b + 1) } (by omega) rfl (fun k => by
        match k with
        | 0 => rfl
        | 1 => rfl
        | 2 => rfl
        | 3 => rfl
        | 4 => rfl
        | 5 => rfl
        | 6 => rfl
        | k + 7 => rfl)
    refine sel_beq (fun _ => ?_) (fun _ => ?_)
    · refine ⟨⟨by omega, by omega⟩, ?_⟩
      refine fin X.tail _ _ _ H6 (by simp) (by simp; omega) ?_ he6
      intro k y hy
      have hy' : X[k + 1]? = some y := by rw [List.getElem?_tail] at hy; exact hy
      have hk1 : k + 1 < X.length := (List.getElem?_eq_some_iff.1 hy').1
      have hcy : ¬ cy = (1 : Int).toNat := by have := hv6.2.1; intro e; rw [e] at this; simp at this; omega
      rw [if_neg hcy]
      obtain ⟨a', ha', hrd'⟩ := vec_at7 hv6 hy'
      obtain rfl : a' = ⟨b, 0, none⟩ := by cases ha'; rfl
      refine ⟨_, rfl, ?_⟩
      have he : Addr.add (Addr.add ⟨b, 0, none⟩ ((1 : Int).toNat * 7)) (k * 7) = Addr.add ⟨b, 0, none⟩ ((k + 1) * 7) := by
        simp only [add_at]; congr 1; simp; omega
      rw [he]; exact hrd'
    · have hX6 := hvX.ext he6
      refine app_vec (sz := 7) (n := X.length) (ws := flat X) sl23 hv6 (fun K hK => ⟨flat X, hX6.1, hX6.rdS, hK⟩) hX6.1 (flat_ones X) (by omega) (by omega) fun p7 c7 H7 hv7 hs7 hb7 => ?_
      have hff : flat X ++ flat X = flat (X ++ X) := by simp [flat]
      rw [hff] at hv7
      refine fin (X ++ X) _ _ _ H7 (by simp) (by simp; omega) (Vec.nds hv7) fun i o hi4 => ?_
      have h6 := he6 i o hi4
      rw [hs7 i (fun hb => by rw [hfy i hb] at hi4; cases hi4) (by simp [h6])]; exact h6
  unfold l08_RegexValid_12
  refine sel_bne (fun hne => ?_) (fun heq => ?_)
  · obtain ⟨L0, hL0⟩ := deflt
    refine rParse_c fun H4 p4 c4 L e4 hL hLl he4 hv4 => ⟨_, _, _, _, rfl, ?_⟩
    rw [hL0] at hL
    obtain ⟨rfl, rfl⟩ := Prod.mk.inj hL
    obtain ⟨g1, g2, g3⟩ := rParse_valid hL0
    exact go _ _ _ _ (heA.trans he4) hv4 g1 g2 g3
  · subst heq
    obtain ⟨g1, g2, g3⟩ := rParse_valid hpx
    exact go _ _ _ _ heA hvX g1 g2 g3
end Go.Proofs.Ytaffcoiomggpfaa
