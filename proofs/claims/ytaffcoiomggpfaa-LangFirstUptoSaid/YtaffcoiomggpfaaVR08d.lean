/- Contracts of package jobmuxref08 (4): leaf, shifted, join. -/
import Derived.Test.YtaffcoiomggpfaaVR08c
namespace Go.Proofs.Ytaffcoiomggpfaa
open Go.V
attribute [local irreducible] app
set_option linter.constructorNameAsVariable false
set_option linter.unusedVariables false
variable {H : Heap} {Q : Value → Heap → Prop} {E : Chain → Heap → Prop}

def ndI (k : Int) (s : S4) : Nd := ⟨k, 0, 0, s.a, s.b, s.c, s.d⟩
theorem leaf_c {k : Int} {s : S4} (hk : ∀ H' p c, Ext H H' → Vec H' 7 p 1 c (flat [ndI k s]) → (∀ j, blk p j → H j = none) → Q (.slice p 1 c) H') :
    Does Pr 101 #[.int .i64 k, .agg s.cells] H Q E := by
  refine zql_fn _ _ _ _ _ Q E H ?_
  unfold zql
  refine nw_ext fun i H1 hi he1 hc1 => ?_
  have hc1 : H1 i = some (cs s) := hc1
  refine ⟨_, _, _, _, S4.rd hc1, ?_⟩
  refine nw_ext fun j H2 hj he2 hc2 => ?_
  exact hk _ (some ⟨j, 0, none⟩) 1 (he1.trans he2) ⟨rfl, Nat.le_refl _, j, _, 48, rfl, hc2, rfl, fun n hn => by simp [flat, ndI, Nd.cells]⟩ fun n hn => by
    obtain ⟨a, ha, rfl⟩ := hn
    cases ha
    exact he1.free hj
def sh (k kid place n : Int) : Int := if kid < kids2 k then IntKind.wrap .i64 (place + n) else 0
theorem shifted_c {k kid place n : Int} (hk : Q (.int .i64 (sh k kid place n)) H) : Does Pr 102 #[.int .i64 k, .int .i64 kid, .int .i64 place, .int .i64 n] H Q E := by
  refine zqm_fn _ _ _ _ Q E H ?_
  unfold zqm zqm_3
  refine Kids2_c ⟨_, rfl, sel_dec (fun h => ?_) (fun h => ?_)⟩
  · unfold sh at hk; rw [if_pos h] at hk; exact hk
  · unfold zqm_1
    unfold sh at hk; rw [if_neg h] at hk; exact hk
def Nd.shift (n : Int) (x : Nd) : Nd := { x with l := sh x.k 0 x.l n, r := sh x.k 1 x.r n }
def joinN (k : Int) (l r : List Nd) : List Nd :=
  l ++ r.map (Nd.shift l.length) ++ [⟨k, (l.length : Int) - 1, if 0 < r.length then (l.length : Int) + r.length - 1 else 0, 0, 0, 0, 0⟩]
theorem joinN_length (k : Int) (l r : List Nd) : (joinN k l r).length = l.length + r.length + 1 := by simp [joinN]; omega
set_option maxHeartbeats 1000000 in
theorem join_c {k : Int} {p1 p2 : Option Addr} {l1 c1 l2 c2 : Nat} {L R : List Nd} (hL : Vec H 7 p1 l1 c1 (flat L)) (hR : Vec H 7 p2 l2 c2 (flat R)) (h1 : l1 = L.length) (h2 : l2 = R.length) (hsz : l1 + l2 < 1048576)
    (hk : ∀ H' p c, Ext H H' → Vec H' 7 p (joinN k L R).length c (flat (joinN k L R)) → (∀ j, blk p j → H j = none) → Q (.slice p (joinN k L R).length c) H') :
    Does Pr 91 #[.int .i64 k, .slice p1 l1 c1, .slice p2 l2 c2] H Q E := by
  refine zqj_fn _ _ _ _ _ _ _ Q E H ?_
  unfold zqj zqj_21
  refine nw_ext fun i H1 hi he1 hc1 => ?_
  have hv0 : Vec H1 7 (some ⟨i, 0, none⟩) 0 0 [] := ⟨rfl, Nat.le_refl _, i, _, 48, rfl, hc1, rfl, fun j hj => by omega⟩
  have hL1 := hL.ext he1
  refine app_vec (sz := 7) (n := l1) (ws := flat L) sl23 hv0 (fun K hK => ⟨flat L, hL1.1, hL1.rdS, hK⟩) hL1.1 (by
    have : ∀ l : List Nd, (flat l).all oneC = true := fun l => by
      induction l with
      | nil => rfl
      | cons x l ih => simp only [flat, List.flatMap_cons, List.all_append, Bool.and_eq_true]; exact ⟨rfl, ih⟩
    exact this L) (by omega) (by omega) fun p' c' H2 hv2 hs2 hb2 => ?_
  have he2 : Ext H H2 := fun j o hj => by
    have h1j := he1 _ _ hj
    rw [hs2 j (fun hb => by obtain ⟨a, ha, rfl⟩ := hb; cases ha; rw [hi] at hj; cases hj) (by simp [h1j])]; exact h1j
  have hf2 : ∀ j, blk p' j → H j = none := fun j hj => by
    rcases hb2 j hj with h | h
    · obtain ⟨a, ha, rfl⟩ := h; cases ha; exact hi
    · exact he1.free h
  unfold zqj_17 zqj_14
  refine ⟨fun p l c x H' => ∃ n : Nat, x = (n : Nat) ∧ n ≤ R.length ∧ l = L.length + n ∧ Vec H' 7 p l c (flat (L ++ (R.take n).map (Nd.shift L.length))) ∧ Ext H H' ∧ ∀ j, blk p j → H j = none,
    fun _ _ _ x _ => (l2 - x).toNat, ⟨0, rfl, by omega, by omega, by simpa [Nat.zero_add] using hv2, he2, hf2⟩, ?_⟩
  rintro p l c x H3 ⟨n, rfl, hn, rfl, hv3, he3, hf3⟩
  unfold zqj_11
  refine sel_dec (fun hd => ?_) (fun hd => ?_)
  · have hnR : n < R.length := by omega
    obtain ⟨x, hx⟩ : ∃ x, R[n]? = some x := ⟨_, List.getElem?_eq_getElem hnR⟩
    obtain ⟨a2, rfl, hrd⟩ := vec_at7 (hR.ext he3) hx
    unfold zqj_9
    simp only [ptr_some, Int.toNat_natCast]
    refine ⟨⟨by omega, by omega⟩, x.k, x.l, x.r, x.a, x.b, x.c, x.d, hrd, ?_⟩
    refine nw_ext fun m H4 hm he4 hc4 => ?_
    refine wr_new hc4 (by simp) rfl (c' := x.cells.toArray) rfl fun H5 hc5 hb5 => ?_
    have he5 := ext_but he4 hm hb5
    refine ⟨fun z => z = m, ?_⟩
    refine ldI_at (n := x.k) hc5 rfl (ldI_at (n := x.l) hc5 rfl ⟨rfl, ldI_at (n := x.k) hc5 rfl ⟨rfl, ldI_at (n := x.r) hc5 rfl ?_⟩⟩)
    refine shifted_c ⟨_, rfl, fun z hz _ => rfl, shifted_c ⟨_, rfl, ?_⟩⟩
    rw [h1]
    refine wr_new hc5 (by simp [Nd.cells]) rfl (c' := #[.int .i64 x.k, .int .i64 (sh x.k 0 x.l (L.length : Nat)), .int .i64 x.r, .int .u64 x.a, .int .u64 x.b, .int .u64 x.c, .int .u64 x.d]) rfl fun H6 hc6 hb6 => ?_
    refine wr_new hc6 (by simp) rfl (c' := (x.shift L.length).cells.toArray) rfl fun H6 hc6 hb62 => ?_
    have he6 : Ext H3 H6 := ext_but (ext_but he5 hm hb6) hm hb62
    refine ⟨(x.shift L.length).k, (x.shift L.length).l, (x.shift L.length).r, (x.shift L.length).a, (x.shift L.length).b, (x.shift L.length).c, (x.shift L.length).d, rd_at hc6 _ 0 0 (fun j hj => by simp [Nd.cells]), ?_⟩
    refine nw_ext fun m2 H7 hm2 he7 hc7 => ?_
    have hv7 := hv3.ext (he6.trans he7)
    refine app_one (sz := 7) (ws := (x.shift L.length).cells) sl23 hv7 hc7 rfl rfl (by omega) (by omega) fun p' c' H8 hv8 hs8 hb8 => ?_
    have hw : IntKind.wrap .i64 ((n : Int) + 1) = ((n + 1 : Nat) : Int) := by rw [IntWalk.i64_in _ (by omega)]; omega
    rw [hw]
    have he37 := (he3.trans he6).trans he7
    refine ⟨⟨n + 1, rfl, by omega, by omega, ?_, fun j o hj => ?_, fun j hj => ?_⟩, by omega⟩
    · rw [flat_snoc] at hv8
      have e : L ++ (R.take n).map (Nd.shift L.length) ++ [x.shift L.length] = L ++ (R.take (n + 1)).map (Nd.shift L.length) := by
        rw [List.take_add_one, hx]; simp
      rw [e] at hv8; exact hv8
    · have := he37 _ _ hj
      rw [hs8 j (fun hb => by rw [hf3 j hb] at hj; cases hj) (by simp [this])]; exact this
    · rcases hb8 j hj with h | h
      · exact hf3 j h
      · exact he37.free h
  · obtain rfl : n = R.length := by omega
    rw [List.take_length] at hv3
    unfold zqj_6
    refine nw_ext fun m H4 hm he4 hc4 => ?_
    refine wr_at hc4 (by simp) rfl ?_
    have w1 : IntKind.wrap .i64 (((l1 : Nat) : Int) - 1) = (L.length : Int) - 1 := by rw [IntWalk.i64_in _ (by omega), h1]
    rw [w1]
    have he5 : ∀ o, Ext H3 (H4.set m o) := fun o => he4.set hm o
    have fin : ∀ (H5 : Heap) (r : Int), (if 0 < R.length then (L.length : Int) + R.length - 1 else 0) = r → Ext H3 H5 → H5 m = some (.cells #[.int .i64 k, .int .i64 ((L.length : Int) - 1), .int .i64 r, .int .u64 0, .int .u64 0, .int .u64 0, .int .u64 0] 48 (0, 0)) →
        zqj_1 Q E p (L.length + R.length) c (some ⟨m, 0, none⟩) H5 := by
      intro H5 r hr he5 hc5
      unfold zqj_1
      simp only [ptr_some]
      refine ⟨k, (L.length : Int) - 1, r, 0, 0, 0, 0, rd_at hc5 _ 0 0 (fun j hj => by simp), ?_⟩
      refine nw_ext fun m2 H7 hm2 he7 hc7 => ?_
      have hv7 := hv3.ext (he5.trans he7)
      refine app_one (sz := 7) (ws := (⟨k, (L.length : Int) - 1, r, 0, 0, 0, 0⟩ : Nd).cells) sl23 hv7 hc7 rfl rfl (by omega) (by omega) fun p' c' H8 hv8 hs8 hb8 => ?_
      have he37 := (he3.trans he5).trans he7
      rw [flat_snoc, ← hr] at hv8
      have e : (joinN k L R).length = L.length + R.length + 1 := joinN_length k L R
      rw [← e] at hv8 ⊢
      refine hk H8 p' c' (fun j o hj => ?_) hv8 (fun j hj => ?_)
      · have := he37 _ _ hj
        rw [hs8 j (fun hb => by rw [hf3 j hb] at hj; cases hj) (by simp [this])]; exact this
      · rcases hb8 j hj with h | h
        · exact hf3 j h
        · exact he37.free h
    unfold zqj_3
    refine sel_dec (fun hg => ?_) (fun hg => ?_)
    · simp only [ptr_some, add_at]
      refine wr_at (Heap.set_self _ _ _) (by simp [over]) rfl ?_
      have w2 : IntKind.wrap .i64 (IntKind.wrap .i64 (((l1 : Nat) : Int) + ((l2 : Nat) : Int)) - 1) = (L.length : Int) + R.length - 1 := by
        rw [IntWalk.i64_in (_ + _) (by omega), IntWalk.i64_in _ (by omega), h1, h2]
      rw [w2]
      exact fin _ _ (if_pos (by omega)) ((he5 _).set hm _) (Heap.set_self _ _ _)
    · exact fin _ 0 (if_neg (by omega)) (he5 _) (Heap.set_self _ _ _)
end Go.Proofs.Ytaffcoiomggpfaa
