/- The statements LangLines and LangStays: their contracts. -/
import Derived.Test.YtaffcoiomggpfaaVL09
import Derived.Test.YtaffcoiomggpfaaVStay
namespace Go.Proofs.Ytaffcoiomggpfaa
open Go.V
attribute [local irreducible] app
set_option linter.constructorNameAsVariable false
set_option linter.unusedVariables false

theorem ends_le (st : List Nd) : ∀ (r : List UInt8) (i : Nat) (M : Ma), ∀ x ∈ endsL st r i M, x ≤ i + r.length
  | [], i, M, x, hx => by
    simp only [endsL] at hx
    split at hx <;> simp at hx
    simp; omega
  | c :: r, i, M, x, hx => by
    simp only [endsL] at hx
    rcases List.mem_append.1 hx with h | h
    · split at h <;> simp at h
      simp; omega
    · have := ends_le st r (i + 1) _ x h
      simp; omega
theorem endsOf_le {l : List Nd} {bs : List UInt8} {a x : Nat} (ha : a ≤ bs.length) (hx : x ∈ endsOf l bs a) : x ≤ bs.length := by
  unfold endsOf at hx
  split at hx
  · have := ends_le _ _ _ _ x hx
    simp at this; omega
  · simp at hx
theorem ends_len (st : List Nd) : ∀ (r : List UInt8) (i : Nat) (M : Ma), (endsL st r i M).length ≤ r.length + 1
  | [], i, M => by simp only [endsL]; split <;> simp
  | c :: r, i, M => by
    have := ends_len st r (i + 1) (Ma.read st true { M with now := (spread st M.bol (decide (c = 10)) M.now).1 } c.toNat)
    simp only [endsL, List.length_append, List.length_cons]
    split <;> simp <;> omega
theorem endsOf_len (l : List Nd) (bs : List UInt8) (a : Nat) : (endsOf l bs a).length ≤ bs.length + 1 := by
  unfold endsOf
  split
  · have := ends_len (buildOf l) (bs.drop a) a (startM (buildOf l) (decide (a = 0 ∨ bs[a - 1]? = some 10)))
    rw [List.length_drop] at this; omega
  · simp
set_option maxHeartbeats 1000000 in
theorem LangLines_c {H : Heap} {p pb : Option Addr} {n c nb cb : Nat} {xs : List Int} {bs : List UInt8} {Q : Value → Heap → Prop} {E : Chain → Heap → Prop} (h : Ints H p n xs) (hb : Byt H pb nb cb bs)
    (hk : ∀ H', Ext H H' → Q (.bool true) H') : Does Pr 6 #[.slice p n c, .slice pb nb cb] H Q E := by
  refine l09_LangLines_fn _ _ _ _ _ _ Q E H ?_
  unfold l09_LangLines l09_LangLines_36
  refine sane09_c fun H1 he1 => ⟨_, rfl, sel_ff ?_⟩
  unfold l09_LangLines_33
  refine sel_dec (fun _ => hk _ he1) (fun hnb => ?_)
  unfold l09_LangLines_30
  refine pattern09_c (h.ext he1) fun H2 pn cn L pt ct t he2 hvn hL hvt ht => ⟨_, _, _, _, _, _, rfl, ?_⟩
  have he12 := he1.trans he2
  have hb2 := hb.ext he12
  unfold l09_LangLines_27
  refine nw_ext fun i H3 hi he3 hc3 => ?_
  refine app_byt (bs := []) (vec_empty hc3) (hb2.ext he3) (by omega) fun p4 c4 H4 hv4 hs4 hb4 => ?_
  have he4 : Ext H2 H4 := ext_app he3 (fresh_blk hi) hs4
  have hf4 := fresh_app he3 (fresh_blk hi) hb4
  refine nw_ext fun k H5 hk5 he5 hc5 => ?_
  refine app_byt (ws := [10]) (hv4.ext he5) ⟨rfl, Nat.le_refl _, rd_at hc5 _ 0 0 fun j hj => by simp; rfl⟩ (by omega) fun p6 c6 H6 hv6 hs6 hb6 => ?_
  have he6 : Ext H2 H6 := ext_app (he4.trans he5) hf4 hs6
  have hf6 := fresh_app (he4.trans he5) hf4 hb6
  rw [List.nil_append] at hv6
  have hbl := hb2.1
  have hhl : (bs ++ [10]).length = 0 + nb + 1 := by simp; omega
  unfold l09_LangLines_24
  refine Ends_c (at_ := 0) (hvn.ext he6) ((vec_byt hvt).ext he6) (by omega) (by omega) fun H7 p7 c7 he7 hv7 => ⟨_, _, _, rfl, ?_⟩
  have hv67 := hv6.ext he7
  have he27 := he6.trans he7
  refine nw_ext fun i8 H8 hi8 he8 hc8 => ?_
  have he78 := he8
  refine app_byt (bs := []) (vec_empty hc8) (vec_byt (hv67.ext he8)) (by omega) fun p9 c9 H9 hv9 hs9 hb9 => ?_
  have he9 : Ext H7 H9 := ext_app he8 (fresh_blk hi8) hs9
  have hf9 := fresh_app he8 (fresh_blk hi8) hb9
  rw [List.nil_append] at hv9
  refine app_byt hv9 ((vec_byt hvt).ext (he27.trans he9)) (by omega) fun p10 c10 H10 hv10 hs10 hb10 => ?_
  have he10 : Ext H7 H10 := ext_app he9 hf9 hs10
  have hlines := endsOf_lines L bs t
  have hb10l : (bs ++ [10] ++ t).length = 0 + nb + 1 + t.length := by rw [List.length_append, hhl]
  generalize bs ++ [10] ++ t = W at hv10 hlines hb10l
  generalize (bs ++ [10]).length = D at hlines hhl
  subst hhl
  refine Ends_c (at_ := 0 + nb + 1) ((hvn.ext he27).ext he10) (vec_byt hv10) (by omega) (by omega) fun H11 p11 c11 he11 hv11 => ⟨_, _, _, rfl, ?_⟩
  rw [hlines] at hv11 ⊢
  have hA : Vec H11 1 p7 (endsOf L t 0).length c7 ((endsOf L t 0).map natV) := (hv7.ext he10).ext he11
  have hle : ∀ x ∈ endsOf L t 0, x ≤ t.length := fun x hx => endsOf_le (by omega) hx
  have hfin : Ext H H11 := ((he12.trans he27).trans he10).trans he11
  have hlenA := endsOf_len L t 0
  generalize endsOf L t 0 = A at hA hv11 hle hlenA
  unfold l09_LangLines_21
  refine sel_bne (fun hne => absurd (by rw [List.length_map]) hne) (fun _ => ?_)
  unfold l09_LangLines_17 l09_LangLines_14
  refine ⟨fun x H' => ∃ k : Nat, x = (k : Nat) ∧ k ≤ A.length ∧ H' = H11, fun x _ => (A.length - x).toNat, ⟨0, rfl, by omega, rfl⟩, ?_⟩
  rintro x H' ⟨k, rfl, hkl, rfl⟩
  unfold l09_LangLines_11 l09_LangLines_8
  refine sel_dec (fun hlt => ?_) (fun hge => ?_)
  · have hlt : k < A.length := by omega
    have ha : A[k]? = some A[k] := List.getElem?_eq_getElem hlt
    have ham := hle A[k] (List.getElem_mem hlt)
    generalize A[k] = a at ha ham
    obtain ⟨b1, t1, cs1, rfl, q1, g1⟩ := vec_at1 hA (n := k) (v := natV a) (by simp [ha])
    obtain ⟨b2, t2, cs2, rfl, q2, g2⟩ := vec_at1 hv11 (n := k) (v := natV (a + (0 + nb + 1))) (by simp [ha])
    unfold l09_LangLines_5
    simp only [ptr_some, add_at, Int.toNat_natCast, Nat.mul_one, Nat.zero_add]
    refine ⟨⟨by omega, by omega⟩, ldI_at q1 g1 ⟨⟨by omega, by rw [List.length_map]; omega⟩, ldI_at q2 g2 ?_⟩⟩
    have hw : IntKind.wrap .i64 (((a : Nat) : Int) + ((0 + nb + 1 : Nat) : Int)) = ((a + (0 + nb + 1) : Nat) : Int) := by rw [IntWalk.i64_in _ (by omega)]; omega
    refine sel_bne (fun hne => absurd (by rw [← hw, Nat.zero_add]) hne) (fun _ => ?_)
    unfold l09_LangLines_3
    have hw1 : IntKind.wrap .i64 ((k : Int) + 1) = ((k + 1 : Nat) : Int) := by rw [IntWalk.i64_in _ (by omega)]; omega
    rw [hw1]
    exact ⟨⟨k + 1, rfl, by omega, rfl⟩, by omega⟩
  · unfold l09_LangLines_1
    exact hk _ hfin
set_option maxHeartbeats 1000000 in
theorem LangStays_c {H : Heap} {p pb : Option Addr} {n c nb cb : Nat} {xs : List Int} {bs : List UInt8} {Q : Value → Heap → Prop} {E : Chain → Heap → Prop} (h : Ints H p n xs) (hb : Byt H pb nb cb bs)
    (hk : ∀ H', Ext H H' → Q (.bool true) H') : Does Pr 4 #[.slice p n c, .slice pb nb cb] H Q E := by
  refine l09_LangStays_fn _ _ _ _ _ _ Q E H ?_
  unfold l09_LangStays l09_LangStays_18
  refine sane09_c fun H1 he1 => ⟨_, rfl, sel_ff ?_⟩
  unfold l09_LangStays_15
  refine sel_dec (fun _ => hk _ he1) (fun hnb => ?_)
  unfold l09_LangStays_12
  refine pattern09_c (h.ext he1) fun H2 pn cn L pt ct t he2 hvn hL hvt ht => ⟨_, _, _, _, _, _, rfl, ?_⟩
  have he12 := he1.trans he2
  have hb2 := hb.ext he12
  obtain ⟨f1, f2, f3⟩ := firstOf_stays L t bs
  unfold l09_LangStays_9
  refine First_c hvn (vec_byt hvt) (by omega) fun H3 he3 => ⟨_, rfl, ?_⟩
  have he23 := he12.trans he3
  generalize firstOf L t = k at f1 f2 f3
  unfold l09_LangStays_5
  refine sel_dec (fun h => absurd h (by omega)) (fun _ => ?_)
  unfold l09_LangStays_3
  refine sel_dec (fun h => absurd h (by omega)) (fun _ => ?_)
  unfold l09_LangStays_1
  refine sel_dec (fun _ => hk _ he23) (fun hpos => ?_)
  obtain ⟨f4, f5⟩ := f3 (by omega)
  refine nw_ext fun i H4 hi he4 hc4 => ?_
  have hbt := (vec_byt hvt).ext (he3.trans he4)
  refine app_byt (bs := []) (vec_empty hc4) hbt (by omega) fun p5 c5 H5 hv5 hs5 hb5 => ?_
  have he5 : Ext H3 H5 := ext_app he4 (fresh_blk hi) hs5
  have hf5 := fresh_app he4 (fresh_blk hi) hb5
  rw [List.nil_append] at hv5
  refine app_byt hv5 (hb2.ext (he3.trans he5)) (by omega) fun p6 c6 H6 hv6 hs6 hb6 => ?_
  have he6 : Ext H3 H6 := ext_app he5 hf5 hs6
  refine First_c (hvn.ext (he3.trans he6)) (vec_byt hv6) (by omega) fun H7 he7 => ⟨_, rfl, ?_⟩
  rw [f4]
  have ek : ((k == k) : Bool) = true := by simp
  rw [ek]
  refine sel_tt ⟨⟨by omega, by have := hvt.2.1; omega⟩, ?_⟩
  have hbt7 := ((vec_byt hvt).ext ((he3.trans he6).trans he7)).take k.toNat (by omega)
  refine First_c (hvn.ext ((he3.trans he6).trans he7)) hbt7 (by omega) fun H8 he8 => ⟨_, rfl, ?_⟩
  rw [f5, ek]
  exact hk H8 (((he23.trans he6).trans he7).trans he8)
end Go.Proofs.Ytaffcoiomggpfaa
