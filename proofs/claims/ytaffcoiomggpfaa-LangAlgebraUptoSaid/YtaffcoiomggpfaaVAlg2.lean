import Derived.Test.YtaffcoiomggpfaaVL09b
import Derived.Test.YtaffcoiomggpfaaVTr
/- The statement LangAlgebra: its contract. -/
namespace Go.Proofs.Ytaffcoiomggpfaa
open Go.V
attribute [local irreducible] app
set_option linter.constructorNameAsVariable false
set_option linter.unusedVariables false

theorem has_c {H : Heap} {p : Option Addr} {c n : Nat} {A : List Nat} {Q : Value → Heap → Prop} {E : Chain → Heap → Prop} (h : Vec H 1 p A.length c (A.map natV)) (hsz : A.length ≤ 1048576) (hk : ∀ b : Bool, (b = true ↔ n ∈ A) → Q (.bool b) H) :
    Does Pr 25 #[.slice p A.length c, .int .i64 (n : Nat)] H Q E := by
  refine l09_has_fn _ _ _ _ Q E H ?_
  unfold l09_has l09_has_17 l09_has_14
  refine ⟨fun x H' => ∃ k : Nat, x = (k : Nat) ∧ k ≤ A.length ∧ H' = H ∧ n ∉ A.take k, fun x _ => (A.length - x).toNat, ⟨0, rfl, by omega, rfl, by simp⟩, ?_⟩
  rintro x H' ⟨k, rfl, hkl, rfl, hno⟩
  unfold l09_has_11 l09_has_8
  refine sel_dec (fun hlt => ?_) (fun hge => ?_)
  · have hlt : k < A.length := by omega
    have ha : A[k]? = some A[k] := List.getElem?_eq_getElem hlt
    have hmem : A[k] ∈ A := List.getElem_mem hlt
    generalize A[k] = a at ha hmem
    obtain ⟨b1, t1, cs1, rfl, q1, g1⟩ := vec_at1 h (n := k) (v := natV a) (by simp [ha])
    unfold l09_has_5
    simp only [ptr_some, add_at, Int.toNat_natCast, Nat.mul_one, Nat.zero_add]
    refine ⟨⟨by omega, by omega⟩, ldI_at q1 g1 ?_⟩
    refine sel_beq (fun he => hk true ⟨fun _ => ?_, fun _ => rfl⟩) (fun hne => ?_)
    · have : a = n := by omega
      rw [← this]; exact hmem
    · unfold l09_has_3
      have hw : IntKind.wrap .i64 ((k : Int) + 1) = ((k + 1 : Nat) : Int) := by rw [IntWalk.i64_in _ (by omega)]; omega
      rw [hw]
      refine ⟨⟨k + 1, rfl, by omega, rfl, ?_⟩, by omega⟩
      rw [List.take_add_one, ha]
      intro hm
      rcases List.mem_append.1 hm with hm | hm
      · exact hno hm
      · simp at hm; exact hne (by rw [hm])
  · obtain rfl : k = A.length := by omega
    unfold l09_has_1
    refine hk false ⟨fun hf => (by cases hf), fun hm => absurd hm (by rw [List.take_length] at hno; exact hno)⟩
theorem filter_snoc {P : Nat → Prop} [DecidablePred P] (n : Nat) : (List.range (n + 1)).filter (fun i => decide (P i)) = (List.range n).filter (fun i => decide (P i)) ++ (if P n then [n] else []) := by
  rw [List.range_succ, List.filter_append]
  congr 1
  by_cases h : P n <;> simp [h]
theorem filter_rising {P : Nat → Prop} [DecidablePred P] (n : Nat) : ((List.range n).filter (fun i => decide (P i))).Pairwise (· < ·) := List.Pairwise.filter _ List.pairwise_lt_range
theorem filter_len {P : Nat → Prop} [DecidablePred P] (n : Nat) : ((List.range n).filter (fun i => decide (P i))).length ≤ n := by
  have := List.length_filter_le (fun i => decide (P i)) (List.range n)
  rwa [List.length_range] at this
/-- A list of places of its own. -/
def Own (H0 H : Heap) (p : Option Addr) (l c : Nat) (A : List Nat) : Prop := Ext H0 H ∧ l = A.length ∧ Vec H 1 p A.length c (A.map natV) ∧ ∀ j, blk p j → H0 j = none
theorem Own.ext {H0 H H' : Heap} {p : Option Addr} {l c : Nat} {A : List Nat} (h : Own H0 H p l c A) (he : Ext H H') : Own H0 H' p l c A := ⟨h.1.trans he, h.2.1, h.2.2.1.ext he, h.2.2.2⟩
theorem Own.nil (H : Heap) : Own H H none 0 0 [] := ⟨Ext.refl _, rfl, Vec.nil _ 1, fun j hj => by obtain ⟨a, ha, _⟩ := hj; cases ha⟩
theorem Own.push {H0 H : Heap} {p : Option Addr} {l c n : Nat} {A : List Nat} {K : Option Addr → Nat → Nat → Heap → Prop} (h : Own H0 H p l c A) (hsz : A.length < 1048576)
    (hk : ∀ p' l' c' H', Own H0 H' p' l' c' (A ++ [n]) → K p' l' c' H') : nw (.cells #[.int .i64 (n : Nat)] 3 (0, 0)) H fun i H1 => app Pr 22 p l c (.slice (some ⟨i, 0, none⟩) 1 1) H1 K := by
  obtain ⟨h1, rfl, h3, h4⟩ := h
  refine nw_ext fun i H1 hi he1 hc1 => ?_
  refine app_one (sz := 1) (ws := [natV n]) sl22 (h3.ext he1) hc1 rfl rfl hsz (by omega) fun p' c' H2 hv hs hb => ?_
  have hlen : (A ++ [n]).length = A.length + 1 := by simp
  rw [← hlen] at hv ⊢
  refine hk p' _ c' H2 ⟨ext_app (h1.trans he1) h4 hs, rfl, by rw [hlen] at hv ⊢; simpa using hv, fresh_app (h1.trans he1) h4 hb⟩
theorem ints_nat (A : List Nat) : A.map natV = (A.map fun n => ((n : Nat) : Int)).map (Value.int .i64) := by rw [List.map_map]; rfl
theorem same_nat {H : Heap} {p1 p2 : Option Addr} {c1 c2 l1 l2 : Nat} {A B : List Nat} {Q : Value → Heap → Prop} {E : Chain → Heap → Prop} (h1 : Vec H 1 p1 A.length c1 (A.map natV)) (h2 : Vec H 1 p2 B.length c2 (B.map natV)) (e : A = B)
    (hl1 : l1 = A.length) (hl2 : l2 = B.length) (hsz : A.length ≤ 1048576) (hk : Q (.bool true) H) : Does Pr 26 #[.slice p1 l1 c1, .slice p2 l2 c2] H Q E := by
  subst hl1 hl2
  rw [ints_nat] at h1 h2
  exact same_c h1 h2 (by simp) (by simp) (by simpa using hsz) (fun _ => hk) (fun h => absurd (by rw [e]) h)
end Go.Proofs.Ytaffcoiomggpfaa

/- The statement LangAlgebra: its contract (2). -/
namespace Go.Proofs.Ytaffcoiomggpfaa
open Go.V
attribute [local irreducible] app
set_option linter.constructorNameAsVariable false
set_option linter.unusedVariables false

theorem ext_same {H H' : Heap} (he : Ext H H') {z : Nat} (hz : H z ≠ none) : H' z = H z := by
  cases e : H z with
  | none => exact absurd e hz
  | some o => exact he z o e
theorem pat7_size : ∀ i : Fin 7, (pat7 i).size ≤ 9 := by decide +kernel
theorem size_cons (l : List UInt8) : (⟨l.toArray⟩ : ByteArray).size = l.length := by simp [ByteArray.size]
set_option maxHeartbeats 2000000 in
theorem LangAlgebra_c {H : Heap} {i k : Int} {pb : Option Addr} {nb cb : Nat} {bs : List UInt8} {Q : Value → Heap → Prop} {E : Chain → Heap → Prop} (hb : Byt H pb nb cb bs)
    (hk : ∀ H', Ext H H' → Q (.bool true) H') : Does Pr 5 #[.int .i64 i, .int .i64 k, .slice pb nb cb] H Q E := by
  classical
  refine l09_LangAlgebra_fn _ _ _ _ _ Q E H ?_
  unfold l09_LangAlgebra l09_LangAlgebra_112
  refine sane09_c fun H1 he1 => ⟨_, rfl, sel_ff ?_⟩
  unfold l09_LangAlgebra_109
  refine sel_dec (fun _ => hk _ he1) (fun hnb => ?_)
  unfold l09_LangAlgebra_106
  refine ⟨fun _ => True, ?_⟩
  refine Patterns_c fun H2 i2 he2 hi2 hc2 => ⟨_, _, _, rfl, ?_⟩
  refine Mod_c (by decide) ⟨_, rfl, ?_⟩
  have hm1 := modOf_bounds (a := i) (n := 7) (by omega) (by omega)
  have hm2 := modOf_bounds (a := k) (n := 7) (by omega) (by omega)
  change 0 ≤ modOf i 7 ∧ modOf i 7 < 7 at hm1
  change 0 ≤ modOf k 7 ∧ modOf k 7 < 7 at hm2
  obtain ⟨i', ei⟩ : ∃ n : Nat, modOf i 7 = (n : Nat) := ⟨(modOf i 7).toNat, by omega⟩
  obtain ⟨k', ek⟩ : ∃ n : Nat, modOf k 7 = (n : Nat) := ⟨(modOf k 7).toNat, by omega⟩
  rw [ei] at hm1 ⊢
  have hi7 : i' < 7 := by omega
  have hk7 : k' < 7 := by rw [ek] at hm2; omega
  simp only [ptr_some, add_at, Int.toNat_natCast, Nat.mul_one, Nat.zero_add]
  refine ⟨⟨by omega, by omega⟩, trivial, ldS_at hc2 (pats_get hi7) ?_⟩
  refine Patterns_c fun H3 i3 he3 hi3 hc3 => ⟨_, _, _, rfl, fun z _ hz => ext_same he3 hz, ?_⟩
  refine Mod_c (by decide) ⟨_, rfl, fun _ _ _ => rfl, ?_⟩
  rw [ek]
  simp only [ptr_some, add_at, Int.toNat_natCast, Nat.zero_add]
  refine ⟨⟨by omega, by omega⟩, ldS_at hc3 (pats_get hk7) ?_⟩
  change l09_LangAlgebra_103 Q E pb nb cb (pat7 i') (pat7 k') H3
  have hs1 := pat7_size ⟨i', hi7⟩
  have hs2 := pat7_size ⟨k', hk7⟩
  dsimp only at hs1 hs2
  have he13 := (he1.trans he2).trans he3
  have valt := @algebra_alt i' k' hi7 hk7
  have vcat := @algebra_cat i' k' hi7 hk7
  have vplus := @algebra_plus i' hi7
  have vv := alg_valid ⟨i', hi7⟩ ⟨k', hk7⟩
  have hsp : ∀ {bs : List UInt8} {p : Nat}, p ≤ bs.length → (endsOf (rParse (altS (pat7 i') (pat7 k'))).1 bs p).Pairwise (· < ·) := fun hp => (endsOf_spec vv.2.1 hp).1
  have hsp2 : ∀ {bs : List UInt8} {p : Nat}, p ≤ bs.length → (endsOf (rParse (catS (pat7 i') (pat7 k'))).1 bs p).Pairwise (· < ·) := fun hp => (endsOf_spec vv.2.2.1 hp).1
  clear vv
  unfold altS at valt hsp
  unfold catS lp rp at vcat hsp2
  unfold plusS twiceS lp at vplus
  generalize pat7 i' = x7 at *
  generalize pat7 k' = x8 at *
  unfold l09_LangAlgebra_103
  refine rParse_c fun H4 pA cA LA eA hA hlA heA hvA => ⟨_, _, _, _, rfl, ?_⟩
  unfold l09_LangAlgebra_100
  refine rParse_c fun H5 pB cB LB eB hB hlB heB hvB => ⟨_, _, _, _, rfl, ?_⟩
  unfold l09_LangAlgebra_97
  simp only [ByteArray.size_append, size_cons, List.length_cons, List.length_nil]
  refine ⟨by omega, by omega, rParse_c fun H6 pC cC LC eC hC hlC heC hvC => ⟨_, _, _, _, rfl, ?_⟩⟩
  unfold l09_LangAlgebra_94
  simp only [ByteArray.size_append, size_cons, List.length_cons, List.length_nil]
  refine ⟨by omega, by omega, by omega, by omega, rParse_c fun H7 pD cD LD eD hD hlD heD hvD => ⟨_, _, _, _, rfl, ?_⟩⟩
  unfold l09_LangAlgebra_91
  simp only [ByteArray.size_append, size_cons, List.length_cons, List.length_nil]
  refine ⟨by omega, by omega, rParse_c fun H8 pE cE LE eE hE hlE heE hvE => ⟨_, _, _, _, rfl, ?_⟩⟩
  unfold l09_LangAlgebra_88
  simp only [ByteArray.size_append, size_cons, List.length_cons, List.length_nil]
  refine ⟨by omega, by omega, by omega, by omega, rParse_c fun HB pF cF LF eF hF hlF heF hvF => ⟨_, _, _, _, rfl, ?_⟩⟩
  rw [hA, hB, hC] at valt
  rw [hA, hB, hD] at vcat
  rw [hE, hF] at vplus
  rw [hC] at hsp
  rw [hD] at hsp2
  dsimp only at valt vcat vplus hsp hsp2
  replace hvA := ((((hvA.ext heB).ext heC).ext heD).ext heE).ext heF
  replace hvB := (((hvB.ext heC).ext heD).ext heE).ext heF
  replace hvC := ((hvC.ext heD).ext heE).ext heF
  replace hvD := (hvD.ext heE).ext heF
  replace hvE := hvE.ext heF
  have heHB : Ext H HB := (((((he13.trans heA).trans heB).trans heC).trans heD).trans heE).trans heF
  replace hb := hb.ext heHB
  clear heA heB heC heD heE heF hA hB hC hD hE hF he13 he1 he2 he3 hc2 hc3
  have hnl : nb = bs.length := hb.1.symm
  unfold l09_LangAlgebra_84 l09_LangAlgebra_81
  refine ⟨fun x H' => ∃ a : Nat, x = (a : Nat) ∧ a ≤ nb + 1 ∧ Ext HB H', fun x _ => ((nb : Int) + 1 - x).toNat, ⟨0, rfl, by omega, Ext.refl _⟩, ?_⟩
  rintro x H9 ⟨a, rfl, ha, he9⟩
  unfold l09_LangAlgebra_78
  refine sel_dec (fun hle => ?_) (fun hgt => by unfold l09_LangAlgebra_1; exact hk _ (heHB.trans he9))
  have hle : a ≤ bs.length := by omega
  unfold l09_LangAlgebra_73
  refine Ends_c (at_ := a) (hvA.ext he9) (hb.ext he9) (by omega) (by omega) fun H10 pX cX he10 hvX => ⟨_, _, _, rfl, ?_⟩
  refine Ends_c (at_ := a) (hvB.ext (he9.trans he10)) (hb.ext (he9.trans he10)) (by omega) (by omega) fun H11 pY cY he11 hvY => ⟨_, _, _, rfl, ?_⟩
  have hXle : ∀ m ∈ endsOf LA bs a, m ≤ bs.length := fun m hm => endsOf_le hle hm
  have hXlen := endsOf_len LA bs a
  have hYlen := endsOf_len LB bs a
  have valt1 := fun n => valt (bs := bs) (p := a) (n := n) hle
  have vcat1 := fun n => vcat (bs := bs) (p := a) (n := n) hle hXle
  have hspa := hsp (bs := bs) (p := a) hle
  have hspc := hsp2 (bs := bs) (p := a) hle
  have hple := @endsOf_le LC bs a
  have hcle := @endsOf_le LD bs a
  have hvp := vplus (bs := bs) (p := a) hle
  replace hvX := hvX.ext he11
  have he911 : Ext HB H11 := (he9.trans he10).trans he11
  generalize endsOf LA bs a = X at *
  generalize endsOf LB bs a = Y at *
  clear valt vcat hsp hsp2 vplus
  unfold l09_LangAlgebra_70 l09_LangAlgebra_66 l09_LangAlgebra_63
  refine ⟨fun p l c x H' => ∃ n : Nat, x = (n : Nat) ∧ n ≤ nb + 1 ∧ Own H11 H' p l c ((List.range n).filter (fun n => decide (n ∈ X ∨ n ∈ Y))), fun _ _ _ x _ => ((nb : Int) + 1 - x).toNat, ⟨0, rfl, by omega, Own.nil _⟩, ?_⟩
  rintro pz lz cz x H12 ⟨n, rfl, hn, ho⟩
  have he12 := ho.1
  have hzlen := filter_len (P := fun n => n ∈ X ∨ n ∈ Y) n
  unfold l09_LangAlgebra_60
  refine sel_dec (fun hle1 => ?_) (fun hgt1 => ?_)
  · have hwn : IntKind.wrap .i64 ((n : Int) + 1) = ((n + 1 : Nat) : Int) := by rw [IntWalk.i64_in _ (by omega)]; omega
    have hfs := filter_snoc (P := fun n => n ∈ X ∨ n ∈ Y) n
    unfold l09_LangAlgebra_55
    have step : ∀ v : Bool, (v = true ↔ n ∈ X ∨ n ∈ Y) → l09_LangAlgebra_53 (fun x21' H1 => (∃ a : Nat, x21' = (a : Nat) ∧ a ≤ nb + 1 ∧ Ext HB H1) ∧ ((nb : Int) + 1 - x21').toNat < ((nb : Int) + 1 - (a : Nat)).toNat)
        (fun x24' l24' c24' x25' H1 => (∃ n : Nat, x25' = (n : Nat) ∧ n ≤ nb + 1 ∧ Own H11 H1 x24' l24' c24' ((List.range n).filter (fun n => decide (n ∈ X ∨ n ∈ Y)))) ∧ ((nb : Int) + 1 - x25').toNat < ((nb : Int) + 1 - (n : Nat)).toNat)
        Q E pb nb cb pA LA.length cA pB LB.length cB pC LC.length cC pD LD.length cD pE LE.length cE pF LF.length cF a pX X.length cX pY Y.length cY pz lz cz n v H12 := by
      intro v hv
      unfold l09_LangAlgebra_53
      refine sel_mk (fun ht => ?_) (fun hf => ?_)
      · refine ho.push (n := n) (by omega) fun p' l' c' H13 ho' => ?_
        unfold l09_LangAlgebra_51
        rw [hwn]
        refine ⟨⟨n + 1, rfl, by omega, ?_⟩, by omega⟩
        rw [hfs, if_pos (hv.1 ht)]; exact ho'
      · unfold l09_LangAlgebra_51
        rw [hwn]
        refine ⟨⟨n + 1, rfl, by omega, ?_⟩, by omega⟩
        rw [hfs, if_neg (fun h => by rw [hv.2 h] at hf; cases hf), List.append_nil]; exact ho
    refine has_c (n := n) (hvX.ext he12) (by omega) fun b hbX => ⟨_, rfl, sel_mk (fun hbt => ?_) (fun hbf => ?_)⟩
    · exact step true ⟨fun _ => .inl (hbX.1 hbt), fun _ => rfl⟩
    · refine has_c (n := n) (hvY.ext he12) (by omega) fun b2 hbY => ⟨_, rfl, ?_⟩
      exact step b2 ⟨fun h => .inr (hbY.1 h), fun h => h.elim (fun h => by rw [hbX.2 h] at hbf; cases hbf) hbY.2⟩
  obtain rfl : n = nb + 1 := by omega
  have hZ : (List.range (nb + 1)).filter (fun n => decide (n ∈ X ∨ n ∈ Y)) = endsOf LC bs a := by
    refine rising_eq (filter_rising _) hspa fun m => ?_
    rw [List.mem_filter, valt1, List.mem_range, decide_eq_true_iff]
    refine ⟨fun h => h.2, fun h => ⟨?_, h⟩⟩
    have := hple hle ((valt1 m).2 h); omega
  rw [hZ] at ho hzlen
  obtain ⟨_, hlz, hvZ, hfZ⟩ := ho
  have he912 : Ext HB H12 := he911.trans he12
  replace hvX := hvX.ext he12
  unfold l09_LangAlgebra_48 l09_LangAlgebra_44 l09_LangAlgebra_41
  refine ⟨fun p l c x H' => ∃ n : Nat, x = (n : Nat) ∧ n ≤ nb + 1 ∧ Own H12 H' p l c ((List.range n).filter (fun n => decide (∃ m ∈ X, n ∈ endsOf LB bs m))), fun _ _ _ x _ => ((nb : Int) + 1 - x).toNat, ⟨0, rfl, by omega, Own.nil _⟩, ?_⟩
  rintro pw lw cw x H13 ⟨n, rfl, hn1, how⟩
  have hwlen := filter_len (P := fun n => ∃ m ∈ X, n ∈ endsOf LB bs m) n
  unfold l09_LangAlgebra_38
  refine sel_dec (fun hle2 => ?_) (fun hgt2 => ?_)
  · have hwn : IntKind.wrap .i64 ((n : Int) + 1) = ((n + 1 : Nat) : Int) := by rw [IntWalk.i64_in _ (by omega)]; omega
    have hfs := filter_snoc (P := fun n => ∃ m ∈ X, n ∈ endsOf LB bs m) n
    have hnW : n ∉ (List.range n).filter (fun n => decide (∃ m ∈ X, n ∈ endsOf LB bs m)) := fun h => by
      have := (List.mem_filter.1 h).1; rw [List.mem_range] at this; omega
    generalize (List.range n).filter (fun n => decide (∃ m ∈ X, n ∈ endsOf LB bs m)) = W at how hwlen hfs hnW
    unfold l09_LangAlgebra_33 l09_LangAlgebra_30
    refine ⟨fun p l c x H' => ∃ j : Nat, x = (j : Nat) ∧ j ≤ X.length ∧ Own H12 H' p l c (W ++ if ∃ m ∈ X.take j, n ∈ endsOf LB bs m then [n] else []), fun _ _ _ x _ => ((X.length : Int) - x).toNat, ⟨0, rfl, by omega, ?_⟩, ?_⟩
    · rw [if_neg (by rintro ⟨m, hm, _⟩; simp at hm), List.append_nil]; exact how
    rintro pv lv cv x H14 ⟨j, rfl, hj, hov⟩
    have he14 := hov.1
    have hlenW : (W ++ if ∃ m ∈ X.take j, n ∈ endsOf LB bs m then [n] else []).length ≤ n + 1 := by
      rw [List.length_append]; split <;> simp <;> omega
    have hmW : n ∈ (W ++ if ∃ m ∈ X.take j, n ∈ endsOf LB bs m then [n] else []) ↔ ∃ m ∈ X.take j, n ∈ endsOf LB bs m := by
      rw [List.mem_append]
      constructor
      · rintro (h | h)
        · exact absurd h hnW
        · split at h
          · assumption
          · simp at h
      · intro h; right; rw [if_pos h]; simp
    unfold l09_LangAlgebra_27 l09_LangAlgebra_24
    refine sel_dec (fun hlt => ?_) (fun hge => ?_)
    · have hlt : j < X.length := by omega
      have hxj : X[j]? = some X[j] := List.getElem?_eq_getElem hlt
      have hxm := hXle X[j] (List.getElem_mem hlt)
      have htk : ∀ P : Nat → Prop, (∃ m ∈ X.take (j + 1), P m) ↔ (∃ m ∈ X.take j, P m) ∨ P X[j] := fun P => by
        rw [List.take_add_one, hxj]
        constructor
        · rintro ⟨m, hm, hp⟩
          rcases List.mem_append.1 hm with hm | hm
          · exact .inl ⟨m, hm, hp⟩
          · simp at hm; subst hm; exact .inr hp
        · rintro (⟨m, hm, hp⟩ | hp)
          · exact ⟨m, List.mem_append_left _ hm, hp⟩
          · exact ⟨_, List.mem_append_right _ (by simp), hp⟩
      generalize X[j] = m at hxj hxm htk
      obtain ⟨b1, t1, cs1, rfl, q1, g1⟩ := vec_at1 (hvX.ext he14) (n := j) (v := natV m) (by simp [hxj])
      unfold l09_LangAlgebra_19
      simp only [ptr_some, add_at, Int.toNat_natCast, Nat.mul_one, Nat.zero_add]
      refine ⟨⟨by omega, by omega⟩, ldI_at q1 g1 ?_⟩
      unfold l09_LangAlgebra_16
      refine Ends_c (at_ := m) (hvB.ext (he912.trans he14)) (hb.ext (he912.trans he14)) (by omega) (by omega) fun H15 pU cU he15 hvU => ⟨_, _, _, rfl, ?_⟩
      have hUlen := endsOf_len LB bs m
      have hwj : IntKind.wrap .i64 ((j : Int) + 1) = ((j + 1 : Nat) : Int) := by rw [IntWalk.i64_in _ (by omega)]; omega
      have hov' := hov.ext he15
      refine has_c (n := n) hvU (by omega) fun b hbU => ⟨_, rfl, sel_mk (fun hbt => ?_) (fun hbf => ?_)⟩
      · obtain ⟨_, hlv, hvv, _⟩ := id hov'
        rw [hlv]
        refine has_c (n := n) hvv (by omega) fun b2 hb2 => ⟨_, rfl, ?_⟩
        rw [← hlv]
        unfold l09_LangAlgebra_14
        refine sel_mk (fun hn2 => ?_) (fun hn2 => ?_)
        · have hno : ¬ ∃ m ∈ X.take j, n ∈ endsOf LB bs m := fun h => by rw [hb2.2 (hmW.2 h)] at hn2; cases hn2
          rw [if_neg hno, List.append_nil] at hov'
          refine hov'.push (n := n) (by omega) fun p' l' c' H16 ho' => ?_
          unfold l09_LangAlgebra_12
          rw [hwj]
          refine ⟨⟨j + 1, rfl, by omega, ?_⟩, by omega⟩
          rw [if_pos ((htk _).2 (.inr (hbU.1 hbt)))]; exact ho'
        · have hyes : ∃ m ∈ X.take j, n ∈ endsOf LB bs m := hmW.1 (hb2.1 (by simpa using hn2))
          rw [if_pos hyes] at hov'
          unfold l09_LangAlgebra_12
          rw [hwj]
          refine ⟨⟨j + 1, rfl, by omega, ?_⟩, by omega⟩
          rw [if_pos ((htk _).2 (.inl hyes))]; exact hov'
      · unfold l09_LangAlgebra_14
        refine sel_ff ?_
        unfold l09_LangAlgebra_12
        rw [hwj]
        refine ⟨⟨j + 1, rfl, by omega, ?_⟩, by omega⟩
        have : (∃ m ∈ X.take (j + 1), n ∈ endsOf LB bs m) ↔ ∃ m ∈ X.take j, n ∈ endsOf LB bs m := (htk _).trans ⟨fun h => h.elim id (fun h => by rw [hbU.2 h] at hbf; cases hbf), .inl⟩
        simp only [this]; exact hov'
    · obtain rfl : j = X.length := by omega
      rw [List.take_length] at hov
      unfold l09_LangAlgebra_10
      rw [hwn]
      refine ⟨⟨n + 1, rfl, by omega, ?_⟩, by show ((nb : Int) + 1 - ((n + 1 : Nat) : Int)).toNat < ((nb : Int) + 1 - (n : Nat)).toNat; omega⟩
      rw [hfs]; exact hov
  obtain rfl : n = nb + 1 := by omega
  have hW : (List.range (nb + 1)).filter (fun n => decide (∃ m ∈ X, n ∈ endsOf LB bs m)) = endsOf LD bs a := by
    refine rising_eq (filter_rising _) hspc fun m => ?_
    rw [List.mem_filter, vcat1, List.mem_range, decide_eq_true_iff]
    refine ⟨fun h => h.2, fun h => ⟨?_, h⟩⟩
    have := hcle hle ((vcat1 m).2 h); omega
  rw [hW] at how hwlen
  obtain ⟨he13, hlw, hvW, hfW⟩ := how
  have he913 : Ext HB H13 := he912.trans he13
  replace hvZ := hvZ.ext he13
  unfold l09_LangAlgebra_7
  have fin : ∀ H', Ext HB H' → l09_LangAlgebra_5 (fun x21' H1 => (∃ a : Nat, x21' = (a : Nat) ∧ a ≤ nb + 1 ∧ Ext HB H1) ∧ ((nb : Int) + 1 - x21').toNat < ((nb : Int) + 1 - (a : Nat)).toNat) Q E pb nb cb pA LA.length cA pB LB.length cB pC LC.length cC pD LD.length cD pE LE.length cE pF LF.length cF a false H' := by
    intro H' he'
    unfold l09_LangAlgebra_5
    refine sel_ff ?_
    unfold l09_LangAlgebra_3
    have hwa : IntKind.wrap .i64 ((a : Int) + 1) = ((a + 1 : Nat) : Int) := by rw [IntWalk.i64_in _ (by omega)]; omega
    rw [hwa]
    exact ⟨⟨a + 1, rfl, by omega, he'⟩, by omega⟩
  refine Ends_c (at_ := a) (hvC.ext he913) (hb.ext he913) (by omega) (by omega) fun H20 p20 c20 he20 hv20 => ⟨_, _, _, rfl, ?_⟩
  refine same_nat hv20 (hvZ.ext he20) rfl rfl hlz (by omega) ⟨_, rfl, sel_ff ?_⟩
  refine Ends_c (at_ := a) (hvD.ext (he913.trans he20)) (hb.ext (he913.trans he20)) (by omega) (by omega) fun H21 p21 c21 he21 hv21 => ⟨_, _, _, rfl, ?_⟩
  refine same_nat hv21 ((hvW.ext he20).ext he21) rfl rfl hlw (by omega) ⟨_, rfl, sel_ff ?_⟩
  have he921 := (he913.trans he20).trans he21
  refine Ends_c (at_ := a) (hvE.ext he921) (hb.ext he921) (by omega) (by omega) fun H22 p22 c22 he22 hv22 => ⟨_, _, _, rfl, ?_⟩
  refine Ends_c (at_ := a) (hvF.ext (he921.trans he22)) (hb.ext (he921.trans he22)) (by omega) (by omega) fun H23 p23 c23 he23 hv23 => ⟨_, _, _, rfl, ?_⟩
  have hElen := endsOf_len LE bs a
  refine same_nat (hv22.ext he23) hv23 hvp rfl rfl (by omega) ⟨_, rfl, ?_⟩
  exact fin _ ((he921.trans he22).trans he23)
end Go.Proofs.Ytaffcoiomggpfaa
