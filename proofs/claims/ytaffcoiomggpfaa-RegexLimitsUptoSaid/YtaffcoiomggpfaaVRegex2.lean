/- Contracts of package regex (2): classes. -/
import Derived.Test.YtaffcoiomggpfaaVRegex
namespace Go.Proofs.Ytaffcoiomggpfaa
open Go.V
attribute [local irreducible] app
set_option linter.constructorNameAsVariable false
set_option linter.unusedVariables false

theorem class_or {nx : Bool → Heap → Prop} {Q : Value → Heap → Prop} {E : Chain → Heap → Prop} {x0 x2 : Option Addr} {x6 : Bool} {b j k : Nat} {Hb H : Heap} {r : RP} {out set : S4}
    (h : RPs Hb H b r) (hj : Hb j = some (cs out)) (hk : Hb k = some (cs set)) (hjk : j ≠ k) (hn : ∀ H', RPs (Hb.set j (cs (out.or set))) H' b r → nx true H') :
    regex_parser_class_19 nx Q E x0 x2 (some ⟨j, 0, none⟩) x6 (some ⟨k, 0, none⟩) H := by
  unfold regex_parser_class_19 regex_parser_class_16
  refine ⟨fun x Hc => ∃ n : Nat, x = (n : Nat) ∧ n ≤ 4 ∧ RPs (Hb.set j (cs (out.orN set n))) Hc b r, fun x _ => (4 - x).toNat, ⟨0, by simp, by omega, ?_⟩, ?_⟩
  · have : Hb.set j (cs (out.orN set 0)) = Hb := by
      funext i; by_cases e : i = j
      · subst e; rw [Heap.set_self]; exact hj.symm
      · rw [Heap.set_ne _ _ e]
    rw [this]; exact h
  rintro x Hc ⟨n, rfl, hn4, hc⟩
  have hcj : Hc j = some (cs (out.orN set n)) := hc.1.get
  have hck : Hc k = some (cs set) := hc.1 k _ (by rw [Heap.set_ne _ _ (Ne.symm hjk)]; exact hk)
  unfold regex_parser_class_13 regex_parser_class_10
  refine sel_dec (fun hd => ?_) (fun hd => ?_)
  · unfold regex_parser_class_8
    have h4 : n < 4 := by omega
    simp only [ptr_some, add_at, Int.toNat_natCast, Nat.mul_one, Nat.zero_add]
    refine ⟨⟨by omega, by omega⟩, ldI_at hcj (S4.cells_get _ h4) ⟨⟨by omega, by omega⟩, ldI_at hck (S4.cells_get _ h4) ⟨⟨by omega, by omega⟩, ?_⟩⟩⟩
    refine wr_at hcj (by simp [S4.cells]; omega) rfl ?_
    rw [S4.cells_put _ h4]
    have hw : IntKind.wrap .i64 ((n : Int) + 1) = ((n + 1 : Nat) : Int) := by rw [IntWalk.i64_in _ (by omega)]; omega
    rw [hw]
    exact ⟨⟨n + 1, rfl, by omega, hc.upd (cs (out.orN set (n + 1)))⟩, by omega⟩
  · obtain rfl : n = 4 := by omega
    unfold regex_parser_class_6
    exact hn _ hc
theorem member_byte {r r' : RP} {n : Nat} {s : S4} {k : Bool} (h : r.member = ((n, s, k), r')) : n ≤ 255 := by
  unfold RP.member at h
  split at h
  · cases h; omega
  · rename_i c hn
    have := (RP.next_some hn).2.2.2
    split at h
    · cases h; omega
    · split at h
      · unfold RP.escape at h
        split at h
        · cases h; omega
        · rename_i c2 hn2
          have h2 := (RP.next_some hn2).2.2.2
          split at h
          · cases h; omega
          · split at h
            rename_i n' k' hs
            cases h
            exact single_le hs h2
      · cases h; exact this
/-- What may come behind a member: a range. -/
def RP.elem (r1 : RP) (first : Nat) (set : S4) (many : Bool) : S4 × RP :=
  if r1.next = (45, true) then
    match (if many = true then r1.inc.fail 80 else r1.inc).member with
    | ((last, _, many2), r4) => (set.with_ first last, if many2 = true ∨ last < first then r4.fail 80 else r4)
  else (set, r1)
def RP.classLoop : Nat → Bool → S4 → RP → (S4 × Bool) × RP
  | 0, _, _, r => ((S4.zero, false), r)
  | n + 1, some_, out, r =>
    if r.next = (93, true) ∧ some_ = true then ((out, true), r.inc)
    else match r.member with
      | ((first, set, many), r1) => match r1.elem first set many with
        | (set', r5) => if r5.e ≠ 0 then ((S4.zero, false), r5) else classLoop n true (out.or set') r5
def classOut (c : Nat) : (S4 × Bool) × RP → S4 × RP
  | ((out, true), r') => (if c = 94 then out.not else out, r')
  | ((_, false), r') => (S4.zero, r')
def RP.class (r : RP) : S4 × RP := classOut r.next.1 ((if r.next.1 = 94 then r.inc else r).classLoop (r.s.size + 1) false S4.zero)
theorem elem_le {r1 r5 : RP} {first : Nat} {set set' : S4} {many : Bool} (h : r1.elem first set many = (set', r5)) : r1.Le r5 := by
  unfold RP.elem at h
  split at h
  · split at h
    rename_i last s2 many2 r4 hm
    cases h
    have h1 : r1.Le (if many = true then r1.inc.fail 80 else r1.inc) := by
      split
      · exact (RP.Le.inc _).trans (.fail _ _ (by decide))
      · exact .inc _
    refine h1.trans ((member_le hm).1.trans ?_)
    split
    · exact .fail _ _ (by decide)
    · exact .refl _
  · cases h; exact .refl _
/-- The part of a round behind the first member. -/
theorem class_46 {nx : Bool → Heap → Prop} {Q : Value → Heap → Prop} {E : Chain → Heap → Prop} {x6 many : Bool} {b i j k first : Nat} {Hb H H0 : Heap} {r : RP} {out set : S4}
    (h : RPs Hb H b r) (he : Ext H0 Hb) (hi0 : H0 i = none) (hi : Hb i = some (cs S4.zero)) (hj : Hb j = some (cs out)) (hk : Hb k = some (cs set)) (hjk : j ≠ k) (hij : i ≠ j) (hf : first ≤ 255)
    (hj0 : H0 j = none) (hk0 : H0 k = none) (hik : i ≠ k)
    (hbad : ∀ set' r' H', r.elem first set many = (set', r') → r'.e ≠ 0 → RPs H0 H' b r' → Q (.agg S4.zero.cells) H')
    (hgo : ∀ set' r' H' Hb', r.elem first set many = (set', r') → r'.e = 0 → Ext H0 Hb' → Hb' i = some (cs S4.zero) → Hb' j = some (cs (out.or set')) → RPs Hb' H' b r' → nx true H') :
    regex_parser_class_46 nx Q E (some ⟨b, 0, none⟩) (some ⟨i, 0, none⟩) (some ⟨j, 0, none⟩) x6 (first : Nat) (some ⟨k, 0, none⟩) many H := by
  have c22 : ∀ (set' : S4) (r' : RP) (H' Hb' : Heap), r.elem first set many = (set', r') → Ext H0 Hb' → Hb' i = some (cs S4.zero) → Hb' j = some (cs out) → Hb' k = some (cs set') → RPs Hb' H' b r' →
      regex_parser_class_22 nx Q E (some ⟨b, 0, none⟩) (some ⟨i, 0, none⟩) (some ⟨j, 0, none⟩) x6 (some ⟨k, 0, none⟩) H' := by
    intro set' r' H' Hb' hr he' hi' hj' hk' h'
    unfold regex_parser_class_22
    simp only [ptr_some]
    refine h'.ld4 ?_
    refine sel_bne (fun hne => ?_) (fun heq => ?_)
    · refine S4.wr S4.zero (h'.1 i _ hi') ⟨_, _, _, _, S4.rd (s := S4.zero) (Heap.set_self _ _ _), ?_⟩
      exact hbad set' r' _ hr hne ((h'.upd' hi' (cs S4.zero)).weaken (he'.set hi0 _))
    · refine class_or h' hj' hk' hjk fun H2 h2 => ?_
      exact hgo set' r' H2 _ hr heq (he'.set hj0 _) (by rw [Heap.set_ne _ _ hij]; exact hi') (Heap.set_self _ _ _) h2
  have hsz := h.bound
  -- behind the range's end
  have c27 : ∀ (last : Nat) (many2 : Bool) (s2 : S4) (r4 : RP) (H' Hb' : Heap), last ≤ 255 → r.next = (45, true) → (if many = true then r.inc.fail 80 else r.inc).member = ((last, s2, many2), r4) →
      Ext H0 Hb' → Hb' i = some (cs S4.zero) → Hb' j = some (cs out) → Hb' k = some (cs set) → RPs Hb' H' b r4 →
      regex_parser_class_29 nx Q E (some ⟨b, 0, none⟩) (some ⟨i, 0, none⟩) (some ⟨j, 0, none⟩) x6 (first : Nat) (some ⟨k, 0, none⟩) (last : Nat) many2 H' := by
    intro last many2 s2 r4 H' Hb' hl h45 hm he' hi' hj' hk' h'
    have c25 : ∀ (r5 : RP) (H5 : Heap), r.elem first set many = (set.with_ first last, r5) → RPs Hb' H5 b r5 →
        regex_parser_class_25 nx Q E (some ⟨b, 0, none⟩) (some ⟨i, 0, none⟩) (some ⟨j, 0, none⟩) x6 (first : Nat) (some ⟨k, 0, none⟩) (last : Nat) H5 := by
      intro r5 H5 hr h5
      unfold regex_parser_class_25
      simp only [ptr_some]
      refine ⟨_, _, _, _, S4.rd (h5.1 k _ hk'), ?_⟩
      refine with_c (s := set) hf hl fun H6 he6 => ?_
      refine ⟨_, _, _, _, rfl, ?_⟩
      have h6 := h5.ext he6
      refine S4.wr (set.with_ first last) (h6.1 k _ hk') ?_
      refine c22 _ _ _ (Hb'.set k (cs (set.with_ first last))) hr (he'.set hk0 _) ?_ ?_ (Heap.set_self _ _ _) (h6.upd' hk' _)
      · rw [Heap.set_ne _ _ hik]; exact hi'
      · rw [Heap.set_ne _ _ hjk]; exact hj'
    have el : ∀ r5, (if many2 = true ∨ last < first then r4.fail 80 else r4) = r5 → r.elem first set many = (set.with_ first last, r5) := by
      intro r5 h5
      simp only [RP.elem, if_pos h45, hm, h5]
    unfold regex_parser_class_29
    cases many2 with
    | true =>
      refine sel_tt ?_
      unfold regex_parser_class_27
      refine sel_tt (fail_c h' fun H5 h5 => ⟨_, rfl, c25 _ H5 (el _ (if_pos (.inl rfl))) h5⟩)
    | false =>
      refine sel_ff ?_
      unfold regex_parser_class_27
      refine sel_dec (fun hd => ?_) (fun hd => ?_)
      · exact fail_c h' fun H5 h5 => ⟨_, rfl, c25 _ H5 (el _ (if_pos (.inr (by omega)))) h5⟩
      · exact c25 _ H' (el _ (if_neg (by simp; omega))) h'
  unfold regex_parser_class_46
  refine next_c h ?_
  refine ⟨_, _, rfl, ?_⟩
  cases hn : r.next with
  | mk c ok =>
    have no : r.next ≠ (45, true) → regex_parser_class_39 nx Q E (some ⟨b, 0, none⟩) (some ⟨i, 0, none⟩) (some ⟨j, 0, none⟩) x6 (some ⟨k, 0, none⟩) H := by
      intro hne
      unfold regex_parser_class_39
      exact c22 set r H Hb (by unfold RP.elem; rw [if_neg hne]) he hi hj hk h
    unfold regex_parser_class_43
    cases ok with
    | false =>
      refine sel_ff ?_
      unfold regex_parser_class_41
      exact sel_ff (no (by rw [hn]; simp))
    | true =>
      refine sel_tt ?_
      obtain ⟨g1, g2, g3, g4⟩ := RP.next_some hn
      unfold regex_parser_class_41
      refine sel_beq (fun h45 => ?_) (fun h45 => no (by rw [hn]; simp; omega))
      obtain rfl : c = 45 := by omega
      unfold regex_parser_class_36
      simp only [ptr_some]
      refine h.ld1 (h.st1 (a := r.at_ + 1) (by rw [IntWalk.i64_in _ (by omega)]; omega) (by omega) fun H1 h1 => ?_)
      have c33 : ∀ (r2 : RP) (H2 : Heap), (if many = true then r.inc.fail 80 else r.inc) = r2 → RPs Hb H2 b r2 →
          regex_parser_class_33 nx Q E (some ⟨b, 0, none⟩) (some ⟨i, 0, none⟩) (some ⟨j, 0, none⟩) x6 (first : Nat) (some ⟨k, 0, none⟩) H2 := by
        intro r2 H2 hr2 h2
        unfold regex_parser_class_33
        refine member_c h2 fun n s2 k2 r4 H4 hm h4 => ?_
        refine ⟨_, _, _, _, _, _, rfl, ?_⟩
        intro m hm4
        have h5 := h4.new hm4 (.cells S4.zero.cells 46 (0, 0))
        refine S4.wr s2 h5.1.get ?_
        have h6 := h5.upd (.cells s2.cells 46 (0, 0))
        have hb : ∀ {q o}, Hb q = some o → (Hb.set m (.cells s2.cells 46 (0, 0))) q = some o := fun {q o} hq => by
          rw [Heap.set_ne _ _ (ne_of (h4.1 _ _ hq) hm4)]; exact hq
        exact c27 n k2 s2 r4 _ (Hb.set m (.cells s2.cells 46 (0, 0))) (member_byte hm) hn (by rw [hr2]; exact hm) (he.set ((he.trans h4.1).free hm4) _) (hb hi) (hb hj) (hb hk) h6
      cases many with
      | true => exact sel_tt (fail_c h1 fun H2 h2 => ⟨_, rfl, c33 _ H2 rfl h2⟩)
      | false => exact sel_ff (c33 _ H1 rfl h1)
theorem class_c {H0 H : Heap} {b : Nat} {r : RP} {Q : Value → Heap → Prop} {E : Chain → Heap → Prop} (h : RPs H0 H b r)
    (hk : ∀ s r' H', r.class = (s, r') → RPs H0 H' b r' → Q (.agg s.cells) H') : Does Pr 113 #[.pointer (some ⟨b, 0, none⟩)] H Q E := by
  refine regex_parser_class_fn _ Q E H ?_
  have hsz := h.bound
  unfold regex_parser_class
  intro i hi
  have hi0 : H0 i = none := h.1.free hi
  have h := h.new hi (cs S4.zero)
  unfold regex_parser_class_80
  intro j hj
  have hij : i ≠ j := ne_of (Heap.set_self _ _ _) hj
  have hj0 : H0 j = none := by have := h.1.free hj; rwa [Heap.set_ne _ _ (Ne.symm hij)] at this
  have h := h.new hj (cs S4.zero)
  have he0 : Ext H0 ((H0.set i (cs S4.zero)).set j (cs S4.zero)) := ((Ext.refl H0).set hi0 _).set hj0 _
  have hbi : ((H0.set i (cs S4.zero)).set j (cs S4.zero)) i = some (cs S4.zero) := by rw [Heap.set_ne _ _ hij]; exact Heap.set_self _ _ _
  have hbj : ((H0.set i (cs S4.zero)).set j (cs S4.zero)) j = some (cs S4.zero) := Heap.set_self _ _ _
  revert h he0 hbi hbj
  generalize (H0.set i (cs S4.zero)).set j (cs S4.zero) = Hb
  change RPs Hb ((H.set i (cs S4.zero)).set j (cs S4.zero)) b r → _ → _ → _ → regex_parser_class_77 Q E _ _ _ ((H.set i (cs S4.zero)).set j (cs S4.zero))
  generalize (H.set i (cs S4.zero)).set j (cs S4.zero) = H1
  intro h he0 hbi hbj
  -- the loop
  have loop : ∀ (r1 : RP) (H2 : Heap) (neg : Bool), (if r.next.1 = 94 then r.inc else r) = r1 → (neg = true ↔ r.next.1 = 94) → RPs Hb H2 b r1 →
      regex_parser_class_67 Q E (some ⟨b, 0, none⟩) (some ⟨i, 0, none⟩) (some ⟨j, 0, none⟩) neg H2 := by
    intro r1 H2 neg hr1 hneg h2
    have hs1 : r1.s = r.s := by rw [← hr1]; split <;> rfl
    generalize hR : r1.classLoop (r.s.size + 1) false S4.zero = R
    have hcl : r.class = classOut r.next.1 R := by unfold RP.class; rw [hr1, hR]
    unfold regex_parser_class_67 regex_parser_class_64
    refine ⟨fun x H' => ∃ (n : Nat) (out : S4) (r' : RP) (Hb' : Heap), r'.s.size < n + r'.at_ ∧ r'.classLoop n x out = R ∧ r'.s = r.s ∧ Ext H0 Hb' ∧ Hb' i = some (cs S4.zero) ∧ Hb' j = some (cs out) ∧ RPs Hb' H' b r',
      fun _ H' => r.s.size + 1 - atOf b H', ⟨r.s.size + 1, S4.zero, r1, Hb, by rw [hs1]; omega, hR, hs1, he0, hbi, hbj, h2⟩, ?_⟩
    rintro x H3 ⟨n, out, r', Hb', hn, hcr, hs', he', hi', hj', h'⟩
    have hsz' := h'.bound
    cases n with
    | zero => omega
    | succ n =>
      have go : ¬ (r'.next = (93, true) ∧ x = true) → regex_parser_class_50 (fun x' H1 => (∃ (n : Nat) (out : S4) (r' : RP) (Hb' : Heap), r'.s.size < n + r'.at_ ∧ r'.classLoop n x' out = R ∧ r'.s = r.s ∧ Ext H0 Hb' ∧ Hb' i = some (cs S4.zero) ∧ Hb' j = some (cs out) ∧ RPs Hb' H1 b r') ∧ r.s.size + 1 - atOf b H1 < r.s.size + 1 - atOf b H3)
          Q E (some ⟨b, 0, none⟩) (some ⟨i, 0, none⟩) (some ⟨j, 0, none⟩) neg H3 := by
        intro hno
        simp only [RP.classLoop, if_neg hno] at hcr
        unfold regex_parser_class_50
        refine member_c h' fun first set many r2 H4 hm h4 => ?_
        rw [hm] at hcr
        simp only [] at hcr
        refine ⟨_, _, _, _, _, _, rfl, ?_⟩
        intro k hk4
        have h5 := h4.new hk4 (.cells S4.zero.cells 46 (0, 0))
        refine S4.wr set h5.1.get ?_
        have h6 := h5.upd (cs set)
        have hb : ∀ {q o}, Hb' q = some o → (Hb'.set k (cs set)) q = some o := fun {q o} hq => by
          rw [Heap.set_ne _ _ (ne_of (h4.1 _ _ hq) hk4)]; exact hq
        have hjk : j ≠ k := ne_of (h4.1 _ _ hj') hk4
        have hik : i ≠ k := ne_of (h4.1 _ _ hi') hk4
        have hk0 : H0 k = none := (he'.trans h4.1).free hk4
        obtain ⟨m1, m2⟩ := member_le hm
        refine class_46 h6 (he'.set hk0 _) hi0 (hb hi') (hb hj') (Heap.set_self _ _ _) hjk hij (member_byte hm) hj0 hk0 hik ?_ ?_
        · intro set' r3 H' hel he3 h7
          rw [hel] at hcr
          simp only [if_pos he3] at hcr
          exact hk S4.zero r3 H' (by rw [hcl, ← hcr]; rfl) h7
        · intro set' r3 H' Hb2 hel he3 hx2 hbi2 hbj2 h7
          rw [hel] at hcr
          simp only [he3, ne_eq, not_true, if_false] at hcr
          have hle := elem_le hel
          have hlt : r'.at_ < r3.at_ := by
            have h2e : r2.e = 0 := by
              by_cases h : r2.e = 0
              · exact h
              · exact absurd he3 (by rw [hle.e h]; exact h)
            have := m2 h2e
            have := hle.at_
            omega
          have hs3 : r3.s = r'.s := hle.s.trans m1.s
          have hb3 := h7.bound
          refine ⟨⟨n, out.or set', r3, Hb2, by rw [hs3]; omega, hcr, hs3.trans hs', hx2, hbi2, hbj2, h7⟩, ?_⟩
          rw [h7.atOf, h'.atOf]
          rw [hs3, hs'] at hb3
          rw [hs'] at hsz'
          omega
      unfold regex_parser_class_58
      refine next_c h' ?_
      refine ⟨_, _, rfl, ?_⟩
      cases hnx : r'.next with
      | mk c ok =>
        unfold regex_parser_class_55
        cases ok with
        | false =>
          refine sel_ff ?_
          unfold regex_parser_class_53
          exact sel_ff (go (by rw [hnx]; simp))
        | true =>
          refine sel_tt ?_
          obtain ⟨g1, g2, g3, g4⟩ := RP.next_some hnx
          refine sel_beq (fun h93 => ?_) (fun h93 => ?_)
          · obtain rfl : c = 93 := by omega
            unfold regex_parser_class_53
            refine sel_mk (fun hx => ?_) (fun hx => go (by simp [hx]))
            subst hx
            simp only [RP.classLoop] at hcr
            rw [if_pos ⟨hnx, trivial⟩] at hcr
            simp only [ptr_some]
            refine h'.ld1 (h'.st1 (a := r'.at_ + 1) (by rw [IntWalk.i64_in _ (by omega)]; omega) (by omega) fun H4 h4 => ?_)
            have h4 : RPs Hb' H4 b r'.inc := h4
            unfold regex_parser_class_3
            refine sel_mk (fun hng => ?_) (fun hng => ?_)
            · simp only [ptr_some]
              refine ⟨_, _, _, _, S4.rd (h4.1 j _ hj'), ?_⟩
              refine not_c (s := out) fun H5 he5 => ?_
              refine ⟨_, _, _, _, rfl, ?_⟩
              have h5 := h4.ext he5
              refine S4.wr out.not (h5.1 i _ hi') ⟨_, _, _, _, S4.rd (s := out.not) (Heap.set_self _ _ _), ?_⟩
              exact hk _ r'.inc _ (by rw [hcl, ← hcr]; simp only [classOut, if_pos (hneg.1 hng)]) ((h5.upd' hi' (cs out.not)).weaken (he'.set hi0 _))
            · unfold regex_parser_class_1
              simp only [ptr_some]
              refine ⟨_, _, _, _, S4.rd (h4.1 j _ hj'), ?_⟩
              refine S4.wr out (h4.1 i _ hi') ⟨_, _, _, _, S4.rd (s := out) (Heap.set_self _ _ _), ?_⟩
              have hnn : ¬ r.next.1 = 94 := fun e => by rw [hneg.2 e] at hng; cases hng
              exact hk _ r'.inc _ (by rw [hcl, ← hcr]; simp only [classOut, if_neg hnn]) ((h4.upd' hi' (cs out)).weaken (he'.set hi0 _))
          · unfold regex_parser_class_53
            exact sel_ff (go (by rw [hnx]; simp; omega))
  unfold regex_parser_class_77
  refine next_c h ?_
  refine ⟨_, _, rfl, ?_⟩
  unfold regex_parser_class_74 regex_parser_class_71
  cases hn : r.next with
  | mk c ok =>
    refine sel_mk (fun hc => ?_) (fun hc => ?_)
    · have hc' : c = 94 := by have : (c : Int) = 94 := by simpa using hc
                              omega
      have hat : r.at_ < r.s.size := by
        cases ok with
        | true => exact (RP.next_some hn).2.1
        | false => have := (RP.next_none hn).1; omega
      simp only [ptr_some]
      refine h.ld1 (h.st1 (a := r.at_ + 1) (by rw [IntWalk.i64_in _ (by omega)]; omega) (by omega) fun H2 h2 => ?_)
      refine loop r.inc H2 _ (by rw [hn]; simp [hc']) ?_ h2
      rw [hn]; simp [hc']
    · have hc' : ¬ c = 94 := fun e => by simp [e] at hc
      refine loop r H1 _ (by rw [hn]; simp [hc']) ?_ h
      rw [hn]; simp; omega
end Go.Proofs.Ytaffcoiomggpfaa
