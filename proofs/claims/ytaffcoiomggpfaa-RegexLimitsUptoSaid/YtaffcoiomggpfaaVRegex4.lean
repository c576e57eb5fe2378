/- Contracts of package regex (4): the parser. -/
import Derived.Test.YtaffcoiomggpfaaVRegex3
namespace Go.Proofs.Ytaffcoiomggpfaa
open Go.V
attribute [local irreducible] app
set_option linter.constructorNameAsVariable false
set_option linter.unusedVariables false

def PatC (pat : RP → Nat × RP) (op : Nat) : Prop := ∀ {H0 H : Heap} {b : Nat} {r : RP} {Q : Value → Heap → Prop} {E : Chain → Heap → Prop}, RPs H0 H b r → r.op = op → r.nds.length ≤ 2 * r.at_ + 6 →
  (∀ H', RPs H0 H' b (pat r).2 → Q (.int .i64 ((pat r).1 : Nat)) H') → Does Pr 60 #[.pointer (some ⟨b, 0, none⟩)] H Q E
theorem RPs.cap {H0 H : Heap} {b : Nat} {r : RP} (h : RPs H0 H b r) (hn : r.nds.length ≤ 2 * r.at_ + 100) : r.nds.length < 1048576 := by have := h.bound; omega
theorem put_c' {H0 H : Heap} {b : Nat} {r : RP} (x : Nd) {Q : Value → Heap → Prop} {E : Chain → Heap → Prop} (h : RPs H0 H b r) (hn : r.nds.length ≤ 2 * r.at_ + 100)
    (hk : ∀ H', RPs H0 H' b (r.putN x).2 → Q (.int .i64 ((r.putN x).1 : Nat)) H') :
    Does Pr 95 #[.pointer (some ⟨b, 0, none⟩), .agg #[.int .i64 x.k, .int .i64 x.l, .int .i64 x.r, .int .u64 x.a, .int .u64 x.b, .int .u64 x.c, .int .u64 x.d]] H
      (fun v H' => ∃ n : Int, v = .int .i64 n ∧ Q (.int .i64 n) H') E :=
  put_c h (h.cap hn) fun H' h' => ⟨_, rfl, hk H' h'⟩
theorem put_k {H0 H : Heap} {b : Nat} {r : RP} (x : Nd) {K : Int → Heap → Prop} {E : Chain → Heap → Prop} (h : RPs H0 H b r) (hn : r.nds.length ≤ 2 * r.at_ + 100)
    (hk : ∀ H', RPs H0 H' b (r.putN x).2 → K ((r.putN x).1 : Nat) H') :
    Does Pr 95 #[.pointer (some ⟨b, 0, none⟩), .agg #[.int .i64 x.k, .int .i64 x.l, .int .i64 x.r, .int .u64 x.a, .int .u64 x.b, .int .u64 x.c, .int .u64 x.d]] H
      (fun v H' => ∃ n : Int, v = .int .i64 n ∧ K n H') E :=
  put_c h (h.cap hn) fun H' h' => ⟨_, rfl, hk H' h'⟩
theorem atom_c {pat : RP → Nat × RP} {c : Nat} {H0 H : Heap} {b : Nat} {r : RP} {Q : Value → Heap → Prop} {E : Chain → Heap → Prop} (hup : ∀ r, Up r (pat r).2 1 0)
    (hp : r.op + 1 ≤ 24 → PatC pat (r.op + 1)) (h : RPs H0 H b r) (he : r.e = 0) (hat : r.at_ < r.s.size) (hc : c ≤ 255) (hn : r.nds.length ≤ 2 * r.at_ + 6) (hop : r.op ≤ 24)
    (hk : ∀ H', RPs H0 H' b (atomOf pat c r).2 → Q (.int .i64 ((atomOf pat c r).1 : Nat)) H') :
    Does Pr 106 #[.pointer (some ⟨b, 0, none⟩), .int .u8 (c : Nat)] H Q E := by
  refine regex_parser_atom_fn _ _ Q E H ?_
  have hsz := h.bound
  unfold regex_parser_atom regex_parser_atom_81
  simp only [ptr_some]
  refine h.ld1 (h.st1 (a := r.at_ + 1) (by rw [IntWalk.i64_in _ (by omega)]; omega) (by omega) fun H1 h1 => ?_)
  have h1 : RPs H0 H1 b r.inc := h1
  have hn1 : r.inc.nds.length ≤ 2 * r.inc.at_ + 100 := by simp only [RP.inc]; omega
  unfold regex_parser_atom_77 regex_parser_atom_73 regex_parser_atom_71
  refine sel_beq (fun h46 => ?_) (fun h46 => ?_)
  · obtain rfl : c = 46 := by omega
    have e : atomOf pat 46 r = r.inc.putN (nd 2 0 0 (S4.bytesN newline 1).not) := by simp [atomOf]
    rw [e] at hk
    unfold regex_parser_atom_3
    refine bytesOf_c (s := newline) (by decide) fun H2 he2 => ⟨_, _, _, _, rfl, ?_⟩
    refine not_c (s := S4.bytesN newline 1) fun H3 he3 => ⟨_, _, _, _, rfl, ?_⟩
    exact put_c' (nd 2 0 0 (S4.bytesN newline 1).not) ((h1.ext he2).ext he3) hn1 hk
  unfold regex_parser_atom_68 regex_parser_atom_66
  refine sel_beq (fun h94 => ?_) (fun h94 => ?_)
  · obtain rfl : c = 94 := by omega
    have e : atomOf pat 94 r = r.inc.putN (nd 8 0 0 S4.zero) := by simp [atomOf]
    rw [e] at hk
    exact put_c' (nd 8 0 0 S4.zero) h1 hn1 hk
  unfold regex_parser_atom_63 regex_parser_atom_61
  refine sel_beq (fun h36 => ?_) (fun h36 => ?_)
  · obtain rfl : c = 36 := by omega
    have e : atomOf pat 36 r = r.inc.putN (nd 9 0 0 S4.zero) := by simp [atomOf]
    rw [e] at hk
    exact put_c' (nd 9 0 0 S4.zero) h1 hn1 hk
  unfold regex_parser_atom_58 regex_parser_atom_56
  refine sel_beq (fun h91 => ?_) (fun h91 => ?_)
  · obtain rfl : c = 91 := by omega
    have e : atomOf pat 91 r = r.inc.class.2.putN (nd 2 0 0 r.inc.class.1) := by simp [atomOf]
    rw [e] at hk
    unfold regex_parser_atom_9
    refine class_c h1 fun s r' H2 hs h2 => ⟨_, _, _, _, rfl, ?_⟩
    rw [hs] at hk
    have hle := class_le r.inc
    rw [hs] at hle
    exact put_c' (nd 2 0 0 s) h2 (by have := hle.at_; rw [hle.nds]; simp only [RP.inc] at *; omega) hk
  unfold regex_parser_atom_53 regex_parser_atom_51
  refine sel_beq (fun h93 => ?_) (fun h93 => ?_)
  · obtain rfl : c = 93 := by omega
    have e : atomOf pat 93 r = (0, r.inc.fail 80) := by simp [atomOf]
    rw [e] at hk
    unfold regex_parser_atom_11
    refine fail_c h1 fun H2 h2 => ⟨_, rfl, ?_⟩
    unfold regex_parser_atom_1
    exact hk _ h2
  have signs81 : c = 42 ∨ c = 43 ∨ c = 63 → regex_parser_atom_13 Q E (some ⟨b, 0, none⟩) H1 := fun hs => by
    have e : atomOf pat c r = (0, r.inc.fail 81) := by unfold atomOf; rw [if_neg (by omega), if_neg (by omega), if_neg (by omega), if_neg (by omega), if_neg (by omega), if_pos hs]
    rw [e] at hk
    unfold regex_parser_atom_13
    refine fail_c h1 fun H2 h2 => ⟨_, rfl, ?_⟩
    unfold regex_parser_atom_1
    exact hk _ h2
  unfold regex_parser_atom_48
  have last : ¬ (c = 42 ∨ c = 43 ∨ c = 63) → regex_parser_atom_43 Q E (some ⟨b, 0, none⟩) (c : Nat) (c : Nat) H1 := by
    intro hns
    unfold regex_parser_atom_43 regex_parser_atom_41
    refine sel_beq (fun h92 => ?_) (fun h92 => ?_)
    · obtain rfl : c = 92 := by omega
      have e : atomOf pat 92 r = r.escape.2.putN (nd 2 0 0 r.escape.1.2.1) := by simp [atomOf]
      rw [e] at hk
      unfold regex_parser_atom_15
      simp only [ptr_some]
      refine h1.ld1 (h1.st1 (a := r.at_) (by simp only [RP.inc]; rw [IntWalk.i64_in _ (by omega)]; omega) (by simp only [RP.inc]; omega) fun H2 h2 => ?_)
      have h2 : RPs H0 H2 b r := h2
      refine escape_c h2 hat fun n s k r' H3 hs h3 => ⟨_, _, _, _, _, _, rfl, ?_⟩
      rw [hs] at hk
      intro i hi
      have h4 := h3.new hi (.cells S4.zero.cells 46 (0, 0))
      refine S4.wr s h4.1.get ?_
      have h5 := h4.upd (.cells s.cells 46 (0, 0))
      refine ⟨_, _, _, _, S4.rd (s := s) (Heap.set_self _ _ _), ?_⟩
      have hle := escape_le hs
      exact put_c' (nd 2 0 0 s) (RPs.old (h3.1.free hi) h5) (by have := hle.at_; rw [hle.nds]; simp only [RP.inc] at *; omega) hk
    unfold regex_parser_atom_38 regex_parser_atom_36
    refine sel_beq (fun h40 => ?_) (fun h40 => ?_)
    · obtain rfl : c = 40 := by omega
      unfold regex_parser_atom_31
      simp only [ptr_some]
      refine h1.ld2 (h1.st2 (a := r.op + 1) (by simp only [RP.inc]; rw [IntWalk.i64_in _ (by omega)]; omega) fun H2 h2 => ?_)
      have h2 : RPs H0 H2 b r.inc.up := h2
      refine h2.ld2 ?_
      refine sel_dec (fun hd => ?_) (fun hd => ?_)
      · have hd : 24 < r.op + 1 := by simp only [RP.up, RP.inc] at hd; omega
        have e : atomOf pat 40 r = (0, r.inc.up.fail 84) := by simp [atomOf, hd]
        rw [e] at hk
        exact fail_c h2 fun H3 h3 => ⟨_, rfl, hk _ h3⟩
      · have hd : ¬ 24 < r.op + 1 := by simp only [RP.up, RP.inc] at hd; omega
        have e : atomOf pat 40 r = ((pat r.inc.up).1, (if (pat r.inc.up).2.next = (41, true) then (pat r.inc.up).2.inc else (pat r.inc.up).2.fail 83).down) := by simp [atomOf, hd]
        rw [e] at hk
        unfold regex_parser_atom_28
        refine hp (by omega) h2 rfl (by simp only [RP.up, RP.inc]; omega) fun H3 h3 => ⟨_, rfl, ?_⟩
        have hu := hup r.inc.up
        revert h3 hu hk
        generalize pat r.inc.up = X
        intro hk h3 hu
        have hb3 := h3.bound
        have c17 : ∀ (r4 : RP) (H4 : Heap), (if X.2.next = (41, true) then X.2.inc else X.2.fail 83) = r4 → r4.op = X.2.op → RPs H0 H4 b r4 → regex_parser_atom_17 Q E (some ⟨b, 0, none⟩) (X.1 : Nat) H4 := by
          intro r4 H4 hr4 ho4 h4
          unfold regex_parser_atom_17
          simp only [ptr_some]
          have hlo := hu.lo
          have hhi := hu.hi
          simp only [RP.up, RP.inc] at hlo hhi
          refine h4.ld2 (h4.st2 (a := r4.op - 1) (by rw [IntWalk.i64_in _ (by omega)]; omega) fun H5 h5 => ?_)
          rw [hr4] at hk
          exact hk _ h5
        unfold regex_parser_atom_24
        refine next_c h3 ⟨_, _, rfl, ?_⟩
        unfold regex_parser_atom_21
        have bad : X.2.next ≠ (41, true) → Does Pr 103 #[.pointer (some ⟨b, 0, none⟩), .int .i64 83] H3 (fun v192 H193 => ∃ n194 : Int, v192 = (.int .i64 n194) ∧ regex_parser_atom_17 Q E (some ⟨b, 0, none⟩) (X.1 : Nat) H193) E := fun hne =>
          fail_c h3 fun H4 h4 => ⟨_, rfl, c17 _ H4 (if_neg hne) (fail_op _ _).1 h4⟩
        cases hnx : X.2.next with
        | mk d ok =>
          cases ok with
          | false =>
            refine sel_ff ?_
            unfold regex_parser_atom_19
            exact sel_ff (bad (by rw [hnx]; simp))
          | true =>
            refine sel_tt ?_
            obtain ⟨g1, g2, g3, g4⟩ := RP.next_some hnx
            unfold regex_parser_atom_19
            refine sel_beq (fun h41 => ?_) (fun h41 => bad (by rw [hnx]; simp; omega))
            obtain rfl : d = 41 := by omega
            simp only [ptr_some]
            refine h3.ld1 (h3.st1 (a := X.2.at_ + 1) (by rw [IntWalk.i64_in _ (by omega)]; omega) (by omega) fun H4 h4 => ?_)
            exact c17 X.2.inc H4 (if_pos hnx) rfl h4
    · have e : atomOf pat c r = r.inc.putN (nd 2 0 0 (S4.zero.with_ c c)) := by
        unfold atomOf
        rw [if_neg (by omega), if_neg (by omega), if_neg (by omega), if_neg (by omega), if_neg (by omega), if_neg (by omega), if_neg (by omega), if_neg (by omega)]
      rw [e] at hk
      unfold regex_parser_atom_34
      refine with_c (s := S4.zero) hc hc fun H2 he2 => ⟨_, _, _, _, rfl, ?_⟩
      exact put_c' (nd 2 0 0 (S4.zero.with_ c c)) (h1.ext he2) hn1 hk
  refine sel_beq (fun h42 => ?_) (fun h42 => ?_)
  · unfold regex_parser_atom_46
    exact sel_mk (fun _ => signs81 (by omega)) (fun hf => by simp at hf; omega)
  refine sel_beq (fun h43 => ?_) (fun h43 => ?_)
  · unfold regex_parser_atom_46
    exact sel_mk (fun _ => signs81 (by omega)) (fun hf => by simp at hf; omega)
  unfold regex_parser_atom_46
  exact sel_beq (fun h63 => signs81 (by omega)) (fun h63 => last (by omega))
theorem signOf_pos {c : Nat} (h : signOf c ≠ 0) : c = 42 ∨ c = 43 ∨ c = 63 := by
  unfold signOf at h; repeat' split at h
  all_goals omega
theorem part_c {pat : RP → Nat × RP} {c : Nat} {H0 H : Heap} {b : Nat} {r : RP} {Q : Value → Heap → Prop} {E : Chain → Heap → Prop} (hup : ∀ r, Up r (pat r).2 1 0)
    (hp : r.op + 1 ≤ 24 → PatC pat (r.op + 1)) (h : RPs H0 H b r) (he : r.e = 0) (hat : r.at_ < r.s.size) (hc : c ≤ 255) (hn : r.nds.length ≤ 2 * r.at_ + 6) (hop : r.op ≤ 24)
    (hk : ∀ H', RPs H0 H' b (partOf pat c r).2 → Q (.int .i64 ((partOf pat c r).1 : Nat)) H') :
    Does Pr 104 #[.pointer (some ⟨b, 0, none⟩), .int .u8 (c : Nat)] H Q E := by
  refine regex_parser_part_fn _ _ Q E H ?_
  unfold regex_parser_part regex_parser_part_13
  refine atom_c hup hp h he hat hc hn hop fun H1 h1 => ⟨_, rfl, ?_⟩
  have hu := atomOf_up hup c r he
  generalize hR : partOf pat c r = R at hk
  have hR : signs (r.s.size + 1) (atomOf pat c r).1 (atomOf pat c r).2 = R := hR
  revert h1 hu hR
  generalize atomOf pat c r = X
  intro h1 hu hR
  unfold regex_parser_part_10
  refine ⟨fun x H' => ∃ (f n : Nat) (r' : RP), x = (n : Nat) ∧ r'.s.size < f + r'.at_ ∧ signs f n r' = R ∧ r'.s = r.s ∧ r'.nds.length ≤ 2 * r'.at_ + 6 ∧ RPs H0 H' b r', fun _ H' => r.s.size + 1 - atOf b H',
    ⟨r.s.size + 1, X.1, X.2, rfl, by have := hu.s; rw [this]; omega, hR, hu.s, by have := hu.nds; omega, h1⟩, ?_⟩
  rintro x H2 ⟨f, n, r', rfl, hf, hs, hs', hn', h2⟩
  have hb := h2.bound
  cases f with
  | zero => omega
  | succ f =>
    unfold signs at hs
    unfold regex_parser_part_6 regex_parser_part_3
    refine next_c h2 ⟨_, _, rfl, ?_⟩
    have sg : ∀ k : Nat, signOf r'.next.1 = k → k ≠ 0 → regex_parser_part_1 (fun x' H1 => (∃ (f n : Nat) (r' : RP), x' = (n : Nat) ∧ r'.s.size < f + r'.at_ ∧ signs f n r' = R ∧ r'.s = r.s ∧ r'.nds.length ≤ 2 * r'.at_ + 6 ∧ RPs H0 H1 b r') ∧ r.s.size + 1 - atOf b H1 < r.s.size + 1 - atOf b H2)
        Q E (some ⟨b, 0, none⟩) (n : Nat) (k : Nat) H2 := by
      intro k hk' hk0
      rw [hk', if_neg hk0] at hs
      have hlt : r'.at_ < r'.s.size := by
        cases hnx : r'.next with
        | mk d ok =>
          cases ok with
          | true => exact (RP.next_some hnx).2.1
          | false =>
            have := (RP.next_none hnx).1
            subst this
            rw [hnx] at hk'
            exact absurd hk'.symm hk0
      unfold regex_parser_part_1
      simp only [ptr_some]
      refine h2.ld1 (h2.st1 (a := r'.at_ + 1) (by rw [IntWalk.i64_in _ (by omega)]; omega) (by omega) fun H3 h3 => ?_)
      have h3 : RPs H0 H3 b r'.inc := h3
      refine put_k (nd k n 0 S4.zero) h3 (by simp only [RP.inc]; omega) fun H4 h4 => ?_
      refine ⟨⟨f, r'.nds.length, r'.inc.put (nd k n 0 S4.zero), rfl, by simp only [RP.put, RP.inc]; omega, hs, hs', by simp [RP.put, RP.inc]; omega, h4⟩, ?_⟩
      have h4 : RPs H0 H4 b (r'.inc.put (nd k n 0 S4.zero)) := h4
      rw [h4.atOf, h2.atOf]
      simp only [RP.put, RP.inc]
      rw [hs'] at hlt; omega
    refine sel_beq (fun h42 => ?_) (fun h42 => ?_)
    · exact sg 5 (by unfold signOf; rw [if_pos (by omega)]) (by decide)
    refine sel_beq (fun h43 => ?_) (fun h43 => ?_)
    · exact sg 6 (by unfold signOf; rw [if_neg (by omega), if_pos (by omega)]) (by decide)
    refine sel_beq (fun h63 => ?_) (fun h63 => ?_)
    · exact sg 7 (by unfold signOf; rw [if_neg (by omega), if_neg (by omega), if_pos (by omega)]) (by decide)
    have h0 : signOf r'.next.1 = 0 := by unfold signOf; rw [if_neg (by omega), if_neg (by omega), if_neg (by omega)]
    rw [if_pos h0] at hs
    subst hs
    exact hk _ h2
def optI : Option Nat → Int
  | none => -1
  | some n => (n : Nat)
theorem alt_c {pat : RP → Nat × RP} {H0 H : Heap} {b : Nat} {r : RP} {Q : Value → Heap → Prop} {E : Chain → Heap → Prop} (hup : ∀ r, Up r (pat r).2 1 0)
    (hp : r.op + 1 ≤ 24 → PatC pat (r.op + 1)) (h : RPs H0 H b r) (hn : r.nds.length ≤ 2 * r.at_ + 6) (hop : r.op ≤ 24)
    (hk : ∀ H', RPs H0 H' b (altOf pat r).2 → Q (.int .i64 ((altOf pat r).1 : Nat)) H') :
    Does Pr 93 #[.pointer (some ⟨b, 0, none⟩)] H Q E := by
  refine regex_parser_alternative_fn _ Q E H ?_
  unfold regex_parser_alternative regex_parser_alternative_34 regex_parser_alternative_30
  generalize hR : altOf pat r = R at hk
  have hR : altLoop pat (r.s.size + 1) none r = R := hR
  refine ⟨fun x H' => ∃ (f : Nat) (n : Option Nat) (r' : RP), x = optI n ∧ r'.s.size < f + r'.at_ ∧ altLoop pat f n r' = R ∧ r'.s = r.s ∧ (r'.e = 0 → r'.op = r.op) ∧ r'.nds.length ≤ 2 * r'.at_ + 6 ∧ RPs H0 H' b r', fun _ H' => r.s.size + 1 - atOf b H',
    ⟨r.s.size + 1, none, r, rfl, by omega, hR, rfl, fun _ => rfl, hn, h⟩, ?_⟩
  rintro x H2 ⟨f, n, r', rfl, hf, hs, hs', ho', hn', h2⟩
  have hb := h2.bound
  cases f with
  | zero => omega
  | succ f =>
    unfold altLoop at hs
    unfold regex_parser_alternative_26
    refine next_c h2 ⟨_, _, rfl, ?_⟩
    generalize hNX : (fun (x3' : Int) (H1 : Heap) => (∃ (f : Nat) (n : Option Nat) (r' : RP), x3' = optI n ∧ r'.s.size < f + r'.at_ ∧ altLoop pat f n r' = R ∧ r'.s = r.s ∧ (r'.e = 0 → r'.op = r.op) ∧ r'.nds.length ≤ 2 * r'.at_ + 6 ∧ RPs H0 H1 b r') ∧ r.s.size + 1 - atOf b H1 < r.s.size + 1 - atOf b H2) = nx
    -- the end
    have fin : (r'.next.2 = false ∨ r'.next.1 = 124 ∨ r'.next.1 = 41) → ∀ (r1 : RP) (H3 : Heap), (if r'.next = (41, true) ∧ r'.op = 0 then r'.fail 83 else r') = r1 → r1.nds = r'.nds → r1.at_ = r'.at_ → RPs H0 H3 b r1 → regex_parser_alternative_14 nx Q E (some ⟨b, 0, none⟩) (optI n) (r'.next.1 : Nat) true H3 := by
      intro hfin r1 H3 hr1 hn1 ha1 h3
      rw [if_pos hfin] at hs
      simp only [hr1] at hs
      unfold regex_parser_alternative_14
      refine sel_tt ?_
      unfold regex_parser_alternative_3
      cases n with
      | none =>
        refine sel_dec (fun _ => ?_) (fun hd => absurd hd (by simp [optI]))
        subst hs
        exact put_c' (nd 1 0 0 S4.zero) h3 (by rw [hn1, ha1]; omega) hk
      | some m =>
        refine sel_dec (fun hd => absurd hd (by simp only [optI]; omega)) (fun _ => ?_)
        unfold regex_parser_alternative_1
        subst hs
        exact hk _ h3
    have go : ¬ (r'.next.2 = false ∨ r'.next.1 = 124 ∨ r'.next.1 = 41) → regex_parser_alternative_11 nx Q E (some ⟨b, 0, none⟩) (optI n) (r'.next.1 : Nat) H2 := by
      intro hno
      rw [if_neg hno] at hs
      have hnx : r'.next = (r'.next.1, true) := Prod.ext rfl (by simpa using fun h => hno (.inl h))
      obtain ⟨g1, g2, g3, g4⟩ := RP.next_some hnx
      have ho := ho' g1
      unfold regex_parser_alternative_11
      have hu := partOf_up hup r'.next.1 r' g1
      refine part_c hup (by rw [ho]; exact hp) h2 g1 g2 g4 hn' (by omega) fun H3 h3 => ⟨_, rfl, ?_⟩
      revert hs h3 hu
      generalize partOf pat r'.next.1 r' = X
      intro hs hu h3
      have hus := hu.s; have hua := hu.at_; have hun := hu.nds; have huo := hu.op; have hb3 := h3.bound
      rw [hus, hs'] at hb3
      unfold regex_parser_alternative_8
      cases n with
      | none =>
        refine sel_dec (fun hd => absurd hd (by simp [optI])) (fun _ => ?_)
        unfold regex_parser_alternative_6
        subst hNX
        refine ⟨⟨f, some X.1, X.2, rfl, by rw [hus]; omega, hs, hus.trans hs', fun h => (huo (.inl h)).trans ho, by omega, h3⟩, ?_⟩
        rw [h3.atOf, h2.atOf]; omega
      | some k =>
        refine sel_dec (fun _ => ?_) (fun hd => absurd hd (by simp only [optI]; omega))
        refine put_k (nd 3 k X.1 S4.zero) h3 (by omega) fun H4 h4 => ?_
        have h4 : RPs H0 H4 b (X.2.put (nd 3 k X.1 S4.zero)) := h4
        unfold regex_parser_alternative_6
        subst hNX
        refine ⟨⟨f, some X.2.nds.length, X.2.put (nd 3 k X.1 S4.zero), rfl, by simp only [RP.put]; rw [hus]; omega, hs, hus.trans hs', fun h => (huo (.inl h)).trans ho, by simp [RP.put]; omega, h4⟩, ?_⟩
        rw [h4.atOf, h2.atOf]; simp only [RP.put]; omega
    have c16 : ∀ (r1 : RP) (H3 : Heap), (if r'.next = (41, true) ∧ r'.op = 0 then r'.fail 83 else r') = r1 → r1.nds = r'.nds → r1.at_ = r'.at_ → RPs H0 H3 b r1 → (r1 = r' ∧ H3 = H2 ∨ r'.next = (41, true)) → regex_parser_alternative_16 nx Q E (some ⟨b, 0, none⟩) (optI n) (r'.next.1 : Nat) r'.next.2 H3 := by
      intro r1 H3 hr1 hn1 ha1 h3 hor
      unfold regex_parser_alternative_16
      refine sel_not (fun hf => ?_) (fun ht => ?_)
      · exact fin (.inl hf) r1 H3 hr1 hn1 ha1 h3
      refine sel_beq (fun h124 => ?_) (fun h124 => ?_)
      · exact fin (.inr (.inl (by omega))) r1 H3 hr1 hn1 ha1 h3
      by_cases h41 : r'.next.1 = 41
      · have : ((r'.next.1 : Nat) : Int) == 41 := by simp [h41]
        rw [this]
        exact fin (.inr (.inr h41)) r1 H3 hr1 hn1 ha1 h3
      · have : (((r'.next.1 : Nat) : Int) == 41) = false := by simp; omega
        rw [this]
        unfold regex_parser_alternative_14
        refine sel_ff ?_
        rcases hor with ⟨rfl, rfl⟩ | hor
        · refine go ?_
          rw [ht]; simp; omega
        · rw [hor] at h41; exact absurd rfl h41
    unfold regex_parser_alternative_22
    have plain : ¬ (r'.next = (41, true) ∧ r'.op = 0) → regex_parser_alternative_16 nx Q E (some ⟨b, 0, none⟩) (optI n) (r'.next.1 : Nat) r'.next.2 H2 := fun hno =>
      c16 r' H2 (if_neg hno) rfl rfl h2 (.inl ⟨rfl, rfl⟩)
    refine sel_mk (fun ht => ?_) (fun hf => ?_)
    · refine sel_beq (fun h41 => ?_) (fun h41 => ?_)
      · have hnx : r'.next = (41, true) := Prod.ext (by simp only []; omega) ht
        simp only [ptr_some]
        refine h2.ld2 ?_
        unfold regex_parser_alternative_20
        refine sel_beq (fun h0 => ?_) (fun h0 => ?_)
        · refine fail_c h2 fun H3 h3 => ⟨_, rfl, ?_⟩
          obtain ⟨f1, f2, f3, f4⟩ := fail_op r' 83
          exact c16 (r'.fail 83) H3 (if_pos ⟨hnx, by omega⟩) f2 f3 h3 (.inr hnx)
        · exact plain fun h => by omega
      · unfold regex_parser_alternative_20
        exact sel_ff (plain fun h => h41 (by rw [h.1]; rfl))
    · unfold regex_parser_alternative_20
      exact sel_ff (plain fun h => by rw [h.1] at hf; cases hf)
theorem pattern_c {pat : RP → Nat × RP} {op : Nat} (hup : ∀ r, Up r (pat r).2 1 0) (hp : op + 1 ≤ 24 → PatC pat (op + 1)) (hop : op ≤ 24) : PatC (patOf pat) op := by
  intro H0 H b r Q E h ho hn hk
  subst ho
  refine regex_parser_pattern_fn _ Q E H ?_
  unfold regex_parser_pattern regex_parser_pattern_16
  refine alt_c hup hp h hn hop fun H1 h1 => ⟨_, rfl, ?_⟩
  have hu := altOf_up hup r
  generalize hR : patOf pat r = R at hk
  have hR : patLoop pat (r.s.size + 1) (altOf pat r).1 (altOf pat r).2 = R := hR
  revert h1 hu hR
  generalize altOf pat r = X
  intro h1 hu hR
  unfold regex_parser_pattern_13
  refine ⟨fun x H' => ∃ (f n : Nat) (r' : RP), x = (n : Nat) ∧ r'.s.size < f + r'.at_ ∧ patLoop pat f n r' = R ∧ r'.s = r.s ∧ (r'.e = 0 → r'.op = r.op) ∧ r'.nds.length ≤ 2 * r'.at_ + 7 ∧ RPs H0 H' b r', fun _ H' => r.s.size + 1 - atOf b H',
    ⟨r.s.size + 1, X.1, X.2, rfl, by rw [hu.s]; omega, hR, hu.s, fun h => hu.op (.inl h), by have := hu.nds; omega, h1⟩, ?_⟩
  rintro x H2 ⟨f, n, r', rfl, hf, hs, hs', ho', hn', h2⟩
  have hb := h2.bound
  cases f with
  | zero => omega
  | succ f =>
    unfold patLoop at hs
    unfold regex_parser_pattern_8
    refine next_c h2 ⟨_, _, rfl, ?_⟩
    have stop : r'.next ≠ (124, true) → Q (.int .i64 (n : Nat)) H2 := fun hne => by
      rw [if_neg hne] at hs; subst hs; exact hk _ h2
    unfold regex_parser_pattern_5
    cases hnx : r'.next with
    | mk d ok =>
      cases ok with
      | false =>
        refine sel_tt ?_
        unfold regex_parser_pattern_3
        exact sel_tt (stop (by rw [hnx]; simp))
      | true =>
        refine sel_ff ?_
        obtain ⟨g1, g2, g3, g4⟩ := RP.next_some hnx
        unfold regex_parser_pattern_3
        refine sel_bne (fun hd => stop (by rw [hnx]; simp; omega)) (fun hd => ?_)
        obtain rfl : d = 124 := by omega
        rw [if_pos hnx] at hs
        simp only [] at hs
        have ho := ho' g1
        unfold regex_parser_pattern_1
        simp only [ptr_some]
        refine h2.ld1 (h2.st1 (a := r'.at_ + 1) (by rw [IntWalk.i64_in _ (by omega)]; omega) (by omega) fun H3 h3 => ?_)
        have h3 : RPs H0 H3 b r'.inc := h3
        have hu2 := altOf_up hup r'.inc
        refine alt_c hup (by simp only [RP.inc]; rw [ho]; exact hp) h3 (by simp only [RP.inc]; omega) (by simp only [RP.inc]; omega) fun H4 h4 => ⟨_, rfl, ?_⟩
        revert hs h4 hu2
        generalize altOf pat r'.inc = Y
        intro hs hu2 h4
        have hus := hu2.s; have hua := hu2.at_; have hun := hu2.nds; have huo := hu2.op; have hb4 := h4.bound
        simp only [RP.inc] at hus hua hun huo
        rw [hus, hs'] at hb4
        refine put_k (nd 4 n Y.1 S4.zero) h4 (by omega) fun H5 h5 => ?_
        have h5 : RPs H0 H5 b (Y.2.put (nd 4 n Y.1 S4.zero)) := h5
        refine ⟨⟨f, Y.2.nds.length, Y.2.put (nd 4 n Y.1 S4.zero), rfl, by simp only [RP.put]; rw [hus]; omega, hs, hus.trans hs', fun h => (huo (.inl h)).trans ho, by simp [RP.put]; omega, h5⟩, ?_⟩
        rw [h5.atOf, h2.atOf]; simp only [RP.put]; omega
theorem patN_c : ∀ (n op : Nat), op ≤ 24 → 25 ≤ op + n → PatC (patN n) op
  | 0, op, h1, h2 => by omega
  | n + 1, op, h1, h2 => pattern_c (patN_up n) (fun h => patN_c n (op + 1) h (by omega)) h1
def parser0 (s : ByteArray) : RP := ⟨s, 0, 0, [], 0⟩
/-- What regex.Parse returns. -/
def rxParse (s : ByteArray) : List Nd × Int :=
  if 128 < s.size then ([], 1) else
    let r := (patN 25 (parser0 s)).2
    if r.e ≠ 0 then ([], r.e) else if 256 < r.nds.length then ([], 1) else (r.nds, 0)
theorem Parse_c {H : Heap} {s : ByteArray} {Q : Value → Heap → Prop} {E : Chain → Heap → Prop}
    (hk : ∀ p c l e H', rxParse s = (l, e) → Ext H H' → Vec H' 7 p l.length c (flat l) → (∀ i, blk p i → H i = none) → Q (.tuple #[.slice p l.length c, .int .i64 e]) H') : Does Pr 28 #[.string s] H Q E := by
  refine regex_Parse_fn _ Q E H ?_
  have none_c : ∀ e H', rxParse s = ([], e) → Ext H H' → Q (.tuple #[.slice none 0 0, .int .i64 e]) H' := fun e H' h he =>
    hk none 0 [] e H' h he (Vec.nil H' 7) (fun i hi => by obtain ⟨a, ha, _⟩ := hi; cases ha)
  unfold regex_Parse regex_Parse_12
  refine sel_dec (fun hd => ?_) (fun hd => ?_)
  · exact none_c 1 H (by unfold rxParse; rw [if_pos (by omega)]) (.refl H)
  have hsz : ¬ 128 < s.size := by omega
  unfold regex_Parse_9
  intro b hb
  have h : RPs H (H.set b (.cells ((parser0 s).cells none 0) 89 (0, 0))) b (parser0 s) :=
    ⟨Ext.new hb _, hb, by simp [parser0], by simp only [parser0]; omega, none, 0, 89, Heap.set_self _ _ _, Vec.nil _ 7, fun i hi => by obtain ⟨a, ha, _⟩ := hi; cases ha⟩
  unfold regex_Parse_6
  refine patN_c 25 0 (by omega) (by omega) h rfl (by simp [parser0]) fun H1 h1 => ⟨_, rfl, ?_⟩
  have hpar : rxParse s = (if (patN 25 (parser0 s)).2.e ≠ 0 then ([], (patN 25 (parser0 s)).2.e) else if 256 < (patN 25 (parser0 s)).2.nds.length then ([], 1) else ((patN 25 (parser0 s)).2.nds, 0)) := by
    unfold rxParse; rw [if_neg hsz]
  revert hpar h1
  generalize (patN 25 (parser0 s)).2 = r
  intro h1 hpar
  unfold regex_Parse_3
  simp only [ptr_some]
  refine h1.ld4 ?_
  refine sel_bne (fun hne => ?_) (fun heq => ?_)
  · exact h1.ld4 (none_c r.e H1 (by rw [hpar, if_pos hne]) h1.1)
  obtain ⟨g1, g2, g3, g4, p, c, t, g5, g6, g7⟩ := id h1
  refine ldSl_at (p := p) (l := r.nds.length) (m := c) g5 rfl ?_
  refine sel_dec (fun hd => ?_) (fun hd => ?_)
  · exact none_c 1 H1 (by rw [hpar, if_neg (by omega), if_pos (by omega)]) h1.1
  unfold regex_Parse_1
  simp only [ptr_some]
  refine ldSl_at (p := p) (l := r.nds.length) (m := c) g5 rfl ?_
  exact hk p c r.nds 0 H1 (by rw [hpar, if_neg (by omega), if_neg (by omega)]) g1 g6 (fun i hi => (g7 i hi).1)
end Go.Proofs.Ytaffcoiomggpfaa
