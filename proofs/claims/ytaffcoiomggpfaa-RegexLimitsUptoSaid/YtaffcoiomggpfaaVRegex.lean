/- Contracts of package regex (1): the small functions. -/
import Derived.Test.YtaffcoiomggpfaaVNode
import Derived.Test.YtaffcoiomggpfaaFregex
namespace Go.Proofs.Ytaffcoiomggpfaa
open Go.V
attribute [local irreducible] app
set_option linter.constructorNameAsVariable false
set_option linter.unusedVariables false

structure RP where
  s : ByteArray
  at_ : Nat
  op : Nat
  nds : List Nd
  e : Int
def RP.cells (r : RP) (p : Option Addr) (c : Nat) : Array Value := #[.string r.s, .int .i64 r.at_, .int .i64 r.op, .slice p r.nds.length c, .int .i64 r.e]
/-- The parser in block b of H; what H0 knows is as it was. -/
def RPs (H0 H : Heap) (b : Nat) (r : RP) : Prop :=
  Ext H0 H ∧ H0 b = none ∧ r.at_ ≤ r.s.size ∧ r.s.size ≤ 4096 ∧
  ∃ p c t, H b = some (.cells (r.cells p c) t (0, 0)) ∧ Vec H 7 p r.nds.length c (flat r.nds) ∧ ∀ i, blk p i → H0 i = none ∧ i ≠ b

theorem RPs.ext {H0 H H' : Heap} {b : Nat} {r : RP} (h : RPs H0 H b r) (he : Ext H H') : RPs H0 H' b r := by
  obtain ⟨h1, h2, h3, h4, p, c, t, h5, h6, h7⟩ := h
  exact ⟨h1.trans he, h2, h3, h4, p, c, t, he _ _ h5, h6.ext he, h7⟩
/-- What is known besides becomes part of the base. -/
theorem RPs.base {H0 H : Heap} {b : Nat} {r : RP} {i : Nat} {o : Obj} (h : RPs H0 H b r) (hi : H i = some o) (hn : i ≠ b) (hp : ∀ p c t, H b = some (.cells (r.cells p c) t (0, 0)) → ¬ blk p i) : RPs (H0.set i o) H b r := by
  obtain ⟨h1, h2, h3, h4, p, c, t, h5, h6, h7⟩ := h
  refine ⟨h1.base hi, by rw [Heap.set_ne _ _ (Ne.symm hn)]; exact h2, h3, h4, p, c, t, h5, h6, fun j hj => ⟨?_, (h7 j hj).2⟩⟩
  rw [Heap.set_ne _ _ (fun e => hp p c t h5 (by rw [← e]; exact hj))]; exact (h7 j hj).1
theorem RPs.new {H0 H : Heap} {b : Nat} {r : RP} {i : Nat} (h : RPs H0 H b r) (hi : H i = none) (o : Obj) : RPs (H0.set i o) (H.set i o) b r := by
  have hb : b ≠ i := by obtain ⟨_, _, _, _, p, c, t, h5, _⟩ := h; exact ne_of h5 hi
  refine (h.ext (Ext.new hi o)).base (Heap.set_self _ _ _) (Ne.symm hb) fun p c t hc hp => ?_
  obtain ⟨_, _, _, _, p', c', t', h5, h6, _⟩ := h
  rw [Heap.set_ne _ _ hb, h5] at hc
  have : p' = p := by
    simp only [Option.some.injEq, Obj.cells.injEq, RP.cells] at hc
    have := congrArg (fun a => a[3]?) hc.1
    simp at this; exact this.1
  subst this
  exact h6.known hp hi
theorem RPs.old {H0 H : Heap} {b : Nat} {r : RP} {i : Nat} {o : Obj} (hi : H0 i = none) (h : RPs (H0.set i o) H b r) : RPs H0 H b r := by
  obtain ⟨h1, h2, h3, h4, p, c, t, h5, h6, h7⟩ := h
  have hl : ∀ j, (H0.set i o) j = none → H0 j = none := fun j hj => by
    by_cases e : j = i
    · subst e; exact hi
    · rwa [Heap.set_ne _ _ e] at hj
  exact ⟨h1.of_set hi, hl _ h2, h3, h4, p, c, t, h5, h6, fun j hj => ⟨hl _ (h7 j hj).1, (h7 j hj).2⟩⟩

def RP.fail (r : RP) (e : Int) : RP := if r.e = 0 then { r with e := e } else r
def RP.next (r : RP) : Nat × Bool := if r.e ≠ 0 ∨ r.s.size ≤ r.at_ then (0, false) else (byteAt r.s r.at_, true)
def RP.put (r : RP) (x : Nd) : RP := { r with nds := r.nds ++ [x] }

theorem fail_c {H0 H : Heap} {b : Nat} {r : RP} {e : Int} {Q : Value → Heap → Prop} {E : Chain → Heap → Prop} (h : RPs H0 H b r)
    (hk : ∀ H', RPs H0 H' b (r.fail e) → Q (.int .i64 (r.fail e).e) H') : Does Pr 103 #[.pointer (some ⟨b, 0, none⟩), .int .i64 e] H Q E := by
  refine regex_parser_fail_fn _ _ Q E H ?_
  obtain ⟨h1, h2, h3, h4, p, c, t, h5, h6, h7⟩ := id h
  unfold regex_parser_fail regex_parser_fail_3
  refine ldI_at (n := r.e) h5 rfl ?_
  rw [sel_iff]
  constructor
  · intro he
    have he : r.e = 0 := by simpa using he
    refine wr_at h5 (by simp [RP.cells]) rfl ?_
    unfold regex_parser_fail_1
    have hr : r.fail e = { r with e := e } := if_pos he
    rw [hr] at hk
    refine ldI_at (n := e) (Heap.set_self _ _ _) rfl ?_
    refine hk _ ⟨h1.set h2 _, h2, h3, h4, p, c, t, Heap.set_self _ _ _, h6.keep fun i hi _ => Heap.set_ne _ _ (h7 i hi).2, h7⟩
  · intro he
    have he : r.e ≠ 0 := by simpa using he
    have hr : r.fail e = r := if_neg he
    rw [hr] at hk
    unfold regex_parser_fail_1
    exact ldI_at (n := r.e) h5 rfl (hk _ h)
theorem next_c {H0 H : Heap} {b : Nat} {r : RP} {Q : Value → Heap → Prop} {E : Chain → Heap → Prop} (h : RPs H0 H b r)
    (hk : Q (.tuple #[.int .u8 (r.next.1 : Nat), .bool r.next.2]) H) : Does Pr 94 #[.pointer (some ⟨b, 0, none⟩)] H Q E := by
  refine regex_parser_next_fn _ Q E H ?_
  obtain ⟨h1, h2, h3, h4, p, c, t, h5, h6, h7⟩ := id h
  unfold regex_parser_next regex_parser_next_5
  refine ldI_at (n := r.e) h5 rfl ?_
  rw [sel_iff]
  unfold regex_parser_next_3
  refine ⟨fun he => ?_, fun he => ?_⟩
  · have hn : r.next = (0, false) := if_pos (.inl (by simpa using he))
    rw [hn] at hk; exact hk
  · have he : r.e = 0 := by simpa using he
    refine ldI_at (n := (r.at_ : Int)) h5 rfl ?_
    refine ldS_at (n := r.s) h5 rfl ?_
    rw [sel_iff]
    refine ⟨fun hd => ?_, fun hd => ?_⟩
    · have hn : r.next = (0, false) := if_pos (.inr (by have := of_decide_eq_true hd; omega))
      rw [hn] at hk; exact hk
    · have hlt : r.at_ < r.s.size := by have := of_decide_eq_false hd; omega
      have hn : r.next = (byteAt r.s r.at_, true) := if_neg (by omega)
      rw [hn] at hk
      unfold regex_parser_next_1
      refine ldS_at (n := r.s) h5 rfl ?_
      refine ldI_at (n := (r.at_ : Int)) h5 rfl ?_
      exact ⟨by omega, hk⟩
theorem put_c {H0 H : Heap} {b : Nat} {r : RP} {x : Nd} {Q : Value → Heap → Prop} {E : Chain → Heap → Prop} (h : RPs H0 H b r) (hl : r.nds.length < 1048576)
    (hk : ∀ H', RPs H0 H' b (r.put x) → Q (.int .i64 (r.nds.length : Nat)) H') :
    Does Pr 95 #[.pointer (some ⟨b, 0, none⟩), .agg #[.int .i64 x.k, .int .i64 x.l, .int .i64 x.r, .int .u64 x.a, .int .u64 x.b, .int .u64 x.c, .int .u64 x.d]] H Q E := by
  refine regex_parser_put_fn _ _ _ _ _ _ _ _ Q E H ?_
  unfold regex_parser_put
  intro i hi
  have h := h.ext (Ext.new hi (.cells #[.int .i64 x.k, .int .i64 x.l, .int .i64 x.r, .int .u64 x.a, .int .u64 x.b, .int .u64 x.c, .int .u64 x.d] 48 (0, 0)))
  have hi1 := Heap.set_self H i (.cells #[.int .i64 x.k, .int .i64 x.l, .int .i64 x.r, .int .u64 x.a, .int .u64 x.b, .int .u64 x.c, .int .u64 x.d] 48 (0, 0))
  revert h hi1
  generalize H.set i _ = H
  intro h hi1
  obtain ⟨_, _, _, _, p, c, t, h5, _⟩ := id h
  refine ldSl_at (p := p) (l := r.nds.length) (m := c) h5 rfl ?_
  refine ⟨x.k, x.l, x.r, x.a, x.b, x.c, x.d, rd_at hi1 _ 0 0 (fun j hj => by simp), ?_⟩
  intro i2 hi2
  have h := h.ext (Ext.new hi2 (.cells #[.int .i64 x.k, .int .i64 x.l, .int .i64 x.r, .int .u64 x.a, .int .u64 x.b, .int .u64 x.c, .int .u64 x.d] 48 (0, 0)))
  have hi3 := Heap.set_self H i2 (.cells #[.int .i64 x.k, .int .i64 x.l, .int .i64 x.r, .int .u64 x.a, .int .u64 x.b, .int .u64 x.c, .int .u64 x.d] 48 (0, 0))
  have h5 := Ext.new hi2 (.cells #[.int .i64 x.k, .int .i64 x.l, .int .i64 x.r, .int .u64 x.a, .int .u64 x.b, .int .u64 x.c, .int .u64 x.d] 48 (0, 0)) _ _ h5
  revert h hi3 h5
  generalize H.set i2 _ = H
  intro h hi3 h5
  obtain ⟨h1, h2, h3, h4, p', c', t', h5', h6, h7⟩ := id h
  have heq := h5.symm.trans h5'
  simp only [Option.some.injEq, Obj.cells.injEq, RP.cells, Array.mk.injEq, List.cons.injEq, Value.slice.injEq, true_and, and_true] at heq
  obtain ⟨⟨rfl, rfl⟩, rfl⟩ := heq
  have hws : (x.cells).length = 7 := rfl
  have hoo : x.cells.all oneC = true := rfl
  refine app_one (sz := 7) (ws := x.cells) sl23 h6 hi3 hws hoo hl (Nat.zero_lt_succ 6) fun p' c' H' hv hs hb' => ?_
  have hbb : ¬ blk p b := fun hb => (h7 b hb).2 rfl
  have h5' : H' b = some (.cells (r.cells p c) t (0, 0)) := by rw [hs b hbb (by simp [h5])]; exact h5
  simp only [ptr_some, add_at]
  refine wr_at h5' (by simp [RP.cells]) rfl ?_
  refine ldSl_at (p := p') (l := r.nds.length + 1) (m := c') (Heap.set_self _ _ _) rfl ?_
  have hw : IntKind.wrap .i64 (((r.nds.length + 1 : Nat) : Int) - 1) = (r.nds.length : Nat) := by rw [IntWalk.i64_in _ (by omega)]; omega
  rw [hw]
  have hnb : ∀ i, blk p' i → H0 i = none ∧ i ≠ b := fun i hi => by
    rcases hb' i hi with h | h
    · exact h7 i h
    · exact ⟨h1.free h, fun e => by rw [e, h5] at h; cases h⟩
  refine hk _ ⟨Ext.set (fun j o hj => ?_) h2 _, h2, h3, h4, p', c', t, ?_, ?_, hnb⟩
  · have hj' := h1 j o hj
    rw [hs j (fun hb => by rw [(h7 j hb).1] at hj; cases hj) (by simp [hj'])]; exact hj'
  · rw [Heap.set_self]; simp [RP.cells, RP.put, over]
  · have : Vec H' 7 p' (r.put x).nds.length c' (flat (r.put x).nds) := by simpa [RP.put, flat] using hv
    exact this.keep fun i hi _ => Heap.set_ne _ _ (hnb i hi).2

/-! ### Sets -/
theorem with_c {H : Heap} {s : S4} {a b : Nat} {Q : Value → Heap → Prop} {E : Chain → Heap → Prop} (ha : a ≤ 255) (hb : b ≤ 255)
    (hk : ∀ H', Ext H H' → Q (.agg (s.with_ a b).cells) H') : Does Pr 115 #[.agg s.cells, .int .u8 a, .int .u8 b] H Q E := by
  refine regex_with_fn _ _ _ _ _ _ Q E H ?_
  unfold regex_with
  refine nw_ext fun i H1 hi he1 hc1 => ?_
  refine nw_ext fun j H2 hj he2 hc2 => ?_
  have hij : i ≠ j := ne_of hc1 hj
  unfold regex_with_11 regex_with_8
  have wa : IntKind.wrap .i64 (a : Int) = (a : Nat) := wrap_nat a (by omega)
  have wb : IntKind.wrap .i64 (b : Int) = (b : Nat) := wrap_nat b (by omega)
  rw [wa]
  refine ⟨fun x Hc => ∃ n : Nat, x = ((a + n : Nat) : Int) ∧ n ≤ b + 1 - a ∧ Ext H Hc ∧ Hc i = some (.cells (s.withN a n).cells 46 (0, 0)) ∧ Hc j = some (.cells S4.zero.cells 46 (0, 0)),
    fun x _ => (b + 1 - x).toNat, ⟨0, by simp, by omega, he1.trans he2, he2 _ _ hc1, hc2⟩, ?_⟩
  rintro x Hc ⟨n, rfl, hn, he, hci, hcj⟩
  unfold regex_with_5
  refine sel_mk (fun hd => ?_) (fun hd => ?_)
  · have hd := of_decide_eq_true hd
    rw [wb] at hd
    unfold regex_with_3
    have hx : IntKind.wrap .i64 (Int.tdiv ((a + n : Nat) : Int) 64) = (((a + n) / 64 : Nat) : Int) := wrap_nat ((a + n) / 64) (Nat.le_trans (Nat.div_le_self _ _) (by omega))
    have hm : Int.tmod ((a + n : Nat) : Int) 64 = (((a + n) % 64 : Nat) : Int) := rfl
    have h4 : (a + n) / 64 < 4 := by omega
    rw [hx, hm]
    simp only [ptr_some, add_at, Int.toNat_natCast, Nat.mul_one, Nat.zero_add]
    refine ⟨by decide, ⟨by omega, by omega⟩, ldI_at hci (S4.cells_get _ h4) ⟨by decide, by omega, ⟨by omega, by omega⟩, ?_⟩⟩
    refine wr_at hci (by simp [S4.cells]; omega) rfl ?_
    rw [S4.cells_put _ h4]
    have hw : IntKind.wrap .i64 (((a + n : Nat) : Int) + 1) = ((a + (n + 1) : Nat) : Int) := by rw [IntWalk.i64_in _ (by omega)]; omega
    rw [hw]
    refine ⟨⟨n + 1, rfl, by omega, he.set ?_ _, Heap.set_self _ _ _, by rw [Heap.set_ne _ _ (Ne.symm hij)]; exact hcj⟩, by omega⟩
    exact hi
  · have hd := of_decide_eq_false hd
    rw [wb] at hd
    have hn' : n = b + 1 - a := by omega
    subst hn'
    unfold regex_with_1
    refine ⟨_, _, _, _, S4.rd hci, ?_⟩
    simp only [ptr_some]
    refine wr_at hcj (by simp [S4.cells, S4.zero]) rfl ?_
    refine ⟨(s.with_ a b).a, (s.with_ a b).b, (s.with_ a b).c, (s.with_ a b).d, S4.rd (s := s.with_ a b) (Heap.set_self _ _ _), ?_⟩
    exact hk _ (he.set (he1.free hj) _)
theorem not_c {H : Heap} {s : S4} {Q : Value → Heap → Prop} {E : Chain → Heap → Prop}
    (hk : ∀ H', Ext H H' → Q (.agg s.not.cells) H') : Does Pr 111 #[.agg s.cells] H Q E := by
  refine regex_not_fn _ _ _ _ Q E H ?_
  unfold regex_not
  refine nw_ext fun i H1 hi he1 hc1 => ?_
  refine nw_ext fun j H2 hj he2 hc2 => ?_
  have hij : i ≠ j := ne_of hc1 hj
  unfold regex_not_14 regex_not_11
  refine ⟨fun x Hc => ∃ n : Nat, x = (n : Nat) ∧ n ≤ 4 ∧ Ext H Hc ∧ Hc i = some (.cells (s.notN n).cells 46 (0, 0)) ∧ Hc j = some (.cells S4.zero.cells 46 (0, 0)),
    fun x _ => (4 - x).toNat, ⟨0, by simp, by omega, he1.trans he2, he2 _ _ hc1, hc2⟩, ?_⟩
  rintro x Hc ⟨n, rfl, hn, he, hci, hcj⟩
  unfold regex_not_8 regex_not_5
  refine sel_mk (fun hd => ?_) (fun hd => ?_)
  · have hd := of_decide_eq_true hd
    unfold regex_not_3
    have h4 : n < 4 := by omega
    simp only [ptr_some, add_at, Int.toNat_natCast, Nat.mul_one, Nat.zero_add]
    refine ⟨⟨by omega, by omega⟩, ldI_at hci (S4.cells_get _ h4) ⟨⟨by omega, by omega⟩, ?_⟩⟩
    refine wr_at hci (by simp [S4.cells]; omega) rfl ?_
    rw [S4.cells_put _ h4]
    have hw : IntKind.wrap .i64 ((n : Int) + 1) = ((n + 1 : Nat) : Int) := by rw [IntWalk.i64_in _ (by omega)]; omega
    rw [hw]
    exact ⟨⟨n + 1, rfl, by omega, he.set hi _, Heap.set_self _ _ _, by rw [Heap.set_ne _ _ (Ne.symm hij)]; exact hcj⟩, by omega⟩
  · have hd := of_decide_eq_false hd
    obtain rfl : n = 4 := by omega
    unfold regex_not_1
    refine ⟨_, _, _, _, S4.rd hci, ?_⟩
    simp only [ptr_some]
    refine S4.wr (s.notN 4) hcj ?_
    exact ⟨_, _, _, _, S4.rd (s := s.not) (Heap.set_self _ _ _), hk _ (he.set (he1.free hj) _)⟩
theorem bytesOf_c {H : Heap} {s : ByteArray} {Q : Value → Heap → Prop} {E : Chain → Heap → Prop} (hs : s.size ≤ 65536)
    (hk : ∀ H', Ext H H' → Q (.agg (S4.bytesN s s.size).cells) H') : Does Pr 112 #[.string s] H Q E := by
  refine regex_bytesOf_fn _ Q E H ?_
  unfold regex_bytesOf
  refine nw_ext fun i H1 hi he1 hc1 => ?_
  unfold regex_bytesOf_18
  refine nw_ext fun j H2 hj he2 hc2 => ?_
  have hij : i ≠ j := ne_of hc1 hj
  unfold regex_bytesOf_14 regex_bytesOf_11
  refine ⟨fun x Hc => ∃ n : Nat, x = (n : Nat) ∧ n ≤ s.size ∧ Ext H Hc ∧ Hc j = some (.cells (S4.bytesN s n).cells 46 (0, 0)) ∧ Hc i = some (.cells S4.zero.cells 46 (0, 0)),
    fun x _ => (s.size - x).toNat, ⟨0, by simp, by omega, he1.trans he2, hc2, he2 _ _ hc1⟩, ?_⟩
  rintro x Hc ⟨n, rfl, hn, he, hcj, hci⟩
  unfold regex_bytesOf_8 regex_bytesOf_5
  refine sel_mk (fun hd => ?_) (fun hd => ?_)
  · have hd := of_decide_eq_true hd
    unfold regex_bytesOf_3
    simp only [ptr_some]
    refine ⟨_, _, _, _, S4.rd hcj, ⟨by omega, by omega⟩, ⟨by omega, by omega⟩, ?_⟩
    rw [sAt_nat]
    refine with_c (s := S4.bytesN s n) (byteAt_le _ _) (byteAt_le _ _) fun H' he' => ?_
    refine ⟨_, _, _, _, rfl, ?_⟩
    refine S4.wr (S4.bytesN s (n + 1)) (he' _ _ hcj) ?_
    have hw : IntKind.wrap .i64 ((n : Int) + 1) = ((n + 1 : Nat) : Int) := by rw [IntWalk.i64_in _ (by omega)]; omega
    rw [hw]
    exact ⟨⟨n + 1, rfl, by omega, (he.trans he').set (he1.free hj) _, Heap.set_self _ _ _, by rw [Heap.set_ne _ _ hij]; exact he' _ _ hci⟩, by omega⟩
  · have hd := of_decide_eq_false hd
    obtain rfl : n = s.size := by omega
    unfold regex_bytesOf_1
    refine ⟨_, _, _, _, S4.rd hcj, ?_⟩
    simp only [ptr_some]
    refine S4.wr (S4.bytesN s s.size) hci ?_
    exact ⟨_, _, _, _, S4.rd (s := S4.bytesN s s.size) (Heap.set_self _ _ _), hk _ (he.set hi _)⟩
def single (b : Nat) : Nat × Bool :=
  if b = 110 then (10, true) else if b = 116 then (9, true) else if b = 114 then (13, true)
  else if 33 ≤ b ∧ b ≤ 47 ∨ 58 ≤ b ∧ b ≤ 64 ∨ 91 ≤ b ∧ b ≤ 96 ∨ 123 ≤ b ∧ b ≤ 126 then (b, true) else (0, false)
theorem single_c {H : Heap} {b : Nat} {Q : Value → Heap → Prop} {E : Chain → Heap → Prop}
    (hk : ∀ n k, single b = (n, k) → Q (.tuple #[.int .u8 (n : Nat), .bool k]) H) : Does Pr 121 #[.int .u8 b] H Q E := by
  refine regex_single_fn _ Q E H ?_
  unfold regex_single regex_single_43 regex_single_41
  (first | refine sel_tt ?_ | refine sel_ff ?_ | refine sel_beq (fun _ => ?_) (fun _ => ?_) | refine sel_bne (fun _ => ?_) (fun _ => ?_) | refine sel_dec (fun _ => ?_) (fun _ => ?_) | refine sel_not (fun _ => ?_) (fun _ => ?_) | refine sel_mk (fun _ => ?_) (fun _ => ?_))
  · exact hk 10 true (by unfold single; rw [if_pos (by omega)])
  unfold regex_single_38 regex_single_36
  (first | refine sel_tt ?_ | refine sel_ff ?_ | refine sel_beq (fun _ => ?_) (fun _ => ?_) | refine sel_bne (fun _ => ?_) (fun _ => ?_) | refine sel_dec (fun _ => ?_) (fun _ => ?_) | refine sel_not (fun _ => ?_) (fun _ => ?_) | refine sel_mk (fun _ => ?_) (fun _ => ?_))
  · exact hk 9 true (by unfold single; rw [if_neg (by omega), if_pos (by omega)])
  unfold regex_single_33 regex_single_31
  (first | refine sel_tt ?_ | refine sel_ff ?_ | refine sel_beq (fun _ => ?_) (fun _ => ?_) | refine sel_bne (fun _ => ?_) (fun _ => ?_) | refine sel_dec (fun _ => ?_) (fun _ => ?_) | refine sel_not (fun _ => ?_) (fun _ => ?_) | refine sel_mk (fun _ => ?_) (fun _ => ?_))
  · exact hk 13 true (by unfold single; rw [if_neg (by omega), if_neg (by omega), if_pos (by omega)])
  have yes : (33 ≤ b ∧ b ≤ 47 ∨ 58 ≤ b ∧ b ≤ 64 ∨ 91 ≤ b ∧ b ≤ 96 ∨ 123 ≤ b ∧ b ≤ 126) → Q (.tuple #[.int .u8 (b : Nat), .bool true]) H := fun h =>
    hk b true (by unfold single; rw [if_neg (by omega), if_neg (by omega), if_neg (by omega), if_pos h])
  have no : ¬ (33 ≤ b ∧ b ≤ 47 ∨ 58 ≤ b ∧ b ≤ 64 ∨ 91 ≤ b ∧ b ≤ 96 ∨ 123 ≤ b ∧ b ≤ 126) → Q (.tuple #[.int .u8 (0 : Nat), .bool false]) H := fun h =>
    hk 0 false (by unfold single; rw [if_neg (by omega), if_neg (by omega), if_neg (by omega), if_neg h])
  unfold regex_single_27 regex_single_25 regex_single_22 regex_single_20 regex_single_17 regex_single_15 regex_single_13 regex_single_11 regex_single_9
  repeat' (first | refine sel_tt ?_ | refine sel_ff ?_ | refine sel_beq (fun _ => ?_) (fun _ => ?_) | refine sel_bne (fun _ => ?_) (fun _ => ?_) | refine sel_dec (fun _ => ?_) (fun _ => ?_) | refine sel_not (fun _ => ?_) (fun _ => ?_) | refine sel_mk (fun _ => ?_) (fun _ => ?_))
  all_goals first | exact yes (by omega) | exact no (by omega)
def digits : S4 := S4.zero.with_ 48 57
def blanks : ByteArray := ⟨[32, 9, 13, 10].toArray⟩
def named (c : Nat) : S4 × Bool :=
  if c = 100 then (digits, true) else if c = 119 then (((digits.with_ 97 122).with_ 65 90).with_ 95 95, true)
  else if c = 115 then (S4.bytesN blanks 4, true) else (S4.zero, false)
theorem named_c {H : Heap} {b : Nat} {Q : Value → Heap → Prop} {E : Chain → Heap → Prop}
    (hk : ∀ H', Ext H H' → Q (.tuple #[.agg (named b).1.cells, .bool (named b).2]) H') : Does Pr 120 #[.int .u8 b] H Q E := by
  refine regex_named_fn _ Q E H ?_
  unfold regex_named
  refine nw_ext fun i H1 hi he1 hc1 => ?_
  have hc1 : H1 i = some (.cells S4.zero.cells 46 (0, 0)) := hc1
  unfold regex_named_6
  refine with_c (s := S4.zero) (a := 48) (b := 57) (by omega) (by omega) fun H2 he2 => ?_
  refine ⟨_, _, _, _, rfl, ?_⟩
  refine nw_ext fun j H3 hj he3 hc3 => ?_
  have hc3 : H3 j = some (.cells S4.zero.cells 46 (0, 0)) := hc3
  have hij : i ≠ j := ne_of (he2 _ _ hc1) hj
  refine S4.wr digits hc3 ?_
  have hc4 : (H3.set j (.cells digits.cells 46 (0, 0))) j = some (.cells digits.cells 46 (0, 0)) := Heap.set_self _ _ _
  have hi4 : (H3.set j (.cells digits.cells 46 (0, 0))) i = some (.cells S4.zero.cells 46 (0, 0)) := by rw [Heap.set_ne _ _ hij]; exact he3 _ _ (he2 _ _ hc1)
  have he4 : Ext H (H3.set j (.cells digits.cells 46 (0, 0))) := (((he1.trans he2).trans he3)).set ((he1.trans he2).free hj) _
  revert hc4 hi4 he4
  generalize H3.set j (.cells digits.cells 46 (0, 0)) = H4
  intro hc4 hi4 he4
  have fin : ∀ (s : S4) (k : Bool) (H5 : Heap), named b = (s, k) → Ext H4 H5 → wr ⟨i, 0, none⟩ [.int .u64 s.a, .int .u64 s.b, .int .u64 s.c, .int .u64 s.d] H5 fun H6 =>
      ∃ n1 n2 n3 n4 : Int, H6.rd ⟨i, 0, none⟩ 0 [(.int .u64 n1), (.int .u64 n2), (.int .u64 n3), (.int .u64 n4)] ∧ Q (.tuple #[.agg #[(.int .u64 n1), (.int .u64 n2), (.int .u64 n3), (.int .u64 n4)], .bool k]) H6 := by
    intro s k H5 hs he5
    rw [hs] at hk
    exact S4.wr s (he5 _ _ hi4) ⟨_, _, _, _, S4.rd (s := s) (Heap.set_self _ _ _), hk _ ((he4.trans he5).set hi _)⟩
  unfold regex_named_3
  (first | refine sel_tt ?_ | refine sel_ff ?_ | refine sel_beq (fun _ => ?_) (fun _ => ?_) | refine sel_bne (fun _ => ?_) (fun _ => ?_) | refine sel_dec (fun _ => ?_) (fun _ => ?_) | refine sel_not (fun _ => ?_) (fun _ => ?_) | refine sel_mk (fun _ => ?_) (fun _ => ?_))
  · simp only [ptr_some]
    exact ⟨_, _, _, _, S4.rd hc4, fin digits true H4 (by unfold named; rw [if_pos (by omega)]) (Ext.refl _)⟩
  (first | refine sel_tt ?_ | refine sel_ff ?_ | refine sel_beq (fun _ => ?_) (fun _ => ?_) | refine sel_bne (fun _ => ?_) (fun _ => ?_) | refine sel_dec (fun _ => ?_) (fun _ => ?_) | refine sel_not (fun _ => ?_) (fun _ => ?_) | refine sel_mk (fun _ => ?_) (fun _ => ?_))
  · simp only [ptr_some]
    refine ⟨_, _, _, _, S4.rd hc4, ?_⟩
    refine with_c (s := digits) (a := 97) (b := 122) (by omega) (by omega) fun H5 he5 => ?_
    refine ⟨_, _, _, _, rfl, ?_⟩
    refine with_c (s := digits.with_ 97 122) (a := 65) (b := 90) (by omega) (by omega) fun H6 he6 => ?_
    refine ⟨_, _, _, _, rfl, ?_⟩
    refine with_c (s := (digits.with_ 97 122).with_ 65 90) (a := 95) (b := 95) (by omega) (by omega) fun H7 he7 => ?_
    exact ⟨_, _, _, _, rfl, fin (((digits.with_ 97 122).with_ 65 90).with_ 95 95) true H7 (by unfold named; rw [if_neg (by omega), if_pos (by omega)]) ((he5.trans he6).trans he7)⟩
  (first | refine sel_tt ?_ | refine sel_ff ?_ | refine sel_beq (fun _ => ?_) (fun _ => ?_) | refine sel_bne (fun _ => ?_) (fun _ => ?_) | refine sel_dec (fun _ => ?_) (fun _ => ?_) | refine sel_not (fun _ => ?_) (fun _ => ?_) | refine sel_mk (fun _ => ?_) (fun _ => ?_))
  · refine bytesOf_c (s := blanks) (by decide) fun H5 he5 => ?_
    simp only [ptr_some]
    exact ⟨_, _, _, _, rfl, fin (S4.bytesN blanks 4) true H5 (by unfold named; rw [if_neg (by omega), if_neg (by omega), if_pos (by omega)]) he5⟩
  · unfold regex_named_1
    simp only [ptr_some]
    exact fin S4.zero false H4 (by unfold named; rw [if_neg (by omega), if_neg (by omega), if_neg (by omega)]) (Ext.refl _)

/-! ### The parser's fields -/
theorem RPs.ld1 {H0 H : Heap} {b : Nat} {r : RP} {K : Int → Prop} (h : RPs H0 H b r) (hk : K (r.at_ : Nat)) : ldI .i64 (Addr.add ⟨b, 0, none⟩ 1) H K := by
  obtain ⟨_, _, _, _, p, c, t, h5, _⟩ := h; exact ldI_at h5 rfl hk
theorem RPs.ld2 {H0 H : Heap} {b : Nat} {r : RP} {K : Int → Prop} (h : RPs H0 H b r) (hk : K (r.op : Nat)) : ldI .i64 (Addr.add ⟨b, 0, none⟩ 2) H K := by
  obtain ⟨_, _, _, _, p, c, t, h5, _⟩ := h; exact ldI_at h5 rfl hk
theorem RPs.ld4 {H0 H : Heap} {b : Nat} {r : RP} {K : Int → Prop} (h : RPs H0 H b r) (hk : K r.e) : ldI .i64 (Addr.add ⟨b, 0, none⟩ 4) H K := by
  obtain ⟨_, _, _, _, p, c, t, h5, _⟩ := h; exact ldI_at h5 rfl hk
theorem RPs.st1 {H0 H : Heap} {b a : Nat} {r : RP} {v : Int} {K : Heap → Prop} (h : RPs H0 H b r) (hv : v = (a : Nat)) (ha : a ≤ r.s.size) (hk : ∀ H', RPs H0 H' b { r with at_ := a } → K H') :
    wr (Addr.add ⟨b, 0, none⟩ 1) [.int .i64 v] H K := by
  subst hv
  obtain ⟨h1, h2, h3, h4, p, c, t, h5, h6, h7⟩ := h
  rw [add_at]
  refine wr_at h5 (by simp [RP.cells]) rfl ?_
  exact hk _ ⟨h1.set h2 _, h2, ha, h4, p, c, t, Heap.set_self _ _ _, h6.keep fun i hi _ => Heap.set_ne _ _ (h7 i hi).2, h7⟩
theorem RPs.st2 {H0 H : Heap} {b a : Nat} {r : RP} {v : Int} {K : Heap → Prop} (h : RPs H0 H b r) (hv : v = (a : Nat)) (hk : ∀ H', RPs H0 H' b { r with op := a } → K H') :
    wr (Addr.add ⟨b, 0, none⟩ 2) [.int .i64 v] H K := by
  subst hv
  obtain ⟨h1, h2, h3, h4, p, c, t, h5, h6, h7⟩ := h
  rw [add_at]
  refine wr_at h5 (by simp [RP.cells]) rfl ?_
  exact hk _ ⟨h1.set h2 _, h2, h3, h4, p, c, t, Heap.set_self _ _ _, h6.keep fun i hi _ => Heap.set_ne _ _ (h7 i hi).2, h7⟩
theorem RPs.upd {H0 H : Heap} {b i : Nat} {r : RP} {o : Obj} (h : RPs (H0.set i o) H b r) (o' : Obj) : RPs (H0.set i o') (H.set i o') b r := by
  obtain ⟨h1, h2, h3, h4, p, c, t, h5, h6, h7⟩ := h
  have hne : ∀ {j}, (H0.set i o) j = none → j ≠ i ∧ H0 j = none := fun {j} hj => by
    by_cases e : j = i
    · subst e; rw [Heap.set_self] at hj; cases hj
    · rw [Heap.set_ne _ _ e] at hj; exact ⟨e, hj⟩
  have hset : ∀ {j}, (H0.set i o) j = none → (H0.set i o') j = none := fun {j} hj => by rw [Heap.set_ne _ _ (hne hj).1]; exact (hne hj).2
  refine ⟨fun j x hj => ?_, hset h2, h3, h4, p, c, t, by rw [Heap.set_ne _ _ (hne h2).1]; exact h5, h6.keep fun j hj _ => Heap.set_ne _ _ (hne (h7 j hj).1).1, fun j hj => ⟨hset (h7 j hj).1, (h7 j hj).2⟩⟩
  by_cases e : j = i
  · subst e; rw [Heap.set_self] at hj ⊢; exact hj
  · rw [Heap.set_ne _ _ e] at hj ⊢; exact h1 j x (by rw [Heap.set_ne _ _ e]; exact hj)
theorem RPs.bound {H0 H : Heap} {b : Nat} {r : RP} (h : RPs H0 H b r) : r.at_ ≤ r.s.size ∧ r.s.size ≤ 4096 := ⟨h.2.2.1, h.2.2.2.1⟩
def RP.inc (r : RP) : RP := { r with at_ := r.at_ + 1 }
theorem RP.next_some {r : RP} {c : Nat} (h : r.next = (c, true)) : r.e = 0 ∧ r.at_ < r.s.size ∧ c = byteAt r.s r.at_ ∧ c ≤ 255 := by
  unfold RP.next at h
  split at h
  · cases h
  · cases h; exact ⟨by omega, by omega, rfl, byteAt_le _ _⟩
theorem RP.next_none {r : RP} {c : Nat} (h : r.next = (c, false)) : c = 0 ∧ (r.e ≠ 0 ∨ r.s.size ≤ r.at_) := by
  unfold RP.next at h
  split at h
  · cases h; exact ⟨rfl, by assumption⟩
  · cases h
theorem single_le {b n : Nat} {k : Bool} (h : single b = (n, k)) (hb : b ≤ 255) : n ≤ 255 := by
  unfold single at h
  repeat' split at h
  all_goals (cases h; omega)

/-! ### Escapes, members -/
def RP.escape (r : RP) : (Nat × S4 × Bool) × RP :=
  match r.inc.next with
  | (c, false) => ((0, S4.zero, false), r.inc.fail 82)
  | (c, true) => match named c with
    | (s, true) => ((0, s, true), r.inc.inc)
    | (_, false) => match single c with
      | (n, k) => ((n, S4.zero.with_ n n, false), if k = true then r.inc.inc else r.inc.inc.fail 82)
theorem escape_c {H0 H : Heap} {b : Nat} {r : RP} {Q : Value → Heap → Prop} {E : Chain → Heap → Prop} (h : RPs H0 H b r) (hlt : r.at_ < r.s.size)
    (hk : ∀ n s k r' H', r.escape = ((n, s, k), r') → RPs H0 H' b r' → Q (.tuple #[.int .u8 (n : Nat), .agg s.cells, .bool k]) H') : Does Pr 114 #[.pointer (some ⟨b, 0, none⟩)] H Q E := by
  refine regex_parser_escape_fn _ Q E H ?_
  have hsz := h.bound
  unfold regex_parser_escape
  intro i hi
  have hi0 : H0 i = none := h.1.free hi
  have h := h.new hi (.cells S4.zero.cells 46 (0, 0))
  have fin : ∀ (n : Nat) (s : S4) (k : Bool) (r' : RP) (H5 : Heap), r.escape = ((n, s, k), r') → RPs (H0.set i (.cells S4.zero.cells 46 (0, 0))) H5 b r' → wr ⟨i, 0, none⟩ [.int .u64 s.a, .int .u64 s.b, .int .u64 s.c, .int .u64 s.d] H5 fun H6 =>
      ∃ n1 n2 n3 n4 : Int, H6.rd ⟨i, 0, none⟩ 0 [(.int .u64 n1), (.int .u64 n2), (.int .u64 n3), (.int .u64 n4)] ∧ Q (.tuple #[.int .u8 (n : Nat), .agg #[(.int .u64 n1), (.int .u64 n2), (.int .u64 n3), (.int .u64 n4)], .bool k]) H6 := by
    intro n s k r' H5 hs h5
    exact S4.wr s h5.1.get ⟨_, _, _, _, S4.rd (s := s) (Heap.set_self _ _ _), hk _ s _ r' _ hs (RPs.old hi0 (h5.upd _))⟩
  unfold regex_parser_escape_18
  simp only [ptr_some]
  refine h.ld1 (h.st1 (a := r.at_ + 1) (by rw [IntWalk.i64_in _ (by omega)]; omega) (by omega) fun H1 h1 => ?_)
  unfold regex_parser_escape_15
  refine next_c h1 ?_
  refine ⟨_, _, rfl, ?_⟩
  unfold regex_parser_escape_12
  cases hn : ({ r with at_ := r.at_ + 1 } : RP).next with
  | mk c ok =>
    have hn' : r.inc.next = (c, ok) := hn
    cases ok with
    | false =>
      (first | refine sel_tt ?_ | refine sel_ff ?_ | refine sel_beq (fun _ => ?_) (fun _ => ?_) | refine sel_bne (fun _ => ?_) (fun _ => ?_) | refine sel_dec (fun _ => ?_) (fun _ => ?_) | refine sel_not (fun _ => ?_) (fun _ => ?_) | refine sel_mk (fun _ => ?_) (fun _ => ?_))
      · refine fail_c h1 fun H2 h2 => ⟨_, rfl, ?_⟩
        simp only [ptr_some]
        exact fin 0 S4.zero false _ H2 (by simp only [RP.escape, hn']; rfl) h2
    | true =>
      obtain ⟨g1, g2, g3, g4⟩ := RP.next_some hn
      (first | refine sel_tt ?_ | refine sel_ff ?_ | refine sel_beq (fun _ => ?_) (fun _ => ?_) | refine sel_bne (fun _ => ?_) (fun _ => ?_) | refine sel_dec (fun _ => ?_) (fun _ => ?_) | refine sel_not (fun _ => ?_) (fun _ => ?_) | refine sel_mk (fun _ => ?_) (fun _ => ?_))
      unfold regex_parser_escape_9
      simp only [ptr_some]
      refine h1.ld1 (h1.st1 (a := r.at_ + 1 + 1) (by simp only []; rw [IntWalk.i64_in _ (by omega)]; omega) g2 fun H2 h2 => ?_)
      unfold regex_parser_escape_6
      refine named_c fun H3 he3 => ?_
      have h3 := h2.ext he3
      refine ⟨_, _, _, _, _, rfl, ?_⟩
      simp only [ptr_some]
      cases hnm : named c with
      | mk s m =>
        refine S4.wr s h3.1.get ?_
        have h4 := h3.upd (.cells s.cells 46 (0, 0))
        revert h4
        generalize H3.set i _ = H4
        intro h4
        cases m with
        | true =>
          refine sel_tt ?_
          refine ⟨_, _, _, _, S4.rd h4.1.get, ?_⟩
          refine S4.wr s h4.1.get ⟨_, _, _, _, S4.rd (s := s) (Heap.set_self _ _ _), ?_⟩
          exact hk 0 s true r.inc.inc _ (by simp only [RP.escape, hn', hnm]) (RPs.old hi0 (h4.upd _))
        | false =>
          refine sel_ff ?_
          unfold regex_parser_escape_3
          refine single_c fun n k hs => ?_
          refine ⟨_, _, rfl, ?_⟩
          have last : ∀ (r' : RP) (H5 : Heap), (if k = true then r.inc.inc else r.inc.inc.fail 82) = r' → RPs (H0.set i (.cells s.cells 46 (0, 0))) H5 b r' → regex_parser_escape_1 Q E (n : Nat) (some ⟨i, 0, none⟩) H5 := by
            intro r' H5 hr h5
            unfold regex_parser_escape_1
            refine with_c (s := S4.zero) (single_le hs g4) (single_le hs g4) fun H6 he6 => ?_
            refine ⟨_, _, _, _, rfl, ?_⟩
            simp only [ptr_some]
            have h6 := h5.ext he6
            refine S4.wr (S4.zero.with_ n n) h6.1.get ⟨_, _, _, _, S4.rd (s := S4.zero.with_ n n) (Heap.set_self _ _ _), ?_⟩
            exact hk n _ false r' _ (by simp only [RP.escape, hn', hnm, hs, hr]) (RPs.old hi0 (h6.upd _))
          cases k with
          | false =>
            refine sel_tt ?_
            exact fail_c h4 fun H5 h5 => ⟨_, rfl, last _ H5 rfl h5⟩
          | true =>
            refine sel_ff ?_
            exact last _ H4 rfl h4

/-! ### Bases -/
theorem RPs.weaken {H0 Hb H : Heap} {b : Nat} {r : RP} (he : Ext H0 Hb) (h : RPs Hb H b r) : RPs H0 H b r := by
  obtain ⟨h1, h2, h3, h4, p, c, t, h5, h6, h7⟩ := h
  exact ⟨he.trans h1, he.free h2, h3, h4, p, c, t, h5, h6, fun j hj => ⟨he.free (h7 j hj).1, (h7 j hj).2⟩⟩
theorem RPs.upd' {Hb H : Heap} {b i : Nat} {r : RP} {o : Obj} (hi : Hb i = some o) (h : RPs Hb H b r) (o' : Obj) : RPs (Hb.set i o') (H.set i o') b r := by
  refine RPs.upd (o := o) ?_ o'
  have : Hb.set i o = Hb := by
    funext j; by_cases e : j = i
    · subst e; rw [Heap.set_self]; exact hi.symm
    · rw [Heap.set_ne _ _ e]
  rw [this]; exact h
theorem RPs.atOf {H0 H : Heap} {b : Nat} {r : RP} (h : RPs H0 H b r) : atOf b H = r.at_ := by
  obtain ⟨_, _, _, _, p, c, t, h5, _⟩ := h
  simp [Proofs.Ytaffcoiomggpfaa.atOf, h5, RP.cells]
def RP.member (r : RP) : (Nat × S4 × Bool) × RP :=
  match r.next with
  | (_, false) => ((0, S4.zero, false), r.fail 80)
  | (c, true) => if c = 93 ∨ c = 94 ∨ c = 45 then ((0, S4.zero, false), r.fail 80) else if c = 92 then r.escape else ((c, S4.zero.with_ c c, false), r.inc)
theorem member_c {H0 H : Heap} {b : Nat} {r : RP} {Q : Value → Heap → Prop} {E : Chain → Heap → Prop} (h : RPs H0 H b r)
    (hk : ∀ n s k r' H', r.member = ((n, s, k), r') → RPs H0 H' b r' → Q (.tuple #[.int .u8 (n : Nat), .agg s.cells, .bool k]) H') : Does Pr 119 #[.pointer (some ⟨b, 0, none⟩)] H Q E := by
  refine regex_parser_member_fn _ Q E H ?_
  have hsz := h.bound
  unfold regex_parser_member
  intro i hi
  have hi0 : H0 i = none := h.1.free hi
  have h := h.new hi (.cells S4.zero.cells 46 (0, 0))
  have fin : ∀ (n : Nat) (s : S4) (k : Bool) (r' : RP) (H5 : Heap), r.member = ((n, s, k), r') → RPs (H0.set i (.cells S4.zero.cells 46 (0, 0))) H5 b r' → wr ⟨i, 0, none⟩ [.int .u64 s.a, .int .u64 s.b, .int .u64 s.c, .int .u64 s.d] H5 fun H6 =>
      ∃ n1 n2 n3 n4 : Int, H6.rd ⟨i, 0, none⟩ 0 [(.int .u64 n1), (.int .u64 n2), (.int .u64 n3), (.int .u64 n4)] ∧ Q (.tuple #[.int .u8 (n : Nat), .agg #[(.int .u64 n1), (.int .u64 n2), (.int .u64 n3), (.int .u64 n4)], .bool k]) H6 := by
    intro n s k r' H5 hs h5
    exact S4.wr s h5.1.get ⟨_, _, _, _, S4.rd (s := s) (Heap.set_self _ _ _), hk _ s _ r' _ hs (RPs.old hi0 (h5.upd _))⟩
  unfold regex_parser_member_10
  refine next_c h ?_
  refine ⟨_, _, rfl, ?_⟩
  cases hn : r.next with
  | mk c ok =>
    have bad : r.member = ((0, S4.zero, false), r.fail 80) → regex_parser_member_3 Q E (some ⟨b, 0, none⟩) (some ⟨i, 0, none⟩) (c : Nat) true (H.set i (.cells S4.zero.cells 46 (0, 0))) := by
      intro hm
      unfold regex_parser_member_3
      refine sel_tt (fail_c h fun H2 h2 => ⟨_, rfl, ?_⟩)
      try simp only [ptr_some]
      exact fin 0 S4.zero false _ H2 hm h2
    unfold regex_parser_member_5
    cases ok with
    | false =>
      refine sel_tt (bad ?_)
      simp only [RP.member, hn]
    | true =>
      obtain ⟨g1, g2, g3, g4⟩ := RP.next_some hn
      refine sel_ff ?_
      (first | refine sel_tt ?_ | refine sel_ff ?_ | refine sel_beq (fun _ => ?_) (fun _ => ?_) | refine sel_bne (fun _ => ?_) (fun _ => ?_) | refine sel_dec (fun _ => ?_) (fun _ => ?_) | refine sel_not (fun _ => ?_) (fun _ => ?_) | refine sel_mk (fun _ => ?_) (fun _ => ?_))
      · exact bad (by simp only [RP.member, hn]; rw [if_pos (by omega)])
      (first | refine sel_tt ?_ | refine sel_ff ?_ | refine sel_beq (fun _ => ?_) (fun _ => ?_) | refine sel_bne (fun _ => ?_) (fun _ => ?_) | refine sel_dec (fun _ => ?_) (fun _ => ?_) | refine sel_not (fun _ => ?_) (fun _ => ?_) | refine sel_mk (fun _ => ?_) (fun _ => ?_))
      · exact bad (by simp only [RP.member, hn]; rw [if_pos (by omega)])
      unfold regex_parser_member_3
      (first | refine sel_tt ?_ | refine sel_ff ?_ | refine sel_beq (fun _ => ?_) (fun _ => ?_) | refine sel_bne (fun _ => ?_) (fun _ => ?_) | refine sel_dec (fun _ => ?_) (fun _ => ?_) | refine sel_not (fun _ => ?_) (fun _ => ?_) | refine sel_mk (fun _ => ?_) (fun _ => ?_))
      · refine (fail_c h fun H2 h2 => ⟨_, rfl, ?_⟩)
        try simp only [ptr_some]
        exact fin 0 S4.zero false _ H2 (by simp only [RP.member, hn]; rw [if_pos (by omega)]) h2
      (first | refine sel_tt ?_ | refine sel_ff ?_ | refine sel_beq (fun _ => ?_) (fun _ => ?_) | refine sel_bne (fun _ => ?_) (fun _ => ?_) | refine sel_dec (fun _ => ?_) (fun _ => ?_) | refine sel_not (fun _ => ?_) (fun _ => ?_) | refine sel_mk (fun _ => ?_) (fun _ => ?_))
      · refine escape_c h g2 fun n s k r' H2 hs h2 => ?_
        refine ⟨_, _, _, _, _, _, rfl, ?_⟩
        try simp only [ptr_some]
        exact fin n s k r' H2 (by simp only [RP.member, hn]; rw [if_neg (by omega), if_pos (by omega)]; exact hs) h2
      unfold regex_parser_member_1
      try simp only [ptr_some]
      refine h.ld1 (h.st1 (a := r.at_ + 1) (by rw [IntWalk.i64_in _ (by omega)]; omega) (by omega) fun H1 h1 => ?_)
      refine with_c (s := S4.zero) g4 g4 fun H2 he2 => ?_
      refine ⟨_, _, _, _, rfl, ?_⟩
      try simp only [ptr_some]
      exact fin c (S4.zero.with_ c c) false r.inc H2 (by simp only [RP.member, hn]; rw [if_neg (by omega), if_neg (by omega)]) (h1.ext he2)

/-- From r on to r': the same text, no way back, no error that goes away. -/
structure RP.Le (r r' : RP) : Prop where
  s : r'.s = r.s
  at_ : r.at_ ≤ r'.at_
  e : r.e ≠ 0 → r'.e = r.e
  op : r'.op = r.op
  nds : r'.nds = r.nds
theorem RP.Le.refl (r : RP) : RP.Le r r := ⟨rfl, Nat.le_refl _, fun _ => rfl, rfl, rfl⟩
theorem RP.Le.trans {a b c : RP} (h : a.Le b) (g : b.Le c) : a.Le c := ⟨g.s.trans h.s, Nat.le_trans h.at_ g.at_, fun x => (g.e (by rw [h.e x]; exact x)).trans (h.e x), g.op.trans h.op, g.nds.trans h.nds⟩
theorem RP.Le.fail (r : RP) (e : Int) (he : e ≠ 0) : r.Le (r.fail e) := by
  unfold RP.fail; split
  · exact ⟨rfl, Nat.le_refl _, fun h => absurd ‹r.e = 0› h, rfl, rfl⟩
  · exact .refl _
theorem RP.Le.inc (r : RP) : r.Le r.inc := ⟨rfl, Nat.le_succ _, fun _ => rfl, rfl, rfl⟩
theorem RP.fail_e (r : RP) {e : Int} (he : e ≠ 0) : (r.fail e).e ≠ 0 := by
  unfold RP.fail; split
  · exact he
  · assumption
theorem escape_le {r r' : RP} {x} (h : r.escape = (x, r')) : r.inc.Le r' := by
  unfold RP.escape at h
  split at h
  · cases h; exact .fail _ _ (by decide)
  · split at h
    · cases h; exact .inc _
    · split at h
      cases h
      split
      · exact .inc _
      · exact (RP.Le.inc _).trans (.fail _ _ (by decide))
theorem member_le {r r' : RP} {x} (h : r.member = (x, r')) : r.Le r' ∧ (r'.e = 0 → r.at_ < r'.at_) := by
  unfold RP.member at h
  split at h
  · cases h; exact ⟨.fail _ _ (by decide), fun h => absurd h (RP.fail_e _ (by decide))⟩
  · split at h
    · cases h; exact ⟨.fail _ _ (by decide), fun h => absurd h (RP.fail_e _ (by decide))⟩
    · split at h
      · exact ⟨(RP.Le.inc _).trans (escape_le h), fun _ => (escape_le h).at_⟩
      · cases h; exact ⟨.inc _, fun _ => Nat.lt_succ_self _⟩
end Go.Proofs.Ytaffcoiomggpfaa
