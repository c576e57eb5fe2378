import Derived.Test.YtaffcoiomggpfaaVLang
import Derived.Test.YtaffcoiomggpfaaFnfa
import Derived.Test.YtaffcoiomggpfaaVNode
/- Contracts of package nfa (1): valid, Run, pick. -/
namespace Go.Proofs.Ytaffcoiomggpfaa
open Go.V
attribute [local irreducible] app
set_option linter.constructorNameAsVariable false
set_option linter.unusedVariables false

def NV (st : List Nd) : Prop := 1 ≤ st.length ∧ st.length ≤ 513 ∧ InR st ∧ ∀ x ∈ st, 1 ≤ x.k ∧ x.k ≤ 5
theorem nis_c {H : Heap} {n : Int} {b : Nat} {p : OA} {l c : Nat} {t : TypeId} {fr : Nat × Nat} {Q : QT} {E : ET} (hb : H b = some (.cells #[.slice p l c] t fr)) (h0 : 0 ≤ n) (h1 : n < l) (hk : Q (.bool true) H) : Does Pr 96 #[.int .i64 n, .pointer (some ⟨b, 0, none⟩)] H Q E := by
  refine zqh2_fn _ _ Q E H ?_
  unfold zqh2
  refine sel_dec (fun _ => ?_) (fun h => absurd h0 h)
  simp only [ptr_some]
  refine ldSl_at (p := p) (l := l) (m := c) hb rfl ?_
  rw [decide_eq_true h1]; exact hk
set_option maxHeartbeats 1000000 in
theorem nvalid_c {H : Heap} {p : OA} {c : Nat} {st : List Nd} {Q : QT} {E : ET} (hv : Nds H p st) (hN : NV st) (hk : ∀ H', Ext H H' → Q (.bool true) H') : Does Pr 62 #[.slice p st.length c] H Q E := by
  obtain ⟨n1, n2, hr, hkind⟩ := hN
  refine zqc2_fn _ _ _ Q E H ?_
  unfold zqc2
  refine nw_ext fun i H1 hi he1 hc1 => ?_
  unfold zqc2_53 zqc2_49
  simp only [ptr_some]
  refine ldSl_at (p := p) (l := st.length) (m := c) hc1 rfl ?_
  unfold zqc2_46
  refine ⟨fun x H' => ∃ j : Nat, x = (j : Nat) ∧ j ≤ st.length ∧ Ext H1 H', fun x _ => ((st.length : Int) - x).toNat, ⟨0, rfl, by omega, Ext.refl _⟩, ?_⟩
  rintro x H2 ⟨j, rfl, hj, he2⟩
  unfold zqc2_43 zqc2_40
  refine sel_dec (fun hlt => ?_) (fun hge => ?_)
  · have hlt : j < st.length := by omega
    obtain ⟨a, rfl, hrd⟩ := (hv.ext (he1.trans he2)) j (st.getD j default) (getD_some hlt)
    have hkx := hkind _ (List.mem_iff_getElem?.2 ⟨j, getD_some hlt⟩)
    have hrx := hr _ (List.mem_iff_getElem?.2 ⟨j, getD_some hlt⟩)
    generalize st.getD j default = X at hrd hkx hrx
    unfold zqc2_35
    refine ⟨⟨by omega, by omega⟩, ?_⟩
    simp only [ptr_some, Int.toNat_natCast]
    refine ⟨X.k, X.l, X.r, X.a, X.b, X.c, X.d, hrd, ?_⟩
    refine nw_ext fun q H3 hq he3 hc3 => ?_
    refine wr_new hc3 (by simp) rfl (c' := X.cells.toArray) rfl fun H4 hc4 hb4 => ?_
    have he4 : Ext H2 H4 := ext_but he3 hq hb4
    have hc4 : H4 q = some (.cells #[.int .i64 X.k, .int .i64 X.l, .int .i64 X.r, .int .u64 X.a, .int .u64 X.b, .int .u64 X.c, .int .u64 X.d] 91 (0, 0)) := hc4
    have he14 := he2.trans he4
    have hb14 := he14 _ _ hc1
    have next : zqc2_3 (fun x' H' => (∃ j : Nat, x' = (j : Nat) ∧ j ≤ st.length ∧ Ext H1 H') ∧ ((st.length : Int) - x').toNat < ((st.length : Int) - (j : Nat)).toNat) Q E (some ⟨i, 0, none⟩) (.func (.func 96) #[] #[(.pointer (some ⟨i, 0, none⟩))]) (some a) st.length c st.length j H4 := by
      unfold zqc2_3
      have hw : IntKind.wrap .i64 ((j : Int) + 1) = ((j + 1 : Nat) : Int) := by rw [IntWalk.i64_in _ (by omega)]; omega
      rw [hw]
      exact ⟨⟨j + 1, rfl, by omega, he14⟩, by omega⟩
    have out : zqc2_7 (fun x' H' => (∃ j : Nat, x' = (j : Nat) ∧ j ≤ st.length ∧ Ext H1 H') ∧ ((st.length : Int) - x').toNat < ((st.length : Int) - (j : Nat)).toNat) Q E (some ⟨i, 0, none⟩) (.func (.func 96) #[] #[(.pointer (some ⟨i, 0, none⟩))]) (some ⟨q, 0, none⟩) (some a) st.length c st.length j H4 := by
      unfold zqc2_7
      simp only [ptr_some, add_at, Nat.zero_add]
      refine ldI_at (n := X.l) hc4 rfl ?_
      exact nis_c hb14 hrx.1 hrx.2.1 ⟨_, rfl, sel_ff next⟩
    unfold zqc2_32
    simp only [ptr_some]
    refine ldI_at (n := X.k) hc4 rfl ?_
    unfold zqc2_19
    refine sel_beq (fun h2 => ?_) (fun h2 => ?_)
    · unfold zqc2_9
      simp only [ptr_some, add_at, Nat.zero_add]
      refine ldI_at (n := X.r) hc4 rfl ?_
      exact nis_c hb14 hrx.2.2.1 hrx.2.2.2 ⟨_, rfl, sel_ff out⟩
    have e13 : ∀ b : Bool, (b = false → X.k = 5) → zqc2_13 (fun x' H' => (∃ j : Nat, x' = (j : Nat) ∧ j ≤ st.length ∧ Ext H1 H') ∧ ((st.length : Int) - x').toNat < ((st.length : Int) - (j : Nat)).toNat) Q E (some ⟨i, 0, none⟩) (.func (.func 96) #[] #[(.pointer (some ⟨i, 0, none⟩))]) (some ⟨q, 0, none⟩) (some a) st.length c st.length j X.k b H4 := by
      intro b hb
      unfold zqc2_13
      refine sel_mk (fun _ => out) (fun h => ?_)
      unfold zqc2_11
      exact sel_beq (fun _ => next) (fun h5 => absurd (hb h) h5)
    unfold zqc2_15
    refine sel_beq (fun h1 => e13 _ fun h => ?_) (fun h1 => ?_)
    · simp [h1] at h
    refine sel_beq (fun h3 => e13 _ fun h => ?_) (fun h3 => e13 _ fun h => ?_)
    · simp [h3] at h
    · have : X.k ≠ 4 := by simpa using h
      omega
  · unfold zqc2_1
    simp only [ptr_some]
    refine ldSl_at (p := p) (l := st.length) (m := c) (he2 _ _ hc1) rfl ?_
    refine sel_dec (fun _ => ?_) (fun h => absurd (by omega) h)
    refine ldSl_at (p := p) (l := st.length) (m := c) (he2 _ _ hc1) rfl ?_
    rw [decide_eq_true (by omega)]
    exact hk H2 (he1.trans he2)
def runOf (st : List Nd) (bs : List UInt8) : Int := ((feed st false (bs.map UInt8.toNat) (startM st true)).matched st).found
theorem nrun_c {H : Heap} {p pt : OA} {c nt ct : Nat} {st : List Nd} {bs : List UInt8} {Q : QT} {E : ET} (hv : Vec H 7 p st.length c (flat st)) (hN : NV st) (hb : Byt H pt nt ct bs) (hn : nt ≤ 1048576)
    (hk : ∀ H', Ext H H' → Q (.int .i64 (runOf st bs)) H') : Does Pr 35 #[.slice p st.length c, .slice pt nt ct] H Q E := by
  refine zqa2_fn _ _ _ _ _ _ Q E H ?_
  unfold zqa2 zqa2_3
  refine nvalid_c (Vec.nds hv) hN fun H1 he1 => ⟨_, rfl, sel_ff ?_⟩
  obtain ⟨n1, n2, hr, _⟩ := hN
  unfold zqa2_1
  refine start_c (hv.ext he1) hr (by omega) (by omega) fun a H3 m3 => ⟨_, rfl, ?_⟩
  have hb2 := hb.ext he1
  refine feed_c m3 hr (by omega) (by omega) hb2.1 hb2.2.2 (by have := hb2.1; show 0 + bs.length ≤ _; omega) fun H4 m4 => ⟨_, rfl, ?_⟩
  refine found_c m4 hr (by omega) fun H5 m5 => ⟨_, rfl, ?_⟩
  exact hk H5 (he1.trans m5.1)
theorem runOf_build {l : List Nd} (bs : List UInt8) (hv : validOf l = true) : runOf (buildOf l) bs = firstOf l bs := (if_pos hv).symm
def pickOf (s : S4) (eol : Bool) : Int := if s.has 10 = true then 10 else if eol = true then -1 else match (List.range 256).find? s.has with
  | some b => (b : Nat)
  | none => -1
theorem phas_c {H : Heap} {s : S4} {i b : Nat} {Q : QT} {E : ET} (hc1 : H i = some (.cells s.cells 46 (0, 0))) (hb : b ≤ 255)
    (hk : Q (.bool (s.has b)) H) : Does Pr 97 #[.int .i64 (b : Nat), .pointer (some ⟨i, 0, none⟩)] H Q E := by
  refine zqi2_fn _ _ Q E H ?_
  unfold zqi2
  have hx : IntKind.wrap .i64 (Int.tdiv (b : Int) 64) = ((b / 64 : Nat) : Int) := by
    have : Int.tdiv (b : Int) 64 = ((b / 64 : Nat) : Int) := rfl
    rw [this, IntWalk.i64_in _ (by omega)]
  have hm : Int.tmod (b : Int) 64 = ((b % 64 : Nat) : Int) := rfl
  have h4 : b / 64 < 4 := by omega
  rw [hx, hm]
  simp only [ptr_some, add_at, Int.toNat_natCast, Nat.mul_one, Nat.zero_add]
  exact ⟨by decide, ⟨by omega, by omega⟩, ldI_at hc1 (S4.cells_get _ h4) ⟨by decide, by omega, hk⟩⟩
def scan (s : S4) (n : Nat) : Option Nat := (List.range' n (256 - n)).find? s.has
theorem scan_0 (s : S4) : (List.range 256).find? s.has = scan s 0 := by unfold scan; rw [List.range_eq_range']
theorem scan_succ (s : S4) {n : Nat} (h : n < 256) : scan s n = match s.has n with
  | true => some n
  | false => scan s (n + 1) := by
  have hr : List.range' n (256 - n) = n :: List.range' (n + 1) (256 - (n + 1)) := by
    rw [show 256 - n = (256 - (n + 1)) + 1 by omega, List.range'_succ]
  unfold scan
  rw [hr, List.find?_cons]
  cases s.has n <;> rfl
theorem scan_end (s : S4) {n : Nat} (h : ¬ n < 256) : scan s n = none := by
  unfold scan
  have hn256 : 256 - n = 0 := by omega
  rw [hn256, List.range'_zero, List.find?_nil]
attribute [local irreducible] scan
attribute [local irreducible] callV
set_option maxRecDepth 20000 in
theorem pick_c {H : Heap} {s : S4} {eol : Bool} {Q : QT} {E : ET} (hk : ∀ H', Ext H H' → Q (.int .i64 (pickOf s eol)) H') : Does Pr 67 #[.agg #[.int .u64 s.a, .int .u64 s.b, .int .u64 s.c, .int .u64 s.d], .bool eol] H Q E := by
  refine zqg2_fn _ _ _ _ _ Q E H ?_
  unfold zqg2
  refine nw_ext fun i H1 hi he1 hc1 => ?_
  have hc1 : H1 i = some (.cells s.cells 46 (0, 0)) := hc1
  unfold zqg2_24 zqg2_21 callV
  refine phas_c (s := s) (b := 10) hc1 (by omega) ⟨_, rfl, sel_mk (fun h => ?_) (fun h => ?_)⟩
  · have := hk H1 he1
    unfold pickOf at this; rw [if_pos h] at this; exact this
  unfold zqg2_17 zqg2_14
  have h0 := scan_0 s
  unfold pickOf at hk
  rw [if_neg (by rw [h]; simp)] at hk
  generalize (List.range 256).find? s.has = F at hk h0
  refine ⟨fun x H' => ∃ n : Nat, x = (n : Nat) ∧ n ≤ 256 ∧ H' = H1 ∧ F = scan s n, fun x _ => (256 - x).toNat, ⟨0, rfl, Nat.zero_le _, rfl, h0⟩, ?_⟩
  intro x H2 hI
  obtain ⟨n, e1, hI⟩ := hI
  obtain ⟨hn, hI⟩ := hI
  obtain ⟨e2, hno⟩ := hI
  subst e1
  subst e2
  unfold zqg2_10
  refine sel_dec (fun hlt => ?_) (fun hge => ?_)
  · unfold zqg2_8
    refine sel_not (fun he => ?_) (fun he => ?_)
    · unfold zqg2_5 callV
      rw [scan_succ s (by omega)] at hno
      refine phas_c (s := s) hc1 (by omega) ⟨_, rfl, sel_mk (fun h2 => ?_) (fun h2 => ?_)⟩
      · rw [h2] at hno
        have := hk H2 he1
        rw [if_neg (by rw [he]; simp), hno] at this
        exact this
      · rw [h2] at hno
        unfold zqg2_3
        have hw : IntKind.wrap .i64 ((n : Int) + 1) = ((n + 1 : Nat) : Int) := by rw [IntWalk.i64_in _ (by omega)]; omega
        rw [hw]
        exact ⟨⟨n + 1, rfl, by omega, rfl, hno⟩, by dsimp only; omega⟩
    · unfold zqg2_1
      have := hk H2 he1
      rw [if_pos he] at this
      exact this
  · unfold zqg2_8
    refine sel_ff ?_
    unfold zqg2_1
    rw [scan_end s (by omega)] at hno
    have := hk H2 he1
    rw [hno] at this
    cases eol <;> exact this
end Go.Proofs.Ytaffcoiomggpfaa

/- Patterns, ranges, appended bytes. -/
namespace Go.Proofs.Ytaffcoiomggpfaa
open Go.V
attribute [local irreducible] app
set_option linter.constructorNameAsVariable false
set_option linter.unusedVariables false

theorem drawOf_bounds {xs : List Int} {k n : Nat} (hn : 0 < n) (hn2 : n ≤ 1048576) : 0 ≤ drawOf xs k n ∧ drawOf xs k n < n := by
  unfold drawOf
  split
  · exact modOf_bounds hn hn2
  · omega
theorem Range_c' {H0 H : Heap} {d k lo hi : Nat} {xs : List Int} {Q : QT} {E : ET} (h : Deck H0 H d xs k) (hlo : lo ≤ hi) (hhi : hi ≤ 65536)
    (hk : ∀ H', Deck H0 H' d xs (min (k + 1) xs.length) → (∀ i, i ≠ d → H' i = H i) → Q (.int .i64 (lo + drawOf xs k ((hi - lo + 1 : Nat) : Int))) H') : Does Pr 48 #[.pointer (some ⟨d, 0, none⟩), .int .i64 (lo : Nat), .int .i64 (hi : Nat)] H Q E := by
  refine zqw1_fn _ _ _ Q E H ?_
  unfold zqw1
  have hw : IntKind.wrap .i64 (IntKind.wrap .i64 (((hi : Nat) : Int) - (lo : Nat)) + 1) = ((hi - lo + 1 : Nat) : Int) := by
    rw [IntWalk.i64_in (_ - _) (by omega), IntWalk.i64_in _ (by omega)]; omega
  rw [hw]
  refine Next_c h (by omega) fun H1 h1 hf => ⟨_, rfl, ?_⟩
  have hb := drawOf_bounds (xs := xs) (k := k) (n := hi - lo + 1) (by omega) (by omega)
  rw [IntWalk.i64_in _ (by omega)]
  exact hk H1 h1 hf
theorem Patterns_c {H : Heap} {Q : QT} {E : ET} (hk : ∀ H' i, Ext H H' → H i = none → H' i = some (.cells #[(.string ⟨[111, 107].toArray⟩), (.string ⟨#[]⟩), (.string ⟨[114, 46, 42, 121, 36].toArray⟩), (.string ⟨[94, 117, 112, 124, 103, 111, 43].toArray⟩), (.string ⟨[91, 48, 45, 57, 93, 43, 120, 63].toArray⟩), (.string ⟨[40, 97, 98, 41, 42, 99].toArray⟩), (.string ⟨[94, 36].toArray⟩)] 9 (0, 0)) → Q (.slice (some ⟨i, 0, none⟩) 7 7) H') :
    Does Pr 21 #[] H Q E := by
  refine zqt1_fn Q E H ?_
  unfold zqt1
  exact nw_ext fun i H1 hi he1 hc1 => hk H1 i he1 hi hc1
def pats : List ByteArray := [⟨[111, 107].toArray⟩, ⟨#[]⟩, ⟨[114, 46, 42, 121, 36].toArray⟩, ⟨[94, 117, 112, 124, 103, 111, 43].toArray⟩, ⟨[91, 48, 45, 57, 93, 43, 120, 63].toArray⟩, ⟨[40, 97, 98, 41, 42, 99].toArray⟩, ⟨[94, 36].toArray⟩]
theorem pats_get {n : Nat} (h : n < 7) : (#[(.string ⟨[111, 107].toArray⟩), (.string ⟨#[]⟩), (.string ⟨[114, 46, 42, 121, 36].toArray⟩), (.string ⟨[94, 117, 112, 124, 103, 111, 43].toArray⟩), (.string ⟨[91, 48, 45, 57, 93, 43, 120, 63].toArray⟩), (.string ⟨[40, 97, 98, 41, 42, 99].toArray⟩), (.string ⟨[94, 36].toArray⟩)] : Array Value)[n]? = some (.string (pats.getD n default)) := by
  match n, h with
  | 0, _ => rfl
  | 1, _ => rfl
  | 2, _ => rfl
  | 3, _ => rfl
  | 4, _ => rfl
  | 5, _ => rfl
  | 6, _ => rfl
theorem bytes_one (l : List UInt8) : (l.map byteV).all oneC = true := by
  induction l with
  | nil => rfl
  | cons x l ih => simp only [List.map_cons, List.all_cons, Bool.and_eq_true]; exact ⟨rfl, ih⟩
theorem app_byt {H : Heap} {p q : OA} {l c n c2 : Nat} {bs ws : List UInt8} {K : OA → Nat → Nat → Heap → Prop} (hv : Vec H 1 p l c (bs.map byteV)) (hw : Byt H q n c2 ws) (hcap : l + n ≤ 1048576)
    (hk : ∀ p' c' H', Vec H' 1 p' (l + n) c' ((bs ++ ws).map byteV) → (∀ j, ¬ blk p j → H j ≠ none → H' j = H j) → (∀ j, blk p' j → blk p j ∨ H j = none) → K p' (l + n) c' H') : app Pr 24 p l c (.slice q n c2) H K :=
  app_vec (sz := 1) (n := n) (ws := ws.map byteV) sl24 hv (fun K hK => ⟨ws.map byteV, by rw [List.length_map, hw.1]; omega, hw.2.2, hK⟩) (by rw [List.length_map, hw.1]; omega) (bytes_one ws) hcap (by omega)
    fun p' c' H' h1 h2 h3 => hk p' c' H' (by rw [List.map_append]; exact h1) h2 h3
theorem ext_app {H0 H H' : Heap} {p : OA} (he : Ext H0 H) (hf : ∀ j, blk p j → H0 j = none) (hs : ∀ j, ¬ blk p j → H j ≠ none → H' j = H j) : Ext H0 H' := fun j o hj => by
  have h1 := he j o hj
  rw [hs j (fun hb => by rw [hf j hb] at hj; cases hj) (by rw [h1]; simp)]; exact h1
theorem fresh_app {H0 H : Heap} {p p' : OA} (he : Ext H0 H) (hf : ∀ j, blk p j → H0 j = none) (hb : ∀ j, blk p' j → blk p j ∨ H j = none) : ∀ j, blk p' j → H0 j = none := fun j hj => by
  rcases hb j hj with h | h
  · exact hf j h
  · exact he.free h
theorem vec_byt {H : Heap} {p : OA} {l c : Nat} {bs : List UInt8} (h : Vec H 1 p l c (bs.map byteV)) : Byt H p l c bs :=
  ⟨by have := h.1; simpa using this, h.2.1, h.rdS⟩
theorem fresh_blk {H : Heap} {i : Nat} (h : H i = none) : ∀ j, blk (some ⟨i, 0, none⟩) j → H j = none := fun j hj => by obtain ⟨a, ha, rfl⟩ := hj; cases ha; exact h
theorem Byt.take {H : Heap} {p : OA} {n c : Nat} {bs : List UInt8} (h : Byt H p n c bs) (k : Nat) (hk : k ≤ n) :
    Byt H (if c = 0 then p else Option.map (fun a => Addr.add a (0 * 1)) p) (k - 0) (c - 0) (bs.take k) := by
  obtain ⟨h1, h2, h3⟩ := h
  have hp : (if c = 0 then p else Option.map (fun a => Addr.add a (0 * 1)) p) = p := by
    split
    · rfl
    · cases p with
      | none => rfl
      | some a => simp [Addr.add]
  rw [hp]
  refine ⟨by rw [List.length_take]; omega, by omega, ?_⟩
  have tk : ∀ (k : Nat) (a : Addr) (vs : List Value) (i : Nat), H.rd a i vs → H.rd a i (vs.take k) := fun k a => by
    induction k with
    | zero => intro vs i _; simp; trivial
    | succ k ih =>
      intro vs i h
      cases vs with
      | nil => trivial
      | cons v vs => exact ⟨h.1, ih vs (i + 1) h.2⟩
  cases p with
  | none =>
    have : bs.map byteV = [] := h3
    simp at this; subst this; simp; rfl
  | some a =>
    rw [List.map_take]
    exact tk k a _ 0 h3
end Go.Proofs.Ytaffcoiomggpfaa

/- Contracts of package nfa (2): a search's reach and text. -/
namespace Go.Proofs.Ytaffcoiomggpfaa
open Go.V
attribute [local irreducible] app
set_option linter.constructorNameAsVariable false
set_option linter.unusedVariables false

structure Tl where
  s : Nat
  bol : Bool
  eol : Bool
  fr : Int
  b : Int
  deriving DecidableEq, Inhabited
def Tl.cells (t : Tl) : List Value := [.int .i64 (t.s : Nat), .bool t.bol, .bool t.eol, .int .i64 t.fr, .int .i64 t.b]
def spotV (s : Nat) (bol eol : Bool) : Value := .agg #[.int .i64 (s : Nat), .bool bol, .bool eol]
def Tl.spot (t : Tl) : Value := spotV t.s t.bol t.eol
def flatT (T : List Tl) : List Value := T.flatMap Tl.cells
theorem flatT_length (T : List Tl) : (flatT T).length = T.length * 5 := by
  induction T with
  | nil => rfl
  | cons x l ih => simp [flatT, Tl.cells] at ih ⊢; omega
theorem flatT_get : ∀ {T : List Tl} {n j : Nat} {t : Tl}, T[n]? = some t → j < 5 → (flatT T)[n * 5 + j]? = t.cells[j]?
  | [], n, j, t, h, hj => by simp at h
  | x :: T, 0, j, t, h, hj => by
    simp at h; subst h
    show (x.cells ++ flatT T)[0 * 5 + j]? = _
    rw [List.getElem?_append_left (by simp [Tl.cells]; omega)]
    congr 1; omega
  | x :: T, n + 1, j, t, h, hj => by
    have h : T[n]? = some t := by simpa using h
    show (x.cells ++ flatT T)[(n + 1) * 5 + j]? = _
    have hl : x.cells.length = 5 := rfl
    rw [List.getElem?_append_right (by omega), hl, show (n + 1) * 5 + j - 5 = n * 5 + j by omega]
    exact flatT_get h hj
theorem vec_at5 {H : Heap} {p : OA} {l c : Nat} {T : List Tl} (h : Vec H 5 p l c (flatT T)) {n : Nat} {t : Tl} (hx : T[n]? = some t) :
    ∃ b ty cs, p = some ⟨b, 0, none⟩ ∧ H b = some (.cells cs ty (0, 0)) ∧ ∀ j, j < 5 → cs[n * 5 + j]? = t.cells[j]? := by
  obtain ⟨v1, v2, v3⟩ := h
  have hn : n < T.length := (List.getElem?_eq_some_iff.1 hx).1
  rw [flatT_length] at v1
  cases p with
  | none => simp only [] at v3; omega
  | some a =>
    obtain ⟨b, cs, t', rfl, hb, hcs, hget⟩ := v3
    refine ⟨b, t', cs, rfl, hb, fun j hj => ?_⟩
    rw [hget _ (by omega), flatT_get hx hj]
def inT (T : List Tl) (s : Nat) (bol eol : Bool) : Bool := T.any fun t => decide (t.s = s) && decide (t.bol = bol) && decide (t.eol = eol)
def SeenAt (H : Heap) (mp : Nat) (T : List Tl) : Prop := ∃ (es : Array MapEntry) (clk : Nat), H mp = some (.map es clk) ∧ es.toList.map (·.key) = T.map Tl.spot ∧ ∀ e ∈ es.toList, e.val = .bool true
theorem spot_ok (s : Nat) (bol eol : Bool) : keyOkB Pr 100 (spotV s bol eol) = true := by kernel_rfl
theorem spot_eq {s s' : Nat} {b b' e e' : Bool} : eqVs (spotV s b e).cells.toList (spotV s' b' e').cells.toList = true ↔ s' = s ∧ b' = b ∧ e' = e := by
  simp [spotV, Value.cells, eqVs, eqV]
  constructor
  · rintro ⟨h1, h2, h3⟩; exact ⟨by omega, h2.symm, h3.symm⟩
  · rintro ⟨rfl, rfl, rfl⟩; exact ⟨rfl, rfl, rfl⟩
theorem seen_keys {es : Array MapEntry} {T : List Tl} (h : es.toList.map (·.key) = T.map Tl.spot) : ∀ e ∈ es.toList, keyOkB Pr 100 e.key = true := fun e he => by
  have : e.key ∈ T.map Tl.spot := by rw [← h]; exact List.mem_map_of_mem he
  obtain ⟨t, _, ht⟩ := List.mem_map.1 this
  rw [← ht]; exact spot_ok _ _ _
theorem find_seen {s : Nat} {bol eol : Bool} : ∀ (es : List MapEntry) (T : List Tl) (i : Nat), es.map (·.key) = T.map Tl.spot → (∀ e ∈ es, e.val = .bool true) →
    (inT T s bol eol = true ∧ ∃ j, findC (spotV s bol eol).cells.toList es i = some (j, .bool true)) ∨ (inT T s bol eol = false ∧ findC (spotV s bol eol).cells.toList es i = none)
  | [], [], i, _, _ => .inr ⟨rfl, rfl⟩
  | [], _ :: _, i, h, _ => by simp at h
  | _ :: _, [], i, h, _ => by simp at h
  | e :: es, t :: T, i, h, hv => by
    rw [List.map_cons, List.map_cons] at h
    obtain ⟨h1, h2⟩ := List.cons.inj h
    unfold findC inT
    rw [List.any_cons]
    have ih := find_seen (s := s) (bol := bol) (eol := eol) es T (i + 1) h2 fun e he => hv e (by simp [he])
    unfold inT at ih
    have hk : e.key = spotV t.s t.bol t.eol := h1
    by_cases hq : eqVs (spotV s bol eol).cells.toList e.key.cells.toList = true
    · rw [if_pos hq, hv e (by simp)]
      rw [hk] at hq
      obtain ⟨a, b, c⟩ := spot_eq.1 hq
      exact .inl ⟨by rw [decide_eq_true a, decide_eq_true b, decide_eq_true c]; rfl, i, rfl⟩
    · rw [if_neg hq]
      have hno : (decide (t.s = s) && decide (t.bol = bol) && decide (t.eol = eol)) = false := by
        rw [Bool.eq_false_iff]
        intro hh
        simp only [Bool.and_eq_true, decide_eq_true_eq] at hh
        exact hq (by rw [hk]; exact spot_eq.2 ⟨hh.1.1, hh.1.2, hh.2⟩)
      rw [hno, Bool.false_or]
      exact ih
def RS (H0 H : Heap) (a mp : Nat) (ps : OA) (n cs : Nat) (T : List Tl) (pl : OA) (cl : Nat) (L : List Nat) : Prop :=
  Ext H0 H ∧ H0 a = none ∧ H0 mp = none ∧ a ≠ mp ∧ (∃ (pt : OA) (ct : Nat), H a = some (.cells #[.slice ps n cs, .map (some mp), .slice pt T.length ct] 97 (0, 0)) ∧ Vec H 5 pt T.length ct (flatT T) ∧
    ∀ j, blk pt j → H0 j = none ∧ j ≠ a ∧ j ≠ mp ∧ ¬ blk pl j) ∧ SeenAt H mp T ∧ Vec H 1 pl L.length cl (L.map natV) ∧ ∀ j, blk pl j → H0 j = none ∧ j ≠ a ∧ j ≠ mp
theorem RS.ext {H0 H H' : Heap} {a mp n cs cl : Nat} {ps pl : OA} {T : List Tl} {L : List Nat} (h : RS H0 H a mp ps n cs T pl cl L) (he : Ext H H') : RS H0 H' a mp ps n cs T pl cl L := by
  obtain ⟨h1, h2, h3, h4, ⟨pt, ct, h5, h6, h7⟩, ⟨es, clk, s1, s2, s3⟩, h9, h10⟩ := h
  exact ⟨h1.trans he, h2, h3, h4, ⟨pt, ct, he _ _ h5, h6.ext he, h7⟩, ⟨es, clk, he _ _ s1, s2, s3⟩, h9.ext he, h10⟩
def reachP (T : List Tl) (L : List Nat) (t : Tl) : List Tl × List Nat := if inT T t.s t.bol t.eol = true then (T, L) else (T ++ [t], L ++ [T.length])
theorem sl95 : SlT Pr 95 5 := .of (by kernel_rfl)
set_option maxHeartbeats 1000000 in
theorem reach_c {H0 H : Heap} {a mp n cs cl : Nat} {ps pl : OA} {T : List Tl} {L : List Nat} {t : Tl} {Q : QT} {E : ET} (h : RS H0 H a mp ps n cs T pl cl L) (hT : T.length < 65536) (hL : L.length < 65536)
    (hk : ∀ H' p' c', RS H0 H' a mp ps n cs (reachP T L t).1 p' c' (reachP T L t).2 → Q (.slice p' (reachP T L t).2.length c') H') :
    Does Pr 64 #[.pointer (some ⟨a, 0, none⟩), .slice pl L.length cl, .agg #[.int .i64 (t.s : Nat), .bool t.bol, .bool t.eol], .int .i64 t.fr, .int .i64 t.b] H Q E := by
  refine zqd2_fn _ _ _ _ _ _ _ _ _ Q E H ?_
  unfold zqd2
  refine nw_ext fun i H1 hi he1 hc1 => ?_
  replace h := h.ext he1
  obtain ⟨h1, h2, h3, h4, ⟨pt, ct, h5, h6, h7⟩, ⟨es, clk, s1, s2, s3⟩, h9, h10⟩ := id h
  unfold zqd2_3
  simp only [ptr_some, add_at, Nat.zero_add]
  refine ⟨some mp, cell_at h5 rfl, ?_⟩
  refine ⟨(t.s : Nat), t.bol, t.eol, rd_at hc1 _ 0 0 fun j hj => by simp, ?_⟩
  have hf := find_seen (s := t.s) (bol := t.bol) (eol := t.eol) es.toList T 0 s2 s3
  rcases hf with ⟨hin, j, hj⟩ | ⟨hin, hj⟩
  · refine ⟨true, true, ⟨es, clk, s1, seen_keys s2, ?_⟩, sel_tt ?_⟩
    · have hj' : findC (Value.agg #[.int .i64 (t.s : Nat), .bool t.bol, .bool t.eol]).cells.toList es.toList 0 = some (j, .bool true) := hj
      rw [hj']
    · have : reachP T L t = (T, L) := if_pos hin
      rw [this] at hk
      exact hk H1 pl cl h
  refine ⟨false, false, ⟨es, clk, s1, seen_keys s2, ?_⟩, sel_ff ?_⟩
  · have hj' : findC (Value.agg #[.int .i64 (t.s : Nat), .bool t.bol, .bool t.eol]).cells.toList es.toList 0 = none := hj
    rw [hj']
  have hr : reachP T L t = (T ++ [t], L ++ [T.length]) := if_neg (by rw [hin]; simp)
  rw [hr] at hk
  dsimp only at hk
  unfold zqd2_1
  simp only [ptr_some, add_at, Nat.zero_add]
  refine ⟨some mp, cell_at h5 rfl, ?_⟩
  refine ⟨(t.s : Nat), t.bol, t.eol, rd_at hc1 _ 0 0 fun j hj => by simp, ?_⟩
  refine ⟨mp, es, clk, rfl, s1, seen_keys s2, ?_⟩
  have hput : mput es clk (.agg #[.int .i64 (t.s : Nat), .bool t.bol, .bool t.eol]) (.bool true) = .map (es.push { key := t.spot, val := .bool true, born := clk }) (clk + 1) := by
    unfold mput
    have hj' : findC (Value.agg #[.int .i64 (t.s : Nat), .bool t.bol, .bool t.eol]).cells.toList es.toList 0 = none := hj
    rw [hj']; rfl
  rw [hput]
  have him : i ≠ mp := fun e => by rw [e, s1] at hc1; cases hc1
  have hia : i ≠ a := fun e => by rw [e, h5] at hc1; cases hc1
  have hset : ∀ j, j ≠ mp → (H1.set mp (.map (es.push { key := t.spot, val := .bool true, born := clk }) (clk + 1))) j = H1 j := fun j hj => Heap.set_ne _ _ hj
  have hself : (H1.set mp (.map (es.push { key := t.spot, val := .bool true, born := clk }) (clk + 1))) mp = some (.map (es.push { key := t.spot, val := .bool true, born := clk }) (clk + 1)) := Heap.set_self _ _ _
  generalize H1.set mp (.map (es.push { key := t.spot, val := .bool true, born := clk }) (clk + 1)) = H2 at hset hself
  have a2 : H2 a = some (.cells #[.slice ps n cs, .map (some mp), .slice pt T.length ct] 97 (0, 0)) := by rw [hset a h4]; exact h5
  have i2 : H2 i = some (.cells #[.int .i64 (t.s : Nat), .bool t.bol, .bool t.eol] 100 (0, 0)) := by rw [hset i him]; exact hc1
  have pt2 : Vec H2 5 pt T.length ct (flatT T) := h6.keep fun j hj _ => hset j (h7 j hj).2.2.1
  have pl2 : Vec H2 1 pl L.length cl (L.map natV) := h9.keep fun j hj _ => hset j (h10 j hj).2.2
  have e02 : Ext H0 H2 := fun j o hj => by rw [hset j (fun e => by rw [e, h3] at hj; cases hj)]; exact h1 j o hj
  refine ldSl_at (p := pt) (l := T.length) (m := ct) a2 rfl ?_
  refine ⟨(t.s : Nat), t.bol, t.eol, rd_at i2 _ 0 0 fun j hj => by simp, ?_⟩
  refine nw_ext fun q H3 hq he3 hc3 => ?_
  refine app_one (sz := 5) (ws := t.cells) sl95 (pt2.ext he3) hc3 rfl rfl (by omega) (by omega) fun p4 c4 H4 hv4 hs4 hb4 => ?_
  have ha4 : ¬ blk pt a := fun hb => (h7 a hb).2.1 rfl
  have hm4 : ¬ blk pt mp := fun hb => (h7 mp hb).2.2.1 rfl
  have a4 : H4 a = some (.cells #[.slice ps n cs, .map (some mp), .slice pt T.length ct] 97 (0, 0)) := by rw [hs4 a ha4 (by rw [he3 _ _ a2]; simp)]; exact he3 _ _ a2
  have m4 : H4 mp = some (.map (es.push { key := t.spot, val := .bool true, born := clk }) (clk + 1)) := by rw [hs4 mp hm4 (by rw [he3 _ _ hself]; simp)]; exact he3 _ _ hself
  have pl4 : Vec H4 1 pl L.length cl (L.map natV) := (pl2.ext he3).keep fun j hj hn => hs4 j (fun hb => (h7 j hb).2.2.2 hj) hn
  have e04 : Ext H0 H4 := ext_app (e02.trans he3) (fun j hj => (h7 j hj).1) hs4
  have f4 : ∀ j, blk p4 j → H0 j = none ∧ j ≠ a ∧ j ≠ mp ∧ ¬ blk pl j := fun j hj => by
    rcases hb4 j hj with hh | hh
    · exact h7 j hh
    · refine ⟨(e02.trans he3).free hh, fun e => ?_, fun e => ?_, fun hb => (pl2.ext he3).known hb hh⟩
      · rw [e, he3 _ _ a2] at hh; cases hh
      · rw [e, he3 _ _ hself] at hh; cases hh
  refine wr_new a4 (by simp) rfl (c' := #[.slice ps n cs, .map (some mp), .slice p4 (T.length + 1) c4]) rfl fun H5 hc5 hb5 => ?_
  have m5 : H5 mp = some (.map (es.push { key := t.spot, val := .bool true, born := clk }) (clk + 1)) := by rw [hb5 mp (Ne.symm h4)]; exact m4
  have pt5 : Vec H5 5 p4 (T.length + 1) c4 (flatT T ++ t.cells) := hv4.keep fun j hj _ => hb5 j (f4 j hj).2.1
  have pl5 : Vec H5 1 pl L.length cl (L.map natV) := pl4.keep fun j hj _ => hb5 j (h10 j hj).2.1
  have e05 : Ext H0 H5 := ext_but e04 h2 hb5
  refine ldSl_at (p := p4) (l := T.length + 1) (m := c4) hc5 rfl ?_
  have hw : IntKind.wrap .i64 (((T.length + 1 : Nat) : Int) - 1) = ((T.length : Nat) : Int) := by rw [IntWalk.i64_in _ (by omega)]; omega
  rw [hw]
  refine nw_ext fun z H6 hz he6 hc6 => ?_
  refine app_one (sz := 1) (ws := [natV T.length]) sl22 (pl5.ext he6) hc6 rfl rfl (by omega) (by omega) fun p7 c7 H7 hv7 hs7 hb7 => ?_
  have ha7 : ¬ blk pl a := fun hb => (h10 a hb).2.1 rfl
  have hm7 : ¬ blk pl mp := fun hb => (h10 mp hb).2.2 rfl
  have hlen : (L ++ [T.length]).length = L.length + 1 := by simp
  have hlenT : (T ++ [t]).length = T.length + 1 := by simp
  have := hk H7 p7 c7
  rw [hlen] at this
  refine this ⟨ext_app (e05.trans he6) (fun j hj => (h10 j hj).1) hs7, h2, h3, h4, ⟨p4, c4, ?_, ?_, fun j hj => ⟨(f4 j hj).1, (f4 j hj).2.1, (f4 j hj).2.2.1, fun hb => ?_⟩⟩, ⟨es.push { key := t.spot, val := .bool true, born := clk }, clk + 1, ?_, ?_, ?_⟩, ?_, fun j hj => ?_⟩
  · rw [hs7 a ha7 (by rw [he6 _ _ hc5]; simp), hlenT]; exact he6 _ _ hc5
  · rw [hlenT]
    have e : flatT T ++ t.cells = flatT (T ++ [t]) := by simp [flatT]
    rw [← e]
    exact (pt5.ext he6).keep fun j hj hn => hs7 j (f4 j hj).2.2.2 hn
  · rcases hb7 j hb with hh | hh
    · exact (f4 j hj).2.2.2 hh
    · exact (pt5.ext he6).known hj hh
  · rw [hs7 mp hm7 (by rw [he6 _ _ m5]; simp)]; exact he6 _ _ m5
  · rw [Array.toList_push, List.map_append, List.map_append, s2]; rfl
  · intro e he
    rw [Array.toList_push] at he
    rcases List.mem_append.1 he with he | he
    · exact s3 e he
    · obtain rfl := List.mem_singleton.1 he; rfl
  · rw [hlen, List.map_append]; exact hv7
  · rcases hb7 j hj with hh | hh
    · exact h10 j hh
    · refine ⟨(e05.trans he6).free hh, fun e => ?_, fun e => ?_⟩
      · rw [e, he6 _ _ hc5] at hh; cases hh
      · rw [e, he6 _ _ m5] at hh; cases hh
def textF (T : List Tl) : Nat → Int → List UInt8 → List UInt8
  | 0, _, acc => acc
  | f + 1, i, acc => if 0 ≤ i then textF T f (T.getD i.toNat default).fr (if 0 ≤ (T.getD i.toNat default).b then UInt8.ofNat (T.getD i.toNat default).b.toNat :: acc else acc) else acc
def textP (T : List Tl) (i : Nat) : List UInt8 := textF T (T.length + 1) i []
def TW (T : List Tl) : Prop := ∀ i, i < T.length → (T.getD i default).fr < i ∧ -1 ≤ (T.getD i default).fr ∧ (T.getD i default).b ≤ 255
set_option maxHeartbeats 1000000 in
theorem ntext_c {H0 H : Heap} {a mp n cs cl i : Nat} {ps pl : OA} {T : List Tl} {L : List Nat} {Q : QT} {E : ET} (h : RS H0 H a mp ps n cs T pl cl L) (hT : T.length < 65536) (hw : TW T) (hi : i < T.length)
    (hk : ∀ H' p' c', Ext H H' → (∀ j, blk p' j → H j = none) → Vec H' 1 p' (textP T i).length c' ((textP T i).map byteV) → (textP T i).length ≤ T.length → Q (.slice p' (textP T i).length c') H') :
    Does Pr 66 #[.pointer (some ⟨a, 0, none⟩), .int .i64 (i : Nat)] H Q E := by
  refine zqf2_fn _ _ Q E H ?_
  unfold zqf2 zqf2_15 zqf2_11
  refine ⟨fun x p l c H' => ∃ (f : Nat) (acc : List UInt8), l = acc.length ∧ textF T f x acc = textP T i ∧ x < f ∧ (x < T.length ∧ -1 ≤ x) ∧ (acc.length : Int) + x < T.length ∧ Ext H H' ∧ Vec H' 1 p acc.length c (acc.map byteV) ∧ ∀ j, blk p j → H j = none, fun x _ _ _ _ => (x + 1).toNat,
    ⟨T.length + 1, [], rfl, rfl, by omega, ⟨by omega, by omega⟩, by simp; omega, Ext.refl _, Vec.nil _ 1, fun j hj => (by obtain ⟨a, ha, _⟩ := hj; cases ha)⟩, ?_⟩
  rintro x p l c H1 ⟨f, acc, rfl, hF, hxf, ⟨hx1, hx2⟩, hal, he1, hv, hfr⟩
  unfold zqf2_8
  refine sel_dec (fun hpos => ?_) (fun hneg => ?_)
  · obtain ⟨k, rfl⟩ : ∃ k : Nat, x = (k : Nat) := ⟨x.toNat, by omega⟩
    have hkl : k < T.length := by omega
    obtain ⟨w1, w2, w3⟩ := hw k hkl
    obtain ⟨_, _, _, _, ⟨pt, ct, h5, h6, h7⟩, _⟩ := h
    have hxt : T[k]? = some (T.getD k default) := by rw [List.getD_eq_getElem?_getD, List.getElem?_eq_getElem hkl]; rfl
    cases f with
    | zero => omega
    | succ f =>
      unfold textF at hF
      rw [if_pos (by omega), Int.toNat_natCast] at hF
      generalize T.getD k default = t at w1 w2 w3 hF hxt
      have next : ∀ (acc' : List UInt8) (p' : OA) (c' : Nat) (H' : Heap), textF T f t.fr acc' = textP T i → acc'.length ≤ acc.length + 1 → Ext H1 H' → Vec H' 1 p' acc'.length c' (acc'.map byteV) → (∀ j, blk p' j → H j = none) →
          zqf2_3 (fun x' p' l' c' H' => (∃ (f : Nat) (acc : List UInt8), l' = acc.length ∧ textF T f x' acc = textP T i ∧ x' < f ∧ (x' < T.length ∧ -1 ≤ x') ∧ (acc.length : Int) + x' < T.length ∧ Ext H H' ∧ Vec H' 1 p' acc.length c' (acc.map byteV) ∧ ∀ j, blk p' j → H j = none) ∧ (x' + 1).toNat < ((k : Int) + 1).toNat)
            Q E (some ⟨a, 0, none⟩) k p' acc'.length c' H' := by
        intro acc' p' c' H' g1 g2 g3 g4 g5
        unfold zqf2_3
        simp only [ptr_some, add_at, Nat.zero_add]
        refine ldSl_at (p := pt) (l := T.length) (m := ct) (g3 _ _ (he1 _ _ h5)) rfl ⟨⟨by omega, by omega⟩, ?_⟩
        obtain ⟨bb, ty, cc, rfl, hbb, hcc⟩ := vec_at5 ((h6.ext he1).ext g3) hxt
        simp only [ptr_some, add_at, Int.toNat_natCast, Nat.zero_add]
        refine ldI_at (n := t.fr) hbb (by rw [hcc 3 (by omega)]; rfl) ?_
        exact ⟨⟨f, acc', rfl, g1, by omega, ⟨by omega, w2⟩, by omega, he1.trans g3, g4, g5⟩, by omega⟩
      unfold zqf2_5
      simp only [ptr_some, add_at, Nat.zero_add]
      refine ldSl_at (p := pt) (l := T.length) (m := ct) (he1 _ _ h5) rfl ⟨⟨by omega, by omega⟩, ?_⟩
      obtain ⟨bb, ty, cc, rfl, hbb, hcc⟩ := vec_at5 (h6.ext he1) hxt
      simp only [ptr_some, add_at, Int.toNat_natCast, Nat.zero_add]
      refine ldI_at (n := t.b) hbb (by rw [hcc 4 (by omega)]; rfl) ?_
      refine sel_dec (fun hb => ?_) (fun hb => ?_)
      · rw [if_pos (by omega)] at hF
        obtain ⟨w, hw'⟩ : ∃ w : Nat, t.b = (w : Nat) := ⟨t.b.toNat, by omega⟩
        rw [hw'] at hF w3
        rw [Int.toNat_natCast] at hF
        rw [hw', u8_nat w (by omega)]
        have hbv : (Value.int .u8 (w : Nat)) = byteV (UInt8.ofNat w) := by
          unfold byteV
          have : (UInt8.ofNat w).toNat = w := by rw [UInt8.toNat_ofNat']; omega
          rw [this]
        refine nw_ext fun q H2 hq he2 hc2 => ?_
        rw [hbv] at hc2
        have v2 : Vec H2 1 (some ⟨q, 0, none⟩) 1 1 ([UInt8.ofNat w].map byteV) := ⟨rfl, Nat.le_refl _, q, _, 5, rfl, hc2, rfl, fun j hj => by simp⟩
        refine app_byt v2 (vec_byt (hv.ext he2)) (by omega) fun p3 c3 H3 hv3 hs3 hb3 => ?_
        have e13 : Ext H1 H3 := ext_app he2 (fresh_blk hq) hs3
        have f13 := fresh_app he2 (fresh_blk hq) hb3
        have hl : 1 + acc.length = (UInt8.ofNat w :: acc).length := by simp; omega
        rw [hl] at hv3 ⊢
        exact next (UInt8.ofNat w :: acc) p3 c3 H3 hF (by simp) e13 hv3 (fun j hj => he1.free (f13 j hj))
      · rw [if_neg (by omega)] at hF
        exact next acc p c H1 hF (by omega) (Ext.refl _) hv hfr
  · have hx : textF T f x acc = acc := by
      cases f with
      | zero => rfl
      | succ f => unfold textF; rw [if_neg (by omega)]
    rw [hx] at hF
    unfold zqf2_1
    rw [← hF] at hk
    exact hk H1 p c he1 hfr hv (by omega)
end Go.Proofs.Ytaffcoiomggpfaa

/- Contracts of package nfa (3): the state of Sample; what it computes. -/
namespace Go.Proofs.Ytaffcoiomggpfaa
open Go.V
attribute [local irreducible] app
set_option linter.constructorNameAsVariable false
set_option linter.unusedVariables false

structure In where
  T : List Tl
  L : List Nat
  N : List Nat
  pe : Int
def stepI (st : List Nd) (S : In) (i : Nat) : Sum (List UInt8) In :=
  let k := S.L.getD i 0
  let t := S.T.getD k default
  let x := st.getD t.s default
  if x.k = 5 then (if t.eol = false then .inl (textP S.T k) else .inr { S with pe := if S.pe < k then k else S.pe })
  else if x.k = 2 then
    let q := reachP S.T S.L ⟨x.l.toNat, t.bol, t.eol, k, -1⟩
    let q' := reachP q.1 q.2 ⟨x.r.toNat, t.bol, t.eol, k, -1⟩
    .inr { S with T := q'.1, L := q'.2 }
  else if x.k = 3 then (if t.bol = true then
    let q := reachP S.T S.L ⟨x.l.toNat, t.bol, t.eol, k, -1⟩
    .inr { S with T := q.1, L := q.2 } else .inr S)
  else if x.k = 4 then
    let q := reachP S.T S.L ⟨x.l.toNat, t.bol, true, k, -1⟩
    .inr { S with T := q.1, L := q.2 }
  else if x.k = 1 then (if 0 ≤ pickOf x.set t.eol then
    let q := reachP S.T S.N ⟨x.l.toNat, pickOf x.set t.eol == 10, false, k, pickOf x.set t.eol⟩
    .inr { S with T := q.1, N := q.2 } else .inr S)
  else .inr S
def innerF (st : List Nd) : Nat → Nat → In → Sum (List UInt8) In
  | 0, _, S => .inr S
  | f + 1, i, S => if i < S.L.length then (match stepI st S i with
    | .inl t => .inl t
    | .inr S' => innerF st f (i + 1) S') else .inr S
def outerF (st : List Nd) : Nat → List Tl → List Nat → Int → Option (List UInt8)
  | 0, _, _, _ => none
  | f + 1, T, L, pe => if 0 < L.length then (match innerF st (4 * st.length + 1) 0 ⟨T, L, [], pe⟩ with
    | .inl t => some t
    | .inr S => if 0 ≤ S.pe then some (textP S.T S.pe.toNat ++ [10]) else outerF st f S.T S.N S.pe) else none
def t0 : Tl := ⟨0, true, false, -1, -1⟩
def sampleOf (st : List Nd) : Option (List UInt8) := outerF st (2 * (4 * st.length) + 8) [t0] [0] (-1)
/-! ### Trails -/
def Tl.code (t : Tl) : Nat := t.s * 4 + (if t.bol = true then 2 else 0) + (if t.eol = true then 1 else 0)
def TOk (n : Nat) (T : List Tl) : Prop := (T.map Tl.code).Nodup ∧ (∀ t ∈ T, t.s < n) ∧ TW T
def LOk (T : List Tl) (L : List Nat) : Prop := L.Nodup ∧ ∀ k ∈ L, k < T.length
theorem code_eq {t u : Tl} (h : t.code = u.code) : t.s = u.s ∧ t.bol = u.bol ∧ t.eol = u.eol := by
  obtain ⟨s, b, e, _, _⟩ := t
  obtain ⟨s', b', e', _, _⟩ := u
  unfold Tl.code at h
  dsimp only at h ⊢
  cases b <;> cases e <;> cases b' <;> cases e' <;> simp at h ⊢ <;> omega
theorem TOk.len {n : Nat} {T : List Tl} (h : TOk n T) : T.length ≤ 4 * n := by
  have := nodup_len (4 * n) (T.map Tl.code) h.1 fun c hc => by
    obtain ⟨t, ht, rfl⟩ := List.mem_map.1 hc
    have := h.2.1 t ht
    unfold Tl.code
    split <;> split <;> omega
  rwa [List.length_map] at this
theorem LOk.len {T : List Tl} {L : List Nat} (h : LOk T L) : L.length ≤ T.length := nodup_len _ _ h.1 h.2
theorem LOk.more {T T' : List Tl} {L : List Nat} (h : LOk T L) (hl : T.length ≤ T'.length) : LOk T' L := ⟨h.1, fun k hk => Nat.lt_of_lt_of_le (h.2 k hk) hl⟩
theorem inT_iff {T : List Tl} {s : Nat} {b e : Bool} : inT T s b e = true ↔ ∃ t ∈ T, t.s = s ∧ t.bol = b ∧ t.eol = e := by
  unfold inT
  rw [List.any_eq_true]
  constructor
  · rintro ⟨t, h1, h2⟩
    simp only [Bool.and_eq_true, decide_eq_true_eq] at h2
    exact ⟨t, h1, h2.1.1, h2.1.2, h2.2⟩
  · rintro ⟨t, h1, h2, h3, h4⟩
    exact ⟨t, h1, by simp [h2, h3, h4]⟩
theorem reachP_facts {n : Nat} {T : List Tl} {L : List Nat} {t : Tl} (hT : TOk n T) (hL : LOk T L) (hs : t.s < n) (hf : t.fr < T.length ∧ -1 ≤ t.fr ∧ t.b ≤ 255) :
    TOk n (reachP T L t).1 ∧ LOk (reachP T L t).1 (reachP T L t).2 ∧ (∃ r, (reachP T L t).1 = T ++ r) ∧ (∃ r, (reachP T L t).2 = L ++ r) ∧ (reachP T L t).2.length + T.length = L.length + (reachP T L t).1.length := by
  unfold reachP
  split
  · exact ⟨hT, hL, ⟨[], by simp⟩, ⟨[], by simp⟩, rfl⟩
  · rename_i hno
    refine ⟨⟨?_, ?_, ?_⟩, ⟨?_, ?_⟩, ⟨[t], rfl⟩, ⟨[T.length], rfl⟩, by simp; omega⟩
    · show ((T ++ [t]).map Tl.code).Nodup
      rw [List.map_append, List.nodup_append]
      refine ⟨hT.1, by simp, fun a ha b hb => ?_⟩
      simp at hb; subst hb
      obtain ⟨u, hu, rfl⟩ := List.mem_map.1 ha
      intro e
      exact hno (inT_iff.2 ⟨u, hu, code_eq e⟩)
    · intro u hu
      rcases List.mem_append.1 hu with hu | hu
      · exact hT.2.1 u hu
      · simp at hu; subst hu; exact hs
    · intro i hi
      show ((T ++ [t]).getD i default).fr < i ∧ _
      by_cases h : i < T.length
      · rw [List.getD_eq_getElem?_getD, List.getElem?_append_left h, ← List.getD_eq_getElem?_getD]; exact hT.2.2 i h
      · have hi : i < (T ++ [t]).length := hi
        have : i = T.length := by simp at hi; omega
        subst this
        rw [List.getD_eq_getElem?_getD]; simp; exact hf
    · show (L ++ [T.length]).Nodup
      rw [List.nodup_append]
      refine ⟨hL.1, by simp, fun a ha b hb => ?_⟩
      simp at hb; subst hb
      have := hL.2 a ha; omega
    · intro k hk
      show k < (T ++ [t]).length
      rw [List.length_append, List.length_singleton]
      rcases List.mem_append.1 hk with hk | hk
      · have := hL.2 k hk; omega
      · simp at hk; omega
/-! ### The heap -/
theorem RS.setB {B H : Heap} {a mp n cs cl j : Nat} {ps pl : OA} {T : List Tl} {L : List Nat} (h : RS B H a mp ps n cs T pl cl L) (hj : B j ≠ none) (o : Obj) : RS (B.set j o) (H.set j o) a mp ps n cs T pl cl L := by
  obtain ⟨h1, h2, h3, h4, ⟨pt, ct, h5, h6, h7⟩, ⟨es, clk, s1, s2, s3⟩, h9, h10⟩ := h
  have ne : ∀ x, B x = none → x ≠ j := fun x hx e => hj (e ▸ hx)
  refine ⟨fun x o' hx => ?_, by rw [Heap.set_ne _ _ (ne a h2)]; exact h2, by rw [Heap.set_ne _ _ (ne mp h3)]; exact h3, h4, ⟨pt, ct, by rw [Heap.set_ne _ _ (ne a h2)]; exact h5, h6.keep fun x hx _ => Heap.set_ne _ _ (ne x (h7 x hx).1), fun x hx => ?_⟩,
    ⟨es, clk, by rw [Heap.set_ne _ _ (ne mp h3)]; exact s1, s2, s3⟩, h9.keep fun x hx _ => Heap.set_ne _ _ (ne x (h10 x hx).1), fun x hx => ?_⟩
  · by_cases e : x = j
    · subst e; rw [Heap.set_self] at hx ⊢; exact hx
    · rw [Heap.set_ne _ _ e] at hx ⊢; exact h1 x o' hx
  · rw [Heap.set_ne _ _ (ne x (h7 x hx).1)]; exact h7 x hx
  · rw [Heap.set_ne _ _ (ne x (h10 x hx).1)]; exact h10 x hx
theorem RS.grow {B H H' : Heap} {a mp n cs cl : Nat} {ps pl : OA} {T : List Tl} {L : List Nat} (h : RS B H a mp ps n cs T pl cl L) (he : Ext H H') : RS (beside B H H') H' a mp ps n cs T pl cl L := by
  obtain ⟨h1, h2, h3, h4, ⟨pt, ct, h5, h6, h7⟩, ⟨es, clk, s1, s2, s3⟩, h9, h10⟩ := h
  exact ⟨beside_ext _ _ _, beside_priv h2 (by rw [h5]; simp), beside_priv h3 (by rw [s1]; simp), h4, ⟨pt, ct, he _ _ h5, h6.ext he, fun x hx => ⟨beside_priv (h7 x hx).1 (h6.known hx), (h7 x hx).2⟩⟩, ⟨es, clk, he _ _ s1, s2, s3⟩, h9.ext he,
    fun x hx => ⟨beside_priv (h10 x hx).1 (h9.known hx), (h10 x hx).2⟩⟩
open Classical in
noncomputable def swapB (B H : Heap) (pl pn : OA) : Heap := fun j => if blk pn j then none else if blk pl j then H j else B j
theorem swapB_out {B H : Heap} {pl pn : OA} {x : Nat} (h1 : ¬ blk pn x) (h2 : ¬ blk pl x) : swapB B H pl pn x = B x := by
  unfold swapB; rw [if_neg h1, if_neg h2]
theorem RS.swap {B H : Heap} {a mp n cs cl cn : Nat} {ps pl pn : OA} {T : List Tl} {L N : List Nat} (h : RS B H a mp ps n cs T pl cl L) (hn : Vec B 1 pn N.length cn (N.map natV)) :
    RS (swapB B H pl pn) H a mp ps n cs T pn cn N ∧ Vec (swapB B H pl pn) 1 pl L.length cl (L.map natV) := by
  obtain ⟨h1, h2, h3, h4, ⟨pt, ct, h5, h6, h7⟩, hs, h9, h10⟩ := h
  have nn : ∀ x, B x = none → ¬ blk pn x := fun x hx hb => hn.known hb hx
  have eq : ∀ x, B x = none → ¬ blk pl x → swapB B H pl pn x = none := fun x hx hp => by unfold swapB; rw [if_neg (nn x hx), if_neg hp]; exact hx
  refine ⟨⟨fun x o hx => ?_, eq a h2 (fun hb => (h10 a hb).2.1 rfl), eq mp h3 (fun hb => (h10 mp hb).2.2 rfl), h4, ⟨pt, ct, h5, h6, fun x hx => ⟨eq x (h7 x hx).1 (h7 x hx).2.2.2, (h7 x hx).2.1, (h7 x hx).2.2.1, nn x (h7 x hx).1⟩⟩, hs, hn.ext h1, fun x hx => ⟨?_, ?_, ?_⟩⟩, h9.keep fun x hx _ => ?_⟩
  · unfold swapB at hx
    split at hx
    · cases hx
    · split at hx
      · exact hx
      · exact h1 x o hx
  · unfold swapB; rw [if_pos hx]
  · intro e; subst e; exact nn _ h2 hx
  · intro e; subst e; exact nn _ h3 hx
  · unfold swapB; rw [if_neg (nn x (h10 x hx).1), if_pos hx]
def SS (B0 B H : Heap) (a mp bl : Nat) (ps : OA) (n cs : Nat) (T : List Tl) (pl : OA) (cl : Nat) (L : List Nat) (pn : OA) (cn : Nat) (N : List Nat) : Prop :=
  Ext B0 B ∧ RS B H a mp ps n cs T pl cl L ∧ B bl = some (.cells #[.slice pl L.length cl] 22 (0, 0)) ∧ B0 bl = none ∧ Vec B 1 pn N.length cn (N.map natV) ∧ ∀ j, blk pn j → B0 j = none ∧ j ≠ bl
theorem SS.grow {B0 B H H' : Heap} {a mp bl n cs cl cn : Nat} {ps pl pn : OA} {T : List Tl} {L N : List Nat} (h : SS B0 B H a mp bl ps n cs T pl cl L pn cn N) (he : Ext H H') :
    SS (beside B0 H H') (beside B H H') H' a mp bl ps n cs T pl cl L pn cn N ∧ Ext B0 (beside B0 H H') := by
  obtain ⟨h1, h2, h3, h4, h5, h6⟩ := h
  have hB := h2.1
  have keep : ∀ x, B x ≠ none → beside B H H' x = B x := fun x hx => by
    rw [beside_some hx]
    cases e : B x with
    | none => exact absurd e hx
    | some o => exact he _ _ (hB _ _ e)
  refine ⟨⟨fun x o hx => ?_, h2.grow he, by rw [keep bl (by rw [h3]; simp)]; exact h3, beside_priv h4 (by rw [hB _ _ h3]; simp), h5.keep fun x hx hn => keep x hn, fun x hx => ⟨beside_priv (h6 x hx).1 (fun e => ?_), (h6 x hx).2⟩⟩, fun x o hx => ?_⟩
  · by_cases e : B0 x = none
    · by_cases e2 : H x = none
      · rw [beside_free e2] at hx ⊢; exact hx
      · rw [beside_priv e e2] at hx; cases hx
    · rw [beside_some e] at hx
      rw [beside_some (fun e2 => by
        cases e3 : B0 x with
        | none => exact e e3
        | some o' => rw [h1 _ _ e3] at e2; cases e2)]
      exact hx
  · cases e2 : B x with
    | none => exact h5.known hx e2
    | some o => rw [hB _ _ e2] at e; cases e
  · rw [beside_some (by rw [hx]; simp)]; exact he _ _ (hB _ _ (h1 _ _ hx))
theorem son_c {B0 B H : Heap} {a mp bl bx bt bi n cs cl cn i k s : Nat} {ps pl pn : OA} {T : List Tl} {L N : List Nat} {tr : Tl} {eol : Bool} {tx tt ti : TypeId} {fx ft fi : Nat × Nat} {Q : QT} {E : ET}
    (h : SS B0 B H a mp bl ps n cs T pl cl L pn cn N) (hx : B0 bx = some (.cells #[.pointer (some ⟨a, 0, none⟩)] tx fx)) (ht : B0 bt = some (.cells tr.cells.toArray tt ft)) (hi : B0 bi = some (.cells #[.int .i64 (i : Nat)] ti fi)) (hik : L[i]? = some k)
    (hT : T.length < 65536) (hL : L.length < 65536)
    (hk : ∀ B' H' p' c', SS B0 B' H' a mp bl ps n cs (reachP T L ⟨s, tr.bol, eol, k, -1⟩).1 p' c' (reachP T L ⟨s, tr.bol, eol, k, -1⟩).2 pn cn N → Q (.tuple #[]) H') :
    Does Pr 65 #[.int .i64 (s : Nat), .bool eol, .pointer (some ⟨bx, 0, none⟩), .pointer (some ⟨bl, 0, none⟩), .pointer (some ⟨bt, 0, none⟩), .pointer (some ⟨bi, 0, none⟩)] H Q E := by
  obtain ⟨h1, h2, h3, h4, h5, h6⟩ := h
  have hB := h2.1
  have he := h1.trans hB
  refine zqe2_fn _ _ _ _ _ _ Q E H ?_
  unfold zqe2
  simp only [ptr_some, add_at, Nat.zero_add]
  refine ldP_at (he _ _ hx) rfl ?_
  refine ldSl_at (p := pl) (l := L.length) (m := cl) (hB _ _ h3) rfl ?_
  refine ldB_at (n := tr.bol) (he _ _ ht) rfl ?_
  refine ldSl_at (p := pl) (l := L.length) (m := cl) (hB _ _ h3) rfl ?_
  refine ldI_at (n := (i : Nat)) (he _ _ hi) rfl ?_
  have hlt := (List.getElem?_eq_some_iff.1 hik).1
  refine ⟨⟨by omega, by omega⟩, ?_⟩
  obtain ⟨bb, ty, cc, rfl, hbb, hcc⟩ := vec_at1 h2.2.2.2.2.2.2.1 (n := i) (v := natV k) (by simp [hik])
  simp only [ptr_some, add_at, Int.toNat_natCast, Nat.mul_one, Nat.zero_add]
  refine ldI_at (n := (k : Nat)) hbb hcc ?_
  refine reach_c (t := ⟨s, tr.bol, eol, k, -1⟩) h2 hT hL fun H' p' c' h' => ⟨_, _, _, rfl, ?_⟩
  have hbl' := h'.1 _ _ h3
  refine wr_new hbl' (by simp) rfl (c' := #[.slice p' (reachP T L ⟨s, tr.bol, eol, k, -1⟩).2.length c']) rfl fun H5 hc5 hb5 => ?_
  have e5 : H5 = H'.set bl (.cells #[.slice p' (reachP T L ⟨s, tr.bol, eol, k, -1⟩).2.length c'] 22 (0, 0)) := by
    funext j
    by_cases e : j = bl
    · subst e; rw [Heap.set_self]; exact hc5
    · rw [Heap.set_ne _ _ e]; exact hb5 j e
  rw [e5]
  refine hk (B.set bl (.cells #[.slice p' (reachP T L ⟨s, tr.bol, eol, k, -1⟩).2.length c'] 22 (0, 0))) _ p' c' ⟨fun x o hx => ?_, h'.setB (by rw [h3]; simp) _, Heap.set_self _ _ _, h4, h5.keep fun x hx _ => Heap.set_ne _ _ (h6 x hx).2, h6⟩
  rw [Heap.set_ne _ _ (fun e => by rw [e, h4] at hx; cases hx)]; exact h1 x o hx
theorem snext_c {B0 B H : Heap} {a mp bl n cs cl cn : Nat} {ps pl pn : OA} {T : List Tl} {L N : List Nat} {t : Tl} {Q : QT} {E : ET}
    (h : SS B0 B H a mp bl ps n cs T pl cl L pn cn N) (hT : T.length < 65536) (hN : N.length < 65536)
    (hk : ∀ B' H' p' c', SS B0 B' H' a mp bl ps n cs (reachP T N t).1 pl cl L p' c' (reachP T N t).2 → Q (.slice p' (reachP T N t).2.length c') H') :
    Does Pr 64 #[.pointer (some ⟨a, 0, none⟩), .slice pn N.length cn, .agg #[.int .i64 (t.s : Nat), .bool t.bol, .bool t.eol], .int .i64 t.fr, .int .i64 t.b] H Q E := by
  obtain ⟨h1, h2, h3, h4, h5, h6⟩ := h
  obtain ⟨r1, r2⟩ := h2.swap h5
  have hbl : ¬ blk pn bl := fun hb => (h6 bl hb).2 rfl
  have hbl2 : ¬ blk pl bl := fun hb => by have := (h2.2.2.2.2.2.2.2 bl hb).1; rw [h3] at this; cases this
  have sbl : swapB B H pl pn bl = some (.cells #[.slice pl L.length cl] 22 (0, 0)) := by unfold swapB; rw [if_neg hbl, if_neg hbl2]; exact h3
  have e0 : Ext B0 (swapB B H pl pn) := fun x o hx => by
    unfold swapB
    rw [if_neg (fun hb => by rw [(h6 x hb).1] at hx; cases hx), if_neg (fun hb => by have := (h2.2.2.2.2.2.2.2 x hb).1; rw [h1 _ _ hx] at this; cases this)]
    exact h1 _ _ hx
  refine reach_c (t := t) r1 hT hN fun H' p' c' h' => ?_
  obtain ⟨q1, q2⟩ := h'.swap r2
  have nbl : ¬ blk p' bl := fun hb => by have := (h'.2.2.2.2.2.2.2 bl hb).1; rw [sbl] at this; cases this
  refine hk (swapB (swapB B H pl pn) H' p' pl) H' p' c' ⟨fun x o hx => ?_, q1, ?_, h4, q2, fun x hx => ⟨?_, fun e => nbl (e ▸ hx)⟩⟩
  · have hs := e0 x o hx
    unfold swapB
    rw [if_neg (fun hb => by have := (h2.2.2.2.2.2.2.2 x hb).1; rw [h1 _ _ hx] at this; cases this), if_neg (fun hb => by have := (h'.2.2.2.2.2.2.2 x hb).1; rw [hs] at this; cases this)]
    exact hs
  · rw [swapB_out hbl2 nbl]; exact sbl
  · have := (h'.2.2.2.2.2.2.2 x hx).1
    cases e : B0 x with
    | none => rfl
    | some o => rw [e0 _ _ e] at this; cases this
theorem SS.turn {B0 B H H' : Heap} {a mp bl n cs cl cn : Nat} {ps pl pn : OA} {T : List Tl} {L N : List Nat} (h : SS B0 B H a mp bl ps n cs T pl cl L pn cn N) (h' : H' = H.set bl (.cells #[.slice pn N.length cn] 22 (0, 0))) :
    ∃ B', SS B0 B' H' a mp bl ps n cs T pn cn N none 0 [] := by
  obtain ⟨h1, h2, h3, h4, h5, h6⟩ := h
  obtain ⟨r1, r2⟩ := h2.swap h5
  have hbl : ¬ blk pn bl := fun hb => (h6 bl hb).2 rfl
  have hbl2 : ¬ blk pl bl := fun hb => by have := (h2.2.2.2.2.2.2.2 bl hb).1; rw [h3] at this; cases this
  have sbl : swapB B H pl pn bl = some (.cells #[.slice pl L.length cl] 22 (0, 0)) := by unfold swapB; rw [if_neg hbl, if_neg hbl2]; exact h3
  have e0 : Ext B0 (swapB B H pl pn) := fun x o hx => by
    unfold swapB
    rw [if_neg (fun hb => by rw [(h6 x hb).1] at hx; cases hx), if_neg (fun hb => by have := (h2.2.2.2.2.2.2.2 x hb).1; rw [h1 _ _ hx] at this; cases this)]
    exact h1 _ _ hx
  subst h'
  refine ⟨_, fun x o hx => ?_, r1.setB (j := bl) (by rw [sbl]; simp) _, Heap.set_self _ _ _, h4, Vec.nil _ 1, fun j hj => (by obtain ⟨a, ha, _⟩ := hj; cases ha)⟩
  rw [Heap.set_ne _ _ (fun e => by rw [e, h4] at hx; cases hx)]; exact e0 x o hx
end Go.Proofs.Ytaffcoiomggpfaa
