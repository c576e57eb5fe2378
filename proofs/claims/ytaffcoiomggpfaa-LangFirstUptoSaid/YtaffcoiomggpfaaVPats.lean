/- Patterns, ranges, appended bytes. -/
import Derived.Test.YtaffcoiomggpfaaVNode
import Derived.Test.YtaffcoiomggpfaaVMill
import Derived.Test.YtaffcoiomggpfaaVByt
namespace Go.Proofs.Ytaffcoiomggpfaa
open Go.V
attribute [local irreducible] app
set_option linter.constructorNameAsVariable false
set_option linter.unusedVariables false

theorem drawOf_bounds {xs : List Int} {k n : Nat} (hn : 0 < n) (hn2 : n ≤ 1048576) : 0 ≤ drawOf xs k n ∧ drawOf xs k n < n := by
  unfold drawOf
  split
  · exact modOf_bounds hn hn2
  · omega
theorem Range_c' {H0 H : Heap} {d k lo hi : Nat} {xs : List Int} {Q : Value → Heap → Prop} {E : Chain → Heap → Prop} (h : Deck H0 H d xs k) (hlo : lo ≤ hi) (hhi : hi ≤ 65536)
    (hk : ∀ H', Deck H0 H' d xs (min (k + 1) xs.length) → (∀ i, i ≠ d → H' i = H i) → Q (.int .i64 (lo + drawOf xs k ((hi - lo + 1 : Nat) : Int))) H') : Does Pr 48 #[.pointer (some ⟨d, 0, none⟩), .int .i64 (lo : Nat), .int .i64 (hi : Nat)] H Q E := by
  refine zqq1_fn _ _ _ Q E H ?_
  unfold zqq1
  have hw : IntKind.wrap .i64 (IntKind.wrap .i64 (((hi : Nat) : Int) - (lo : Nat)) + 1) = ((hi - lo + 1 : Nat) : Int) := by
    rw [IntWalk.i64_in (_ - _) (by omega), IntWalk.i64_in _ (by omega)]; omega
  rw [hw]
  refine Next_c h (by omega) fun H1 h1 hf => ⟨_, rfl, ?_⟩
  have hb := drawOf_bounds (xs := xs) (k := k) (n := hi - lo + 1) (by omega) (by omega)
  rw [IntWalk.i64_in _ (by omega)]
  exact hk H1 h1 hf
theorem Patterns_c {H : Heap} {Q : Value → Heap → Prop} {E : Chain → Heap → Prop} (hk : ∀ H' i, Ext H H' → H i = none → H' i = some (.cells #[(.string ⟨[111, 107].toArray⟩), (.string ⟨#[]⟩), (.string ⟨[114, 46, 42, 121, 36].toArray⟩), (.string ⟨[94, 117, 112, 124, 103, 111, 43].toArray⟩), (.string ⟨[91, 48, 45, 57, 93, 43, 120, 63].toArray⟩), (.string ⟨[40, 97, 98, 41, 42, 99].toArray⟩), (.string ⟨[94, 36].toArray⟩)] 9 (0, 0)) → Q (.slice (some ⟨i, 0, none⟩) 7 7) H') :
    Does Pr 21 #[] H Q E := by
  refine zqn1_fn Q E H ?_
  unfold zqn1
  exact nw_ext fun i H1 hi he1 hc1 => hk H1 i he1 hi hc1
def pats : List ByteArray := [⟨[111, 107].toArray⟩, ⟨#[]⟩, ⟨[114, 46, 42, 121, 36].toArray⟩, ⟨[94, 117, 112, 124, 103, 111, 43].toArray⟩, ⟨[91, 48, 45, 57, 93, 43, 120, 63].toArray⟩, ⟨[40, 97, 98, 41, 42, 99].toArray⟩, ⟨[94, 36].toArray⟩]
theorem pats_get {n : Nat} (h : n < 7) : (#[(.string ⟨[111, 107].toArray⟩), (.string ⟨#[]⟩), (.string ⟨[114, 46, 42, 121, 36].toArray⟩), (.string ⟨[94, 117, 112, 124, 103, 111, 43].toArray⟩), (.string ⟨[91, 48, 45, 57, 93, 43, 120, 63].toArray⟩), (.string ⟨[40, 97, 98, 41, 42, 99].toArray⟩), (.string ⟨[94, 36].toArray⟩)] : Array Value)[n]? = some (.string (pats.getD n default)) := by
  match n, h with
  | 0, _ => rfl
  | 1, _ => rfl
  | 2, _ => rfl
  | 3, _ => rfl
  | 4, _ => rfl
  | 5, _ => rfl
  | 6, _ => rfl
theorem bytes_one (l : List UInt8) : (l.map byteV).all oneC = true := by
  induction l with
  | nil => rfl
  | cons x l ih => simp only [List.map_cons, List.all_cons, Bool.and_eq_true]; exact ⟨rfl, ih⟩
/-- Bytes are put at the end of a vector. -/
theorem app_byt {H : Heap} {p q : Option Addr} {l c n c2 : Nat} {bs ws : List UInt8} {K : Option Addr → Nat → Nat → Heap → Prop} (hv : Vec H 1 p l c (bs.map byteV)) (hw : Byt H q n c2 ws) (hcap : l + n ≤ 1048576)
    (hk : ∀ p' c' H', Vec H' 1 p' (l + n) c' ((bs ++ ws).map byteV) → (∀ j, ¬ blk p j → H j ≠ none → H' j = H j) → (∀ j, blk p' j → blk p j ∨ H j = none) → K p' (l + n) c' H') : app Pr 24 p l c (.slice q n c2) H K :=
  app_vec (sz := 1) (n := n) (ws := ws.map byteV) sl24 hv (fun K hK => ⟨ws.map byteV, by rw [List.length_map, hw.1]; omega, hw.2.2, hK⟩) (by rw [List.length_map, hw.1]; omega) (bytes_one ws) hcap (by omega)
    fun p' c' H' h1 h2 h3 => hk p' c' H' (by rw [List.map_append]; exact h1) h2 h3
theorem ext_app {H0 H H' : Heap} {p : Option Addr} (he : Ext H0 H) (hf : ∀ j, blk p j → H0 j = none) (hs : ∀ j, ¬ blk p j → H j ≠ none → H' j = H j) : Ext H0 H' := fun j o hj => by
  have h1 := he j o hj
  rw [hs j (fun hb => by rw [hf j hb] at hj; cases hj) (by rw [h1]; simp)]; exact h1
theorem fresh_app {H0 H : Heap} {p p' : Option Addr} (he : Ext H0 H) (hf : ∀ j, blk p j → H0 j = none) (hb : ∀ j, blk p' j → blk p j ∨ H j = none) : ∀ j, blk p' j → H0 j = none := fun j hj => by
  rcases hb j hj with h | h
  · exact hf j h
  · exact he.free h
theorem vec_byt {H : Heap} {p : Option Addr} {l c : Nat} {bs : List UInt8} (h : Vec H 1 p l c (bs.map byteV)) : Byt H p l c bs :=
  ⟨by have := h.1; simpa using this, h.2.1, h.rdS⟩
theorem fresh_blk {H : Heap} {i : Nat} (h : H i = none) : ∀ j, blk (some ⟨i, 0, none⟩) j → H j = none := fun j hj => by obtain ⟨a, ha, rfl⟩ := hj; cases ha; exact h
theorem vec_empty {H : Heap} {i : Nat} {t : TypeId} (h : H i = some (.cells #[] t (0, 0))) : Vec H 1 (some ⟨i, 0, none⟩) 0 0 (([] : List UInt8).map byteV) := ⟨rfl, Nat.le_refl _, i, _, t, rfl, h, rfl, fun j hj => by omega⟩
theorem Byt.take {H : Heap} {p : Option Addr} {n c : Nat} {bs : List UInt8} (h : Byt H p n c bs) (k : Nat) (hk : k ≤ n) :
    Byt H (if c = 0 then p else Option.map (fun a => Addr.add a (0 * 1)) p) (k - 0) (c - 0) (bs.take k) := by
  obtain ⟨h1, h2, h3⟩ := h
  have hp : (if c = 0 then p else Option.map (fun a => Addr.add a (0 * 1)) p) = p := by
    split
    · rfl
    · cases p with
      | none => rfl
      | some a => simp [Addr.add]
  rw [hp]
  refine ⟨by rw [List.length_take]; omega, by omega, ?_⟩
  have tk : ∀ (k : Nat) (a : Addr) (vs : List Value) (i : Nat), H.rd a i vs → H.rd a i (vs.take k) := fun k a => by
    induction k with
    | zero => intro vs i _; simp; trivial
    | succ k ih =>
      intro vs i h
      cases vs with
      | nil => trivial
      | cons v vs => exact ⟨h.1, ih vs (i + 1) h.2⟩
  cases p with
  | none =>
    have : bs.map byteV = [] := h3
    simp at this; subst this; simp; rfl
  | some a =>
    rw [List.map_take]
    exact tk k a _ 0 h3
end Go.Proofs.Ytaffcoiomggpfaa
