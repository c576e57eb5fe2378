/- Contracts of package jobmuxref08: Same. -/
import Derived.Test.YtaffcoiomggpfaaFr08
import Derived.Test.YtaffcoiomggpfaaVValid
namespace Go.Proofs.Ytaffcoiomggpfaa
open Go.V
attribute [local irreducible] app
set_option linter.unusedVariables false

theorem eqNd (x y : Nd) : eqVs x.cells y.cells = decide (x = y) := by
  obtain ⟨a1, a2, a3, a4, a5, a6, a7⟩ := x
  obtain ⟨b1, b2, b3, b4, b5, b6, b7⟩ := y
  simp only [eqVs, eqV, Nd.cells, Bool.and_true]
  rw [Bool.eq_iff_iff]
  simp [Nd.mk.injEq]
/-- Same compares two lists of nodes. -/
theorem Same_c {H : Heap} {p1 p2 : Option Addr} {c1 c2 n1 n2 : Nat} {A B : List Nd} {Q : Value → Heap → Prop} {E : Chain → Heap → Prop} (h1 : Vec H 7 p1 n1 c1 (flat A)) (h2 : Vec H 7 p2 n2 c2 (flat B)) (hn1 : n1 = A.length) (hn2 : n2 = B.length)
    (hsz : A.length ≤ 1048576) (hk : A = B → Q (.bool true) H) (hk2 : A ≠ B → Q (.bool false) H) : Does Pr 29 #[.slice p1 n1 c1, .slice p2 n2 c2] H Q E := by
  refine r08_Same_fn _ _ _ _ _ _ Q E H ?_
  subst hn1 hn2
  unfold r08_Same r08_Same_18
  refine sel_bne (fun hne => hk2 (fun e => hne (by rw [e]))) (fun heq => ?_)
  have hlen : A.length = B.length := by omega
  unfold r08_Same_14 r08_Same_11
  refine ⟨fun x H' => ∃ k : Nat, x = (k : Nat) ∧ k ≤ A.length ∧ H' = H ∧ A.take k = B.take k, fun x _ => (A.length - x).toNat, ⟨0, rfl, by omega, rfl, by simp⟩, ?_⟩
  rintro x H' ⟨k, rfl, hkl, rfl, htk⟩
  unfold r08_Same_8 r08_Same_5
  refine sel_dec (fun hlt => ?_) (fun hge => ?_)
  · have hlt : k < A.length := by omega
    have ha : A[k]? = some A[k] := List.getElem?_eq_getElem hlt
    have hb : B[k]? = some (B[k]'(by omega)) := List.getElem?_eq_getElem (by omega)
    generalize A[k] = a at ha
    generalize B[k]'(by omega) = b at hb
    obtain ⟨b1, rfl, q1⟩ := vec_at7 h1 ha
    obtain ⟨b2, rfl, q2⟩ := vec_at7 h2 hb
    simp only [ptr_some, Int.toNat_natCast]
    refine ⟨⟨by omega, by omega⟩, _, _, _, _, _, _, _, q1, ⟨by omega, by omega⟩, _, _, _, _, _, _, _, q2, ?_⟩
    have he : eqVs [.int .i64 a.k, .int .i64 a.l, .int .i64 a.r, .int .u64 a.a, .int .u64 a.b, .int .u64 a.c, .int .u64 a.d] [.int .i64 b.k, .int .i64 b.l, .int .i64 b.r, .int .u64 b.a, .int .u64 b.b, .int .u64 b.c, .int .u64 b.d] = decide (a = b) := eqNd a b
    rw [he]
    by_cases hab : a = b
    · rw [decide_eq_true hab]
      refine sel_ff ?_
      unfold r08_Same_3
      have hw : IntKind.wrap .i64 ((k : Int) + 1) = ((k + 1 : Nat) : Int) := by rw [IntWalk.i64_in _ (by omega)]; omega
      rw [hw]
      refine ⟨⟨k + 1, rfl, by omega, rfl, ?_⟩, by omega⟩
      rw [List.take_add_one, List.take_add_one, htk, ha, hb, hab]
    · rw [decide_eq_false hab]
      refine sel_tt ?_
      exact hk2 (fun e => hab (by subst e; rw [ha] at hb; exact Option.some.inj hb))
  · obtain rfl : k = A.length := by omega
    unfold r08_Same_1
    refine hk ?_
    rw [List.take_length] at htk
    rw [htk, hlen, List.take_length]
end Go.Proofs.Ytaffcoiomggpfaa
