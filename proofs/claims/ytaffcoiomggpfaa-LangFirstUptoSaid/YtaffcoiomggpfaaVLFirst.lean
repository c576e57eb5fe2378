/- The statement LangFirst: its contract. -/
import Derived.Test.YtaffcoiomggpfaaVRel4
import Derived.Test.YtaffcoiomggpfaaVL09
namespace Go.Proofs.Ytaffcoiomggpfaa
open Go.V
attribute [local irreducible] app
set_option linter.constructorNameAsVariable false
set_option linter.unusedVariables false

theorem LangFirst_c {H : Heap} {p p1 pb : Option Addr} {n c c1 nb cb : Nat} {xs : List Int} {raw : List Nd} {bs : List UInt8} {Q : Value → Heap → Prop} {E : Chain → Heap → Prop} (h : Ints H p n xs) (hraw : Nds H p1 raw) (hrl : raw.length ≤ 1048576) (hb : Byt H pb nb cb bs)
    (hk : ∀ H', Ext H H' → Q (.bool true) H') : Does Pr 3 #[.slice p n c, .slice p1 raw.length c1, .slice pb nb cb] H Q E := by
  refine zqj1_fn _ _ _ _ _ _ _ _ _ Q E H ?_
  unfold zqj1 zqj1_9
  refine sane09_c fun H1 he1 => ⟨_, rfl, sel_ff ?_⟩
  unfold zqj1_5
  have yes : zqj1_3 Q E p n c p1 raw.length c1 pb nb cb true H1 := by
    unfold zqj1_3
    exact sel_tt (hk _ he1)
  refine sel_dec (fun _ => yes) (fun hr => ?_)
  unfold zqj1_3
  refine sel_dec (fun _ => hk _ he1) (fun hnb => ?_)
  unfold zqj1_1
  refine pattern09_c (h.ext he1) fun H2 pn cn L pt ct t he2 hvn hL hvt ht => ⟨_, _, _, _, _, _, rfl, ?_⟩
  have he12 := he1.trans he2
  have hb2 := hb.ext he12
  have ek : ∀ k : Int, ((k == k) : Bool) = true := fun k => by simp
  refine First_c hvn (vec_byt hvt) (by omega) fun H3 he3 => ⟨_, rfl, ?_⟩
  refine rFirst_c (Vec.nds (hvn.ext he3)) ((vec_byt hvt).ext he3) (by omega) (by omega) fun H4 he4 => ⟨_, rfl, ?_⟩
  rw [ek]
  refine sel_tt ?_
  have he24 := he3.trans he4
  refine First_c (hvn.ext he24) (hb2.ext he24) (by omega) fun H5 he5 => ⟨_, rfl, ?_⟩
  have he25 := he24.trans he5
  refine rFirst_c (Vec.nds (hvn.ext he25)) (hb2.ext he25) (by omega) (by omega) fun H6 he6 => ⟨_, rfl, ?_⟩
  rw [ek]
  refine sel_tt ?_
  have he26 := he25.trans he6
  refine First_n (hraw.ext (he12.trans he26)) (hb2.ext he26) (by omega) fun H7 he7 => ⟨_, rfl, ?_⟩
  have he27 := he26.trans he7
  refine rFirst_c (hraw.ext (he12.trans he27)) (hb2.ext he27) (by omega) (by omega) fun H8 he8 => ⟨_, rfl, ?_⟩
  rw [ek]
  exact hk H8 (he12.trans (he27.trans he8))
end Go.Proofs.Ytaffcoiomggpfaa
