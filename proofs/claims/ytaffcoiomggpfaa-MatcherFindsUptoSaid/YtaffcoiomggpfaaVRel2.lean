import Derived.Test.YtaffcoiomggpfaaVMean
import Derived.Test.YtaffcoiomggpfaaVAuto6
import Derived.Test.YtaffcoiomggpfaaVNode
import Derived.Test.YtaffcoiomggpfaaFlang
import Derived.Test.YtaffcoiomggpfaaFnfa
import Derived.Test.YtaffcoiomggpfaaFr09
/- The automaton of a pattern leads where the pattern leads. -/
namespace Go.Proofs.Ytaffcoiomggpfaa
open Go.V
attribute [local irreducible] app
set_option linter.unusedVariables false
def Has (st st1:List Nd) (lo:Nat):Prop:=∀ i,lo≤i→i < st1.length→st.getD i default=st1.getD i default
theorem getD_left {a b:List Nd} {i:Nat} (h:i < a.length):(a++b).getD i default=a.getD i default:=by
  rw [List.getD_eq_getElem?_getD,List.getD_eq_getElem?_getD,List.getElem?_append_left h]
theorem getD_last (a:List Nd) (x:Nd):(a++[x]).getD a.length default=x:=by simp [List.getD_eq_getElem?_getD]
theorem Has.part {st a b:List Nd} {lo:Nat} (h:Has st (a++b) lo):Has st a lo:=fun i h1 h2=>by
  rw [h i h1 (by rw [List.length_append]; omega),getD_left h2]
theorem Has.from {st a:List Nd} {lo lo':Nat} (h:Has st a lo) (hl:lo≤lo'):Has st a lo':=fun i h1 h2=>h i (Nat.le_trans hl h1) h2
theorem Has.last {st a:List Nd} {x:Nd} {lo:Nat} (h:Has st (a++[x]) lo) (hl:lo≤a.length):st.getD a.length default=x:=by
  rw [h a.length hl (by simp),getD_last]
theorem bd_len (l:List Nd) (f n out:Nat) (st:List Nd):st.length≤(bd l f n out st).2.length:=by
  obtain ⟨a,ha⟩:=bd_app l f n out st
  rw [ha,List.length_append]; omega
theorem setL_get (st:List Nd) (n:Nat) (v:Int) (i:Nat):(setL st n v).getD i default=if i=n∧i < st.length then { st.getD i default with l:=v } else st.getD i default:=by
  unfold setL
  rw [List.getD_eq_getElem?_getD,List.getD_eq_getElem?_getD,List.getElem?_modify]
  by_cases h:n=i
  · subst h
    by_cases hl:n < st.length
    · rw [if_pos ⟨rfl,hl⟩,List.getElem?_eq_getElem hl]; simp
    · rw [if_neg (fun h=>hl h.2),List.getElem?_eq_none (by omega)]; simp
  · rw [if_neg (fun h'=>h h'.1.symm)]; simp [h]
theorem Has.loop {st st0 y:List Nd} {out first:Nat} {new:List Nd} (hy:y=(st0++[⟨2,0,out,0,0,0,0⟩])++new) (h:Has st (setL y st0.length first) st0.length) :
    st.getD st0.length default=⟨2,first,out,0,0,0,0⟩∧Has st y (st0++[(⟨2,0,out,0,0,0,0⟩:Nd)]).length:=by
  have hl:(setL y st0.length first).length=y.length:=by simp [setL]
  have hyl:st0.length < y.length:=by rw [hy]; simp
  refine ⟨?_,fun i h1 h2=>?_⟩
  · rw [h st0.length (Nat.le_refl _) (by omega),setL_get,if_pos ⟨rfl,hyl⟩,hy,getD_left (by simp),getD_last]
  · rw [List.length_append,List.length_singleton] at h1
    rw [h i (by omega) (by omega),setL_get,if_neg (by omega)]
variable {st:List Nd} {t:List Nat} {l:List Nd} {g k:Nat}
theorem up:∀ (f n out:Nat) (st0:List Nd) (i j:Nat),Has st (bd l f n out st0).2 st0.length→mean t l f n i j→(∃ m,Acc st t g k m out j)→∃ m,Acc st t g k m (bd l f n out st0).1 i
  | 0,n,out,st0,i,j,_,hm,ha=>by
    have hm:j=i:=hm
    subst hm; exact ha
  | f+1,n,out,st0,i,j,hh,hm,ha=>by
    unfold mean at hm
    unfold bd at hh ⊢
    dsimp only at hm hh ⊢
    generalize l.getD n default=x at hm hh ⊢
    obtain ⟨m,ha⟩:=ha
    by_cases c2:x.k=2
    · rw [if_pos (.inl c2)] at hm
      rw [if_pos c2] at hh ⊢
      unfold leafR at hm
      rw [if_pos c2] at hm
      have hq:=hh.last (Nat.le_refl _)
      obtain ⟨rfl,b,hb,hb'⟩:=hm
      refine ⟨m+1,.step (.inr (.inr (.inr ?_))) ha⟩
      rw [hq]; exact ⟨rfl,rfl,rfl,b,hb,hb'⟩
    rw [if_neg c2] at hh ⊢
    by_cases c8:x.k=8
    · rw [if_pos (.inr (.inl c8))] at hm
      rw [if_pos c8] at hh ⊢
      unfold leafR at hm
      rw [if_neg c2,if_pos c8] at hm
      have hq:=hh.last (Nat.le_refl _)
      obtain ⟨rfl,hb⟩:=hm
      refine ⟨m+1,.step (.inr (.inl ?_)) ha⟩
      rw [hq]; exact ⟨rfl,hb,rfl,rfl⟩
    rw [if_neg c8] at hh ⊢
    by_cases c9:x.k=9
    · rw [if_pos (.inr (.inr c9))] at hm
      rw [if_pos c9] at hh ⊢
      unfold leafR at hm
      rw [if_neg c2,if_neg c8,if_pos c9] at hm
      have hq:=hh.last (Nat.le_refl _)
      obtain ⟨rfl,hb⟩:=hm
      refine ⟨m+1,.step (.inr (.inr (.inl ?_))) ha⟩
      rw [hq]; exact ⟨rfl,hb,rfl,rfl⟩
    rw [if_neg c9] at hh ⊢
    rw [if_neg (by rintro (h | h | h); · exact c2 h
                   · exact c8 h
                   · exact c9 h)] at hm
    by_cases c3:x.k=3
    · rw [if_pos c3] at hm hh ⊢
      obtain ⟨m',h1,h2⟩:=hm
      obtain ⟨nz,hz⟩:=bd_app l f x.l.toNat (bd l f x.r.toNat out st0).1 (bd l f x.r.toNat out st0).2
      have hl:=bd_len l f x.r.toNat out st0
      refine up f x.l.toNat _ _ i m' (hh.from hl) h1 (up f x.r.toNat out st0 m' j ?_ h2 ⟨m,ha⟩)
      rw [hz] at hh; exact hh.part
    rw [if_neg c3] at hm hh ⊢
    by_cases c4:x.k=4
    · rw [if_pos c4] at hm hh ⊢
      obtain ⟨nz,hz⟩:=bd_app l f x.r.toNat out (bd l f x.l.toNat out st0).2
      have hl:=bd_len l f x.l.toNat out st0
      have hl2:=bd_len l f x.r.toNat out (bd l f x.l.toNat out st0).2
      have hq:=hh.last (Nat.le_trans hl hl2)
      have h2:=hh.part
      rcases hm with hm | hm
      · obtain ⟨m2,h3⟩:=up f x.l.toNat out st0 i j (by rw [hz] at h2; exact h2.part) hm ⟨m,ha⟩
        refine ⟨m2+1,.step (.inl ?_) h3⟩
        rw [hq]; exact ⟨rfl,rfl,.inl rfl⟩
      · obtain ⟨m2,h3⟩:=up f x.r.toNat out _ i j (h2.from hl) hm ⟨m,ha⟩
        refine ⟨m2+1,.step (.inl ?_) h3⟩
        rw [hq]; exact ⟨rfl,rfl,.inr rfl⟩
    rw [if_neg c4] at hm hh ⊢
    by_cases c7:x.k=7
    · rw [if_pos c7] at hm hh ⊢
      have hl:=bd_len l f x.l.toNat out st0
      have hq:=hh.last hl
      rcases hm with hm | rfl
      · obtain ⟨m2,h3⟩:=up f x.l.toNat out st0 i j hh.part hm ⟨m,ha⟩
        refine ⟨m2+1,.step (.inl ?_) h3⟩
        rw [hq]; exact ⟨rfl,rfl,.inl rfl⟩
      · refine ⟨m+1,.step (.inl ?_) ha⟩
        rw [hq]; exact ⟨rfl,rfl,.inr rfl⟩
    rw [if_neg c7] at hm hh ⊢
    by_cases c56:x.k=5∨x.k=6
    · rw [if_pos c56] at hh ⊢
      obtain ⟨new,hnew⟩:=bd_app l f x.l.toNat st0.length (st0++[⟨2,0,out,0,0,0,0⟩])
      obtain ⟨hq,hin⟩:=Has.loop hnew hh
      have loop:∀ i j,Star (mean t l f x.l.toNat) i j→(∃ m,Acc st t g k m out j)→∃ m,Acc st t g k m st0.length i:=by
        intro i j hs
        clear hm ha
        induction hs with
        | none i =>
          intro ⟨m,ha⟩
          refine ⟨m+1,.step (.inl ?_) ha⟩
          rw [hq]; exact ⟨rfl,rfl,.inr rfl⟩
        | more h1 h2 ih =>
          intro ha
          obtain ⟨m2,h3⟩:=up f x.l.toNat st0.length (st0++[⟨2,0,out,0,0,0,0⟩]) _ _ hin h1 (ih ha)
          refine ⟨m2+1,.step (.inl ?_) h3⟩
          rw [hq]; exact ⟨rfl,rfl,.inl rfl⟩
      by_cases c5:x.k=5
      · rw [if_pos c5] at hm
        rw [if_neg (by omega)]
        exact loop i j hm ⟨m,ha⟩
      · rw [if_neg c5,if_pos (by omega)] at hm
        rw [if_pos (by omega)]
        obtain ⟨m',h1,h2⟩:=hm
        exact up f x.l.toNat st0.length _ i m' hin h1 (loop m' j h2 ⟨m,ha⟩)
    · rw [if_neg c56] at hh ⊢
      rw [if_neg (by omega),if_neg (by omega)] at hm
      subst hm; exact ⟨m,ha⟩
theorem step_split {a b:Int} {q i q' i':Nat} (hq:st.getD q default=⟨2,a,b,0,0,0,0⟩) (h:Step st t q i q' i'):i'=i∧(q'=a.toNat∨q'=b.toNat):=by
  unfold Step at h
  dsimp only at h
  rw [hq] at h
  rcases h with ⟨_,h1,h2⟩ | ⟨h,_⟩ | ⟨h,_⟩ | ⟨h,_⟩
  · exact ⟨h1,h2⟩
  all_goals simp at h
theorem down:∀ (f n out:Nat) (st0:List Nd) (i N:Nat),Has st (bd l f n out st0).2 st0.length→g < st0.length→Acc st t g k N (bd l f n out st0).1 i →
    ∃ j m,m≤N∧mean t l f n i j∧Acc st t g k m out j
  | 0,n,out,st0,i,N,_,_,ha=>⟨i,N,Nat.le_refl _,rfl,ha⟩
  | f+1,n,out,st0,i,N,hh,hg,ha=>by
    unfold mean
    unfold bd at hh ha
    dsimp only at hh ha ⊢
    generalize l.getD n default=x at hh ha ⊢
    by_cases c2:x.k=2
    · rw [if_pos c2] at hh ha
      have hq:=hh.last (Nat.le_refl _)
      obtain ⟨m,q',i',rfl,hs,ha2⟩:=acc_step ha (by dsimp only; omega)
      unfold Step at hs
      dsimp only at hs
      rw [hq] at hs
      rcases hs with ⟨h,_⟩ | ⟨h,_⟩ | ⟨h,_⟩ | ⟨_,rfl,rfl,b,hb,hb'⟩
      · simp at h
      · simp at h
      · simp at h
      · refine ⟨i+1,m,by omega,?_,ha2⟩
        rw [if_pos (.inl c2)]; unfold leafR; rw [if_pos c2]
        exact ⟨rfl,b,hb,hb'⟩
    rw [if_neg c2] at hh ha
    by_cases c8:x.k=8
    · rw [if_pos c8] at hh ha
      have hq:=hh.last (Nat.le_refl _)
      obtain ⟨m,q',i',rfl,hs,ha2⟩:=acc_step ha (by dsimp only; omega)
      unfold Step at hs
      dsimp only at hs
      rw [hq] at hs
      rcases hs with ⟨h,_⟩ | ⟨_,hb,rfl,rfl⟩ | ⟨h,_⟩ | ⟨h,_⟩
      · simp at h
      · refine ⟨i',m,by omega,?_,ha2⟩
        rw [if_pos (.inr (.inl c8))]; unfold leafR; rw [if_neg c2,if_pos c8]
        exact ⟨rfl,hb⟩
      · simp at h
      · simp at h
    rw [if_neg c8] at hh ha
    by_cases c9:x.k=9
    · rw [if_pos c9] at hh ha
      have hq:=hh.last (Nat.le_refl _)
      obtain ⟨m,q',i',rfl,hs,ha2⟩:=acc_step ha (by dsimp only; omega)
      unfold Step at hs
      dsimp only at hs
      rw [hq] at hs
      rcases hs with ⟨h,_⟩ | ⟨h,_⟩ | ⟨_,hb,rfl,rfl⟩ | ⟨h,_⟩
      · simp at h
      · simp at h
      · refine ⟨i',m,by omega,?_,ha2⟩
        rw [if_pos (.inr (.inr c9))]; unfold leafR; rw [if_neg c2,if_neg c8,if_pos c9]
        exact ⟨rfl,hb⟩
      · simp at h
    rw [if_neg c9] at hh ha
    have hno:¬ (x.k=2∨x.k=8∨x.k=9):=by
      rintro (h | h | h)
      · exact c2 h
      · exact c8 h
      · exact c9 h
    simp only [if_neg hno]
    by_cases c3:x.k=3
    · rw [if_pos c3] at hh ha
      simp only [if_pos c3]
      obtain ⟨nz,hz⟩:=bd_app l f x.l.toNat (bd l f x.r.toNat out st0).1 (bd l f x.r.toNat out st0).2
      have hl:=bd_len l f x.r.toNat out st0
      obtain ⟨j1,m1,h1,h2,h3⟩:=down f x.l.toNat _ _ i N (hh.from hl) (by omega) ha
      obtain ⟨j2,m2,h4,h5,h6⟩:=down f x.r.toNat out st0 j1 m1 (by rw [hz] at hh; exact hh.part) hg h3
      exact ⟨j2,m2,by omega,⟨j1,h2,h5⟩,h6⟩
    rw [if_neg c3] at hh ha
    simp only [if_neg c3]
    by_cases c4:x.k=4
    · rw [if_pos c4] at hh ha
      simp only [if_pos c4]
      obtain ⟨nz,hz⟩:=bd_app l f x.r.toNat out (bd l f x.l.toNat out st0).2
      have hl:=bd_len l f x.l.toNat out st0
      have hl2:=bd_len l f x.r.toNat out (bd l f x.l.toNat out st0).2
      have hq:=hh.last (Nat.le_trans hl hl2)
      have h2:=hh.part
      obtain ⟨m,q',i',rfl,hs,ha2⟩:=acc_step ha (by dsimp only; omega)
      obtain ⟨rfl,hs2⟩:=step_split hq hs
      rcases hs2 with rfl | rfl
      · obtain ⟨j,m2,h3,h4,h5⟩:=down f x.l.toNat out st0 i' m (by rw [hz] at h2; exact h2.part) hg ha2
        exact ⟨j,m2,by omega,.inl h4,h5⟩
      · obtain ⟨j,m2,h3,h4,h5⟩:=down f x.r.toNat out _ i' m (h2.from hl) (by omega) ha2
        exact ⟨j,m2,by omega,.inr h4,h5⟩
    rw [if_neg c4] at hh ha
    simp only [if_neg c4]
    by_cases c7:x.k=7
    · rw [if_pos c7] at hh ha
      simp only [if_pos c7]
      have hl:=bd_len l f x.l.toNat out st0
      have hq:=hh.last hl
      obtain ⟨m,q',i',rfl,hs,ha2⟩:=acc_step ha (by dsimp only; omega)
      obtain ⟨rfl,hs2⟩:=step_split hq hs
      rcases hs2 with rfl | rfl
      · obtain ⟨j,m2,h3,h4,h5⟩:=down f x.l.toNat out st0 i' m hh.part hg ha2
        exact ⟨j,m2,by omega,.inl h4,h5⟩
      · exact ⟨i',m,by omega,.inr rfl,ha2⟩
    rw [if_neg c7] at hh ha
    simp only [if_neg c7]
    by_cases c56:x.k=5∨x.k=6
    · rw [if_pos c56] at hh ha
      obtain ⟨new,hnew⟩:=bd_app l f x.l.toNat st0.length (st0++[⟨2,0,out,0,0,0,0⟩])
      obtain ⟨hq,hin⟩:=Has.loop hnew hh
      have loop:∀ N i,Acc st t g k N st0.length i→∃ j m,m≤N∧Star (mean t l f x.l.toNat) i j∧Acc st t g k m out j:=by
        intro N
        induction N using Nat.strongRecOn with
        | _ N ih =>
          intro i ha
          obtain ⟨m,q',i',rfl,hs,ha2⟩:=acc_step ha (by omega)
          obtain ⟨rfl,hs2⟩:=step_split hq hs
          rcases hs2 with rfl | rfl
          · obtain ⟨j1,m1,h1,h2,h3⟩:=down f x.l.toNat st0.length _ i' m hin (by simp; omega) ha2
            obtain ⟨j2,m2,h4,h5,h6⟩:=ih m1 (by omega) j1 h3
            exact ⟨j2,m2,by omega,.more h2 h5,h6⟩
          · exact ⟨i',m,by omega,.none _,ha2⟩
      by_cases c5:x.k=5
      · simp only [if_pos c5]
        rw [if_neg (by omega)] at ha
        exact loop N i ha
      · have c6:x.k=6:=by omega
        simp only [if_neg c5,if_pos c6]
        rw [if_pos c6] at ha
        obtain ⟨j1,m1,h1,h2,h3⟩:=down f x.l.toNat st0.length _ i N hin (by simp; omega) ha
        obtain ⟨j2,m2,h4,h5,h6⟩:=loop m1 j1 h3
        exact ⟨j2,m2,by omega,⟨j1,h2,h5⟩,h6⟩
    · rw [if_neg c56] at hh ha
      have c5:¬ x.k=5:=by omega
      have c6:¬ x.k=6:=by omega
      simp only [if_neg c5,if_neg c6]
      exact ⟨i,N,Nat.le_refl _,rfl,ha⟩
end Go.Proofs.Ytaffcoiomggpfaa
/- The reference's automaton: a plain law. -/
namespace Go.Proofs.Ytaffcoiomggpfaa
open Go.V
attribute [local irreducible] app
set_option linter.unusedVariables false
def sp (a b:Nat):Nd:=⟨2,a,b,0,0,0,0⟩
def rb (l:List Nd):Nat→Nat→Nat→List Nd
  | 0,_,_=>[]
  | f+1,n,p =>
    let x:=l.getD n default
    if x.k=2 then [⟨1,((p+1:Nat):Int),0,x.a,x.b,x.c,x.d⟩]
    else if x.k=8 then [⟨3,((p+1:Nat):Int),0,0,0,0,0⟩]
    else if x.k=9 then [⟨4,((p+1:Nat):Int),0,0,0,0,0⟩]
    else if x.k=3 then rb l f x.l.toNat p++rb l f x.r.toNat (p+(rb l f x.l.toNat p).length)
    else if x.k=4 then ((sp (p+1) (p+2+(rb l f x.l.toNat (p+1)).length) :: rb l f x.l.toNat (p+1)) ++
      [sp (p+2+(rb l f x.l.toNat (p+1)).length+(rb l f x.r.toNat (p+2+(rb l f x.l.toNat (p+1)).length)).length) (p+2+(rb l f x.l.toNat (p+1)).length+(rb l f x.r.toNat (p+2+(rb l f x.l.toNat (p+1)).length)).length)]) ++
      rb l f x.r.toNat (p+2+(rb l f x.l.toNat (p+1)).length)
    else if x.k=7 then sp (p+1) (p+1+(rb l f x.l.toNat (p+1)).length) :: rb l f x.l.toNat (p+1)
    else if x.k=5 then (sp (p+1) (p+2+(rb l f x.l.toNat (p+1)).length) :: rb l f x.l.toNat (p+1))++[sp p p]
    else if x.k=6 then rb l f x.l.toNat p++[sp p (p+1+(rb l f x.l.toNat p).length)]
    else [sp (p+1) (p+1)]
def Hs (st T:List Nd) (p:Nat):Prop:=∀ j,j < T.length→st.getD (p+j) default=T.getD j default
theorem Hs.left {st a b:List Nd} {p:Nat} (h:Hs st (a++b) p):Hs st a p:=fun j hj=>by
  rw [h j (by rw [List.length_append]; omega),getD_left hj]
theorem Hs.right {st a b:List Nd} {p:Nat} (h:Hs st (a++b) p):Hs st b (p+a.length):=fun j hj=>by
  rw [Nat.add_assoc,h (a.length+j) (by rw [List.length_append]; omega)]
  rw [List.getD_eq_getElem?_getD,List.getElem?_append_right (by omega),List.getD_eq_getElem?_getD]
  congr 2; omega
theorem Hs.head {st a:List Nd} {x:Nd} {p:Nat} (h:Hs st (x :: a) p):st.getD p default=x:=h 0 (by simp)
theorem Hs.tail {st a:List Nd} {x:Nd} {p:Nat} (h:Hs st (x :: a) p):Hs st a (p+1):=fun j hj=>by
  have:=h (j+1) (by simp; omega)
  rw [show p+1+j=p+(j+1) by omega,this]; rfl
variable {st:List Nd} {t:List Nat} {l:List Nd} {g k:Nat}
theorem sp_acc {p a b i m:Nat} (h:st.getD p default=sp a b) (ha:Acc st t g k m a i):Acc st t g k (m+1) p i:=.step (.inl (by rw [h]; exact ⟨rfl,rfl,.inl rfl⟩)) ha
theorem sp_acc2 {p a b i m:Nat} (h:st.getD p default=sp a b) (ha:Acc st t g k m b i):Acc st t g k (m+1) p i:=.step (.inl (by rw [h]; exact ⟨rfl,rfl,.inr rfl⟩)) ha
theorem sp_down {p a b i N:Nat} (h:st.getD p default=sp a b) (hg:p ≠ g) (ha:Acc st t g k N p i):∃ m,N=m+1∧(Acc st t g k m a i∨Acc st t g k m b i):=by
  obtain ⟨m,q',i',rfl,hs,ha2⟩:=acc_step ha hg
  obtain ⟨rfl,hs2⟩:=step_split h hs
  rcases hs2 with h2 | h2
  · have:q'=a:=by simpa using h2
    subst this; exact ⟨m,rfl,.inl ha2⟩
  · have:q'=b:=by simpa using h2
    subst this; exact ⟨m,rfl,.inr ha2⟩
theorem r_up:∀ (f n p i j:Nat),Hs st (rb l f n p) p→mean t l f n i j→(∃ m,Acc st t g k m (p+(rb l f n p).length) j)→∃ m,Acc st t g k m p i
  | 0,n,p,i,j,_,hm,ha=>by
    have hm:j=i:=hm
    subst hm; exact ha
  | f+1,n,p,i,j,hh,hm,ha=>by
    unfold mean at hm
    unfold rb at hh ha
    dsimp only at hm hh ha
    generalize l.getD n default=x at hm hh ha
    by_cases c2:x.k=2
    · rw [if_pos (.inl c2)] at hm
      rw [if_pos c2] at hh ha
      unfold leafR at hm
      rw [if_pos c2] at hm
      obtain ⟨rfl,b,hb,hb'⟩:=hm
      obtain ⟨m,ha⟩:=ha
      refine ⟨m+1,.step (.inr (.inr (.inr ?_))) ha⟩
      rw [hh.head]; exact ⟨rfl,rfl,by simp,b,hb,hb'⟩
    rw [if_neg c2] at hh ha
    by_cases c8:x.k=8
    · rw [if_pos (.inr (.inl c8))] at hm
      rw [if_pos c8] at hh ha
      unfold leafR at hm
      rw [if_neg c2,if_pos c8] at hm
      obtain ⟨rfl,hb⟩:=hm
      obtain ⟨m,ha⟩:=ha
      refine ⟨m+1,.step (.inr (.inl ?_)) ha⟩
      rw [hh.head]; exact ⟨rfl,hb,rfl,by simp⟩
    rw [if_neg c8] at hh ha
    by_cases c9:x.k=9
    · rw [if_pos (.inr (.inr c9))] at hm
      rw [if_pos c9] at hh ha
      unfold leafR at hm
      rw [if_neg c2,if_neg c8,if_pos c9] at hm
      obtain ⟨rfl,hb⟩:=hm
      obtain ⟨m,ha⟩:=ha
      refine ⟨m+1,.step (.inr (.inr (.inl ?_))) ha⟩
      rw [hh.head]; exact ⟨rfl,hb,rfl,by simp⟩
    rw [if_neg c9] at hh ha
    have hno:¬ (x.k=2∨x.k=8∨x.k=9):=by omega
    rw [if_neg hno] at hm
    by_cases c3:x.k=3
    · rw [if_pos c3] at hm hh ha
      obtain ⟨m',h1,h2⟩:=hm
      refine r_up f x.l.toNat p i m' hh.left h1 (r_up f x.r.toNat _ m' j hh.right h2 ?_)
      rw [Nat.add_assoc,← List.length_append]; exact ha
    rw [if_neg c3] at hm hh ha
    by_cases c4:x.k=4
    · rw [if_pos c4] at hm hh ha
      have h1:=hh.left.left
      have hq:=h1.head
      have hin:=h1.tail
      have hmid:st.getD (p+1+(rb l f x.l.toNat (p+1)).length) default=sp (p+2+(rb l f x.l.toNat (p+1)).length+(rb l f x.r.toNat (p+2+(rb l f x.l.toNat (p+1)).length)).length) (p+2+(rb l f x.l.toNat (p+1)).length+(rb l f x.r.toNat (p+2+(rb l f x.l.toNat (p+1)).length)).length):=by
        have:=hh.left.right.head
        rw [List.length_cons] at this
        rw [show p+1+(rb l f x.l.toNat (p+1)).length=p+((rb l f x.l.toNat (p+1)).length+1) by omega]; exact this
      have hr:=hh.right
      have he:p+2+(rb l f x.l.toNat (p+1)).length=p+((sp (p+1) (p+2+(rb l f x.l.toNat (p+1)).length) :: rb l f x.l.toNat (p+1))++[sp (p+2+(rb l f x.l.toNat (p+1)).length+(rb l f x.r.toNat (p+2+(rb l f x.l.toNat (p+1)).length)).length) (p+2+(rb l f x.l.toNat (p+1)).length+(rb l f x.r.toNat (p+2+(rb l f x.l.toNat (p+1)).length)).length)]).length:=by
        simp; omega
      rw [← he] at hr
      obtain ⟨m,ha⟩:=ha
      rw [List.length_append,← Nat.add_assoc,← he] at ha
      rcases hm with hm | hm
      · obtain ⟨m2,h3⟩:=r_up f x.l.toNat (p+1) i j hin hm ⟨m+1,sp_acc hmid ha⟩
        exact ⟨m2+1,sp_acc hq h3⟩
      · obtain ⟨m2,h3⟩:=r_up f x.r.toNat _ i j hr hm ⟨m,ha⟩
        exact ⟨m2+1,sp_acc2 hq h3⟩
    rw [if_neg c4] at hm hh ha
    by_cases c7:x.k=7
    · rw [if_pos c7] at hm hh ha
      obtain ⟨m,ha⟩:=ha
      rw [List.length_cons] at ha
      rcases hm with hm | rfl
      · obtain ⟨m2,h3⟩:=r_up f x.l.toNat (p+1) i j hh.tail hm ⟨m,by rw [show p+1+(rb l f x.l.toNat (p+1)).length=p+((rb l f x.l.toNat (p+1)).length+1) by omega]; exact ha⟩
        exact ⟨m2+1,sp_acc hh.head h3⟩
      · refine ⟨m+1,sp_acc2 hh.head ?_⟩
        rw [show p+1+(rb l f x.l.toNat (p+1)).length=p+((rb l f x.l.toNat (p+1)).length+1) by omega]; exact ha
    rw [if_neg c7] at hm hh ha
    by_cases c5:x.k=5
    · rw [if_pos c5] at hm hh ha
      have hq:=hh.left.head
      have hin:=hh.left.tail
      have hback:st.getD (p+1+(rb l f x.l.toNat (p+1)).length) default=sp p p:=by
        have:=hh.right.head
        rw [List.length_cons] at this
        rw [show p+1+(rb l f x.l.toNat (p+1)).length=p+((rb l f x.l.toNat (p+1)).length+1) by omega]; exact this
      have he:p+((sp (p+1) (p+2+(rb l f x.l.toNat (p+1)).length) :: rb l f x.l.toNat (p+1))++[sp p p]).length=p+2+(rb l f x.l.toNat (p+1)).length:=by simp; omega
      rw [he] at ha
      induction hm with
      | none i =>
        obtain ⟨m,ha⟩:=ha
        exact ⟨m+1,sp_acc2 hq ha⟩
      | more h1 h2 ih =>
        obtain ⟨m2,h3⟩:=ih ha
        obtain ⟨m4,h4⟩:=r_up f x.l.toNat (p+1) _ _ hin h1 ⟨m2+1,sp_acc hback h3⟩
        exact ⟨m4+1,sp_acc hq h4⟩
    rw [if_neg c5] at hm hh ha
    by_cases c6:x.k=6
    · rw [if_pos c6] at hm hh ha
      obtain ⟨m',h1,h2⟩:=hm
      have hback:=hh.right.head
      have he:p+(rb l f x.l.toNat p++[sp p (p+1+(rb l f x.l.toNat p).length)]).length=p+1+(rb l f x.l.toNat p).length:=by simp; omega
      rw [he] at ha
      have loop:∀ m' ,Star (mean t l f x.l.toNat) m' j→∃ m,Acc st t g k m (p+(rb l f x.l.toNat p).length) m':=by
        intro m' hs
        clear h2 h1
        induction hs with
        | none i =>
          obtain ⟨m,ha⟩:=ha
          exact ⟨m+1,sp_acc2 hback ha⟩
        | more g1 g2 ih =>
          obtain ⟨m2,h3⟩:=r_up f x.l.toNat p _ _ hh.left g1 (ih ha)
          exact ⟨m2+1,sp_acc hback h3⟩
      exact r_up f x.l.toNat p i m' hh.left h1 (loop m' h2)
    · rw [if_neg c6] at hm hh ha
      subst hm
      obtain ⟨m,ha⟩:=ha
      exact ⟨m+1,sp_acc hh.head ha⟩
theorem r_down:∀ (f n p i N:Nat),Hs st (rb l f n p) p→p+(rb l f n p).length≤g→Acc st t g k N p i→∃ j m,m≤N∧mean t l f n i j∧Acc st t g k m (p+(rb l f n p).length) j
  | 0,n,p,i,N,_,_,ha=>⟨i,N,Nat.le_refl _,rfl,ha⟩
  | f+1,n,p,i,N,hh,hg,ha=>by
    unfold mean
    unfold rb at hh hg ⊢
    dsimp only at hh hg ⊢
    generalize l.getD n default=x at hh hg ⊢
    by_cases c2:x.k=2
    · rw [if_pos c2] at hh hg ⊢
      simp only [List.length_cons,List.length_nil] at hg ⊢
      obtain ⟨m,q',i',rfl,hs,ha2⟩:=acc_step ha (by omega)
      unfold Step at hs
      dsimp only at hs
      rw [hh.head] at hs
      rcases hs with ⟨h,_⟩ | ⟨h,_⟩ | ⟨h,_⟩ | ⟨_,rfl,rfl,b,hb,hb'⟩
      · simp at h
      · simp at h
      · simp at h
      · refine ⟨i+1,m,by omega,?_,by simpa using ha2⟩
        rw [if_pos (.inl c2)]; unfold leafR; rw [if_pos c2]
        exact ⟨rfl,b,hb,hb'⟩
    rw [if_neg c2] at hh hg ⊢
    by_cases c8:x.k=8
    · rw [if_pos c8] at hh hg ⊢
      simp only [List.length_cons,List.length_nil] at hg ⊢
      obtain ⟨m,q',i',rfl,hs,ha2⟩:=acc_step ha (by omega)
      unfold Step at hs
      dsimp only at hs
      rw [hh.head] at hs
      rcases hs with ⟨h,_⟩ | ⟨_,hb,rfl,rfl⟩ | ⟨h,_⟩ | ⟨h,_⟩
      · simp at h
      · refine ⟨i',m,by omega,?_,by simpa using ha2⟩
        rw [if_pos (.inr (.inl c8))]; unfold leafR; rw [if_neg c2,if_pos c8]
        exact ⟨rfl,hb⟩
      · simp at h
      · simp at h
    rw [if_neg c8] at hh hg ⊢
    by_cases c9:x.k=9
    · rw [if_pos c9] at hh hg ⊢
      simp only [List.length_cons,List.length_nil] at hg ⊢
      obtain ⟨m,q',i',rfl,hs,ha2⟩:=acc_step ha (by omega)
      unfold Step at hs
      dsimp only at hs
      rw [hh.head] at hs
      rcases hs with ⟨h,_⟩ | ⟨h,_⟩ | ⟨_,hb,rfl,rfl⟩ | ⟨h,_⟩
      · simp at h
      · simp at h
      · refine ⟨i',m,by omega,?_,by simpa using ha2⟩
        rw [if_pos (.inr (.inr c9))]; unfold leafR; rw [if_neg c2,if_neg c8,if_pos c9]
        exact ⟨rfl,hb⟩
      · simp at h
    rw [if_neg c9] at hh hg ⊢
    have hno:¬ (x.k=2∨x.k=8∨x.k=9):=by omega
    simp only [if_neg hno]
    by_cases c3:x.k=3
    · rw [if_pos c3] at hh hg ⊢
      simp only [if_pos c3]
      rw [List.length_append,← Nat.add_assoc] at hg ⊢
      obtain ⟨j1,m1,h1,h2,h3⟩:=r_down f x.l.toNat p i N hh.left (by omega) ha
      obtain ⟨j2,m2,h4,h5,h6⟩:=r_down f x.r.toNat _ j1 m1 hh.right hg h3
      exact ⟨j2,m2,by omega,⟨j1,h2,h5⟩,h6⟩
    rw [if_neg c3] at hh hg ⊢
    simp only [if_neg c3]
    by_cases c4:x.k=4
    · rw [if_pos c4] at hh hg ⊢
      simp only [if_pos c4]
      have h1:=hh.left.left
      have hq:=h1.head
      have hin:=h1.tail
      have hmid:st.getD (p+1+(rb l f x.l.toNat (p+1)).length) default=sp (p+2+(rb l f x.l.toNat (p+1)).length+(rb l f x.r.toNat (p+2+(rb l f x.l.toNat (p+1)).length)).length) (p+2+(rb l f x.l.toNat (p+1)).length+(rb l f x.r.toNat (p+2+(rb l f x.l.toNat (p+1)).length)).length):=by
        have:=hh.left.right.head
        rw [List.length_cons] at this
        rw [show p+1+(rb l f x.l.toNat (p+1)).length=p+((rb l f x.l.toNat (p+1)).length+1) by omega]; exact this
      have hr:=hh.right
      have he:p+2+(rb l f x.l.toNat (p+1)).length=p+((sp (p+1) (p+2+(rb l f x.l.toNat (p+1)).length) :: rb l f x.l.toNat (p+1))++[sp (p+2+(rb l f x.l.toNat (p+1)).length+(rb l f x.r.toNat (p+2+(rb l f x.l.toNat (p+1)).length)).length) (p+2+(rb l f x.l.toNat (p+1)).length+(rb l f x.r.toNat (p+2+(rb l f x.l.toNat (p+1)).length)).length)]).length:=by
        simp; omega
      rw [← he] at hr
      rw [List.length_append,← Nat.add_assoc,← he] at hg ⊢
      obtain ⟨m,rfl,hs2⟩:=sp_down hq (by omega) ha
      rcases hs2 with ha2 | ha2
      · obtain ⟨j,m2,h3,h4,h5⟩:=r_down f x.l.toNat (p+1) i m hin (by omega) ha2
        obtain ⟨m3,rfl,h6⟩:=sp_down hmid (by omega) h5
        exact ⟨j,m3,by omega,.inl h4,by rcases h6 with h6 | h6 <;> exact h6⟩
      · obtain ⟨j,m2,h3,h4,h5⟩:=r_down f x.r.toNat _ i m hr (by omega) ha2
        exact ⟨j,m2,by omega,.inr h4,h5⟩
    rw [if_neg c4] at hh hg ⊢
    simp only [if_neg c4]
    by_cases c7:x.k=7
    · rw [if_pos c7] at hh hg ⊢
      simp only [if_pos c7]
      rw [List.length_cons] at hg ⊢
      have e:p+1+(rb l f x.l.toNat (p+1)).length=p+((rb l f x.l.toNat (p+1)).length+1):=by omega
      obtain ⟨m,rfl,hs2⟩:=sp_down hh.head (by omega) ha
      rcases hs2 with ha2 | ha2
      · obtain ⟨j,m2,h3,h4,h5⟩:=r_down f x.l.toNat (p+1) i m hh.tail (by omega) ha2
        exact ⟨j,m2,by omega,.inl h4,by rw [← e]; exact h5⟩
      · exact ⟨i,m,by omega,.inr rfl,by rw [← e]; exact ha2⟩
    rw [if_neg c7] at hh hg ⊢
    simp only [if_neg c7]
    by_cases c5:x.k=5
    · rw [if_pos c5] at hh hg ⊢
      simp only [if_pos c5]
      have hq:=hh.left.head
      have hin:=hh.left.tail
      have hback:st.getD (p+1+(rb l f x.l.toNat (p+1)).length) default=sp p p:=by
        have:=hh.right.head
        rw [List.length_cons] at this
        rw [show p+1+(rb l f x.l.toNat (p+1)).length=p+((rb l f x.l.toNat (p+1)).length+1) by omega]; exact this
      have he:p+((sp (p+1) (p+2+(rb l f x.l.toNat (p+1)).length) :: rb l f x.l.toNat (p+1))++[sp p p]).length=p+2+(rb l f x.l.toNat (p+1)).length:=by simp; omega
      rw [he] at hg ⊢
      induction N using Nat.strongRecOn generalizing i with
      | _ N ih =>
        obtain ⟨m,rfl,hs2⟩:=sp_down hq (by omega) ha
        rcases hs2 with ha2 | ha2
        · obtain ⟨j1,m1,h1,h2,h3⟩:=r_down f x.l.toNat (p+1) i m hin (by omega) ha2
          obtain ⟨m2,rfl,h4⟩:=sp_down hback (by omega) h3
          have h4:Acc st t g k m2 p j1:=by rcases h4 with h4 | h4 <;> exact h4
          obtain ⟨j2,m3,h5,h6,h7⟩:=ih m2 (by omega) j1 h4
          exact ⟨j2,m3,by omega,.more h2 h6,h7⟩
        · exact ⟨i,m,by omega,.none _,ha2⟩
    rw [if_neg c5] at hh hg ⊢
    simp only [if_neg c5]
    by_cases c6:x.k=6
    · rw [if_pos c6] at hh hg ⊢
      simp only [if_pos c6]
      have hback:=hh.right.head
      have he:p+(rb l f x.l.toNat p++[sp p (p+1+(rb l f x.l.toNat p).length)]).length=p+1+(rb l f x.l.toNat p).length:=by simp; omega
      rw [he] at hg ⊢
      have loop:∀ N i,Acc st t g k N (p+(rb l f x.l.toNat p).length) i→∃ j m,m≤N∧Star (mean t l f x.l.toNat) i j∧Acc st t g k m (p+1+(rb l f x.l.toNat p).length) j:=by
        intro N
        induction N using Nat.strongRecOn with
        | _ N ih =>
          intro i ha
          obtain ⟨m,rfl,hs2⟩:=sp_down hback (by omega) ha
          rcases hs2 with ha2 | ha2
          · obtain ⟨j1,m1,h1,h2,h3⟩:=r_down f x.l.toNat p i m hh.left (by omega) ha2
            obtain ⟨j2,m2,h4,h5,h6⟩:=ih m1 (by omega) j1 h3
            exact ⟨j2,m2,by omega,.more h2 h5,h6⟩
          · exact ⟨i,m,by omega,.none _,ha2⟩
      obtain ⟨j1,m1,h1,h2,h3⟩:=r_down f x.l.toNat p i N hh.left (by omega) ha
      obtain ⟨j2,m2,h4,h5,h6⟩:=loop m1 j1 h3
      exact ⟨j2,m2,by omega,⟨j1,h2,h5⟩,h6⟩
    · rw [if_neg c6] at hh hg ⊢
      simp only [if_neg c6]
      simp only [List.length_cons,List.length_nil] at hg ⊢
      obtain ⟨m,rfl,hs2⟩:=sp_down hh.head (by omega) ha
      exact ⟨i,m,by omega,rfl,by rcases hs2 with h | h <;> simpa using h⟩
def rcomp (l:List Nd):List Nd:=rb l l.length (l.length - 1) 0++[⟨5,0,0,0,0,0,0⟩]
def rgoal (l:List Nd):Nat:=(rb l l.length (l.length - 1) 0).length
theorem acc_rcomp {t:List Nat} (l:List Nd) (i k:Nat):(∃ m,Acc (rcomp l) t (rgoal l) k m 0 i)↔mean t l l.length (l.length - 1) i k:=by
  have hh:Hs (rcomp l) (rb l l.length (l.length - 1) 0) 0:=fun j hj=>by
    unfold rcomp
    rw [Nat.zero_add,getD_left hj]
  have hend:(rcomp l).getD (rgoal l) default=⟨5,0,0,0,0,0,0⟩:=by unfold rcomp rgoal; rw [getD_last]
  constructor
  · rintro ⟨N,ha⟩
    obtain ⟨j,m,_,hm,ha2⟩:=r_down l.length (l.length - 1) 0 i N hh (by rw [Nat.zero_add]; exact Nat.le_refl _) ha
    rw [Nat.zero_add] at ha2
    change Acc (rcomp l) t (rgoal l) k m (rgoal l) j at ha2
    cases ha2 with
    | here=>exact hm
    | step hs _ =>
      unfold Step at hs
      dsimp only at hs
      rw [hend] at hs
      rcases hs with ⟨h,_⟩ | ⟨h,_⟩ | ⟨h,_⟩ | ⟨h,_⟩ <;> simp at h
  · intro hm
    exact r_up l.length (l.length - 1) 0 i k hh hm ⟨0,by rw [Nat.zero_add]; exact .here⟩
end Go.Proofs.Ytaffcoiomggpfaa
/- Contracts of package lang: First,Ends. -/
namespace Go.Proofs.Ytaffcoiomggpfaa
open Go.V
attribute [local irreducible] app
set_option linter.constructorNameAsVariable false
set_option linter.unusedVariables false
def firstOf (l:List Nd) (bs:List UInt8):Int :=
  if validOf l=true then ((feed (buildOf l) false (bs.map UInt8.toNat) (startM (buildOf l) true)).matched (buildOf l)).found else -1
theorem MSt.frame {H0 H H':Heap} {a cs:Nat} {ps:OA} {st:List Nd} {anch:Bool} {M:Ma} (h:MSt H0 H a ps cs st anch M) (hp:∀ j,H0 j=none→H j ≠ none→H' j=H j) (hps:Vec H' 7 ps st.length cs (flat st)) :
    MSt (beside H0 H H') H' a ps cs st anch M:=by
  obtain ⟨h1,h2,h3,h4,p1,p3,c1,b1,l3,c3,b3,t,xs,ys,k1,k2,k3,k4,k5,d1,d2,d3,d4,d5,d6,d7⟩:=h
  have n1:=k3.known blk1
  have n3:=k5.known blk1
  have ha:H a ≠ none:=by rw [k1]; simp
  refine ⟨beside_ext _ _ _,beside_priv h2 ha,hps.keep fun j hj _=>beside_some (h3.known hj),h4,p1,p3,c1,b1,l3,c3,b3,t,xs,ys,by rw [hp a h2 ha]; exact k1,
    k2.keep fun j hj hn=>hp j (d6 j hj).2.2.2.2 hn,k3.keep fun j hj hn=>?_,k4.keep fun j hj hn=>hp j (d7 j hj).2.2.2 hn,k5.keep fun j hj hn=>?_,d1,d2,d3,beside_priv d4 n1,beside_priv d5 n3,fun j hj=>?_,fun j hj=>?_⟩
  · obtain ⟨x,hx,rfl⟩:=hj; cases hx; exact hp b1 d4 hn
  · obtain ⟨x,hx,rfl⟩:=hj; cases hx; exact hp b3 d5 hn
  · obtain ⟨e1,e2,e3,e4,e5⟩:=d6 j hj
    exact ⟨e1,e2,e3,e4,beside_priv e5 (k2.known hj)⟩
  · obtain ⟨e1,e2,e3,e4⟩:=d7 j hj
    exact ⟨e1,e2,e3,beside_priv e4 (k4.known hj)⟩
end Go.Proofs.Ytaffcoiomggpfaa
/- Contracts of package nfa (1): valid,Run,pick. -/
namespace Go.Proofs.Ytaffcoiomggpfaa
open Go.V
attribute [local irreducible] app
set_option linter.constructorNameAsVariable false
set_option linter.unusedVariables false
def NV (st:List Nd):Prop:=1≤st.length∧st.length≤513∧InR st∧∀ x ∈ st,1≤x.k∧x.k≤5
attribute [local irreducible] callV
end Go.Proofs.Ytaffcoiomggpfaa
/- Contracts of package nfa (2): a search's reach and text. -/
namespace Go.Proofs.Ytaffcoiomggpfaa
open Go.V
attribute [local irreducible] app
set_option linter.constructorNameAsVariable false
set_option linter.unusedVariables false
structure Tl where
  s:Nat
  bol:Bool
  eol:Bool
  fr:Int
  b:Int
  deriving DecidableEq,Inhabited
def Tl.cells (t:Tl):List Value:=[.int .i64 (t.s:Nat),.bool t.bol,.bool t.eol,.int .i64 t.fr,.int .i64 t.b]
def spotV (s:Nat) (bol eol:Bool):Value:=.agg #[.int .i64 (s:Nat),.bool bol,.bool eol]
def Tl.spot (t:Tl):Value:=spotV t.s t.bol t.eol
def flatT (T:List Tl):List Value:=T.flatMap Tl.cells
def SeenAt (H:Heap) (mp:Nat) (T:List Tl):Prop:=∃ (es:Array MapEntry) (clk:Nat),H mp=some (.map es clk)∧es.toList.map (·.key)=T.map Tl.spot∧∀ e ∈ es.toList,e.val=.bool true
def RS (H0 H:Heap) (a mp:Nat) (ps:OA) (n cs:Nat) (T:List Tl) (pl:OA) (cl:Nat) (L:List Nat):Prop :=
  Ext H0 H∧H0 a=none∧H0 mp=none∧a ≠ mp∧(∃ (pt:OA) (ct:Nat),H a=some (.cells #[.slice ps n cs,.map (some mp),.slice pt T.length ct] 97 (0,0))∧Vec H 5 pt T.length ct (flatT T) ∧
    ∀ j,blk pt j→H0 j=none∧j ≠ a∧j ≠ mp∧¬ blk pl j)∧SeenAt H mp T∧Vec H 1 pl L.length cl (L.map natV)∧∀ j,blk pl j→H0 j=none∧j ≠ a∧j ≠ mp
theorem RS.ext {H0 H H':Heap} {a mp n cs cl:Nat} {ps pl:OA} {T:List Tl} {L:List Nat} (h:RS H0 H a mp ps n cs T pl cl L) (he:Ext H H'):RS H0 H' a mp ps n cs T pl cl L:=by
  obtain ⟨h1,h2,h3,h4,⟨pt,ct,h5,h6,h7⟩,⟨es,clk,s1,s2,s3⟩,h9,h10⟩:=h
  exact ⟨h1.trans he,h2,h3,h4,⟨pt,ct,he _ _ h5,h6.ext he,h7⟩,⟨es,clk,he _ _ s1,s2,s3⟩,h9.ext he,h10⟩
def TW (T:List Tl):Prop:=∀ i,i < T.length→(T.getD i default).fr < i∧-1≤(T.getD i default).fr∧(T.getD i default).b≤255
end Go.Proofs.Ytaffcoiomggpfaa
/- Contracts of package nfa (3): the state of Sample; what it computes. -/
namespace Go.Proofs.Ytaffcoiomggpfaa
open Go.V
attribute [local irreducible] app
set_option linter.constructorNameAsVariable false
set_option linter.unusedVariables false
structure In where
  T:List Tl
  L:List Nat
  N:List Nat
  pe:Int
/-! ### Trails -/
def Tl.code (t:Tl):Nat:=t.s * 4+(if t.bol=true then 2 else 0)+(if t.eol=true then 1 else 0)
def TOk (n:Nat) (T:List Tl):Prop:=(T.map Tl.code).Nodup∧(∀ t ∈ T,t.s < n)∧TW T
def LOk (T:List Tl) (L:List Nat):Prop:=L.Nodup∧∀ k ∈ L,k < T.length
theorem TOk.len {n:Nat} {T:List Tl} (h:TOk n T):T.length≤4 * n:=by
  have:=nodup_len (4 * n) (T.map Tl.code) h.1 fun c hc=>by
    obtain ⟨t,ht,rfl⟩:=List.mem_map.1 hc
    have:=h.2.1 t ht
    unfold Tl.code
    split <;> split <;> omega
  rwa [List.length_map] at this
theorem LOk.len {T:List Tl} {L:List Nat} (h:LOk T L):L.length≤T.length:=nodup_len _ _ h.1 h.2
theorem LOk.more {T T':List Tl} {L:List Nat} (h:LOk T L) (hl:T.length≤T'.length):LOk T' L:=⟨h.1,fun k hk=>Nat.lt_of_lt_of_le (h.2 k hk) hl⟩
open Classical in
noncomputable def swapB (B H:Heap) (pl pn:OA):Heap:=fun j=>if blk pn j then none else if blk pl j then H j else B j
theorem RS.swap {B H:Heap} {a mp n cs cl cn:Nat} {ps pl pn:OA} {T:List Tl} {L N:List Nat} (h:RS B H a mp ps n cs T pl cl L) (hn:Vec B 1 pn N.length cn (N.map natV)) :
    RS (swapB B H pl pn) H a mp ps n cs T pn cn N∧Vec (swapB B H pl pn) 1 pl L.length cl (L.map natV):=by
  obtain ⟨h1,h2,h3,h4,⟨pt,ct,h5,h6,h7⟩,hs,h9,h10⟩:=h
  have nn:∀ x,B x=none→¬ blk pn x:=fun x hx hb=>hn.known hb hx
  have eq:∀ x,B x=none→¬ blk pl x→swapB B H pl pn x=none:=fun x hx hp=>by unfold swapB; rw [if_neg (nn x hx),if_neg hp]; exact hx
  refine ⟨⟨fun x o hx=>?_,eq a h2 (fun hb=>(h10 a hb).2.1 rfl),eq mp h3 (fun hb=>(h10 mp hb).2.2 rfl),h4,⟨pt,ct,h5,h6,fun x hx=>⟨eq x (h7 x hx).1 (h7 x hx).2.2.2,(h7 x hx).2.1,(h7 x hx).2.2.1,nn x (h7 x hx).1⟩⟩,hs,hn.ext h1,fun x hx=>⟨?_,?_,?_⟩⟩,h9.keep fun x hx _=>?_⟩
  · unfold swapB at hx
    split at hx
    · cases hx
    · split at hx
      · exact hx
      · exact h1 x o hx
  · unfold swapB; rw [if_pos hx]
  · intro e; subst e; exact nn _ h2 hx
  · intro e; subst e; exact nn _ h3 hx
  · unfold swapB; rw [if_neg (nn x (h10 x hx).1),if_pos hx]
def SS (B0 B H:Heap) (a mp bl:Nat) (ps:OA) (n cs:Nat) (T:List Tl) (pl:OA) (cl:Nat) (L:List Nat) (pn:OA) (cn:Nat) (N:List Nat):Prop :=
  Ext B0 B∧RS B H a mp ps n cs T pl cl L∧B bl=some (.cells #[.slice pl L.length cl] 22 (0,0))∧B0 bl=none∧Vec B 1 pn N.length cn (N.map natV)∧∀ j,blk pn j→B0 j=none∧j ≠ bl
end Go.Proofs.Ytaffcoiomggpfaa
/- Contracts of package nfa (4): Sample. -/
namespace Go.Proofs.Ytaffcoiomggpfaa
open Go.V
attribute [local irreducible] app
set_option linter.constructorNameAsVariable false
set_option linter.unusedVariables false
def lenAt (b i:Nat) (H:Heap):Nat:=match H b with
  | some (Obj.cells c _ _)=>match c[i]? with
    | some (Value.slice _ l _)=>l
    | _=>0
  | _=>0
theorem SS.len {B0 B H:Heap} {a mp bl n cs cl cn:Nat} {ps pl pn:OA} {T:List Tl} {L N:List Nat} (h:SS B0 B H a mp bl ps n cs T pl cl L pn cn N):lenAt a 2 H=T.length∧lenAt bl 0 H=L.length:=by
  obtain ⟨h1,h2,h3,h4,h5,h6⟩:=h
  have hb:=h2.1 _ _ h3
  obtain ⟨_,_,_,_,⟨pt,ct,g5,_⟩,_⟩:=h2
  constructor
  · unfold lenAt; rw [g5]; rfl
  · unfold lenAt; rw [hb]; rfl
end Go.Proofs.Ytaffcoiomggpfaa
/- Contracts of package nfa (5): Sample,the loops. -/
namespace Go.Proofs.Ytaffcoiomggpfaa
open Go.V
attribute [local irreducible] app
set_option linter.constructorNameAsVariable false
set_option linter.unusedVariables false
end Go.Proofs.Ytaffcoiomggpfaa
/- Relations between places: package r09 (1): what they look like,empty,stay,both,then,some. -/
namespace Go.Proofs.Ytaffcoiomggpfaa
open Go.V
attribute [local irreducible] app
set_option linter.constructorNameAsVariable false
set_option linter.unusedVariables false
open Classical in
noncomputable def rowC (R:Nat→Nat→Prop) (i n:Nat):Array Value:=((List.range n).map fun k=>Value.bool (decide (R i k))).toArray
theorem rowC_size (R:Nat→Nat→Prop) (i n:Nat):(rowC R i n).size=n:=by simp [rowC]
open Classical in
theorem rowC_get {R:Nat→Nat→Prop} {i k n:Nat} (hk:k < n):(rowC R i n)[k]?=some (.bool (decide (R i k))):=by simp [rowC,hk]
theorem rowC_congr {R R':Nat→Nat→Prop} {i n:Nat} (h:∀ k,k < n→(R i k↔R' i k)):rowC R i n=rowC R' i n:=by
  unfold rowC
  congr 1
  refine List.map_congr_left fun k hk=>?_
  rw [List.mem_range] at hk
  exact congrArg Value.bool (decide_eq_decide.2 (h k hk))
def rowV (ad:Nat→Nat) (n i:Nat):Value:=.slice (some ⟨ad i,0,none⟩) n n
def rowsV (ad:Nat→Nat) (n m:Nat):List Value:=(List.range m).map (rowV ad n)
theorem rowsV_get {ad:Nat→Nat} {n m i:Nat} (h:i < m):(rowsV ad n m)[i]?=some (rowV ad n i):=by simp [rowsV,h]
def RelA (H0 H:Heap) (p:OA) (m n c:Nat) (ad:Nat→Nat) (R:Nat→Nat→Prop):Prop :=
  Ext H0 H∧Vec H 1 p m c (rowsV ad n m)∧(∀ i,i < m→H (ad i)=some (.cells (rowC R i n) 4 (0,0))∧H0 (ad i)=none∧¬ blk p (ad i))∧(∀ i j,i < m→j < m→ad i=ad j→i=j)∧∀ j,blk p j→H0 j=none
def RelH (H:Heap) (p:OA) (n c:Nat) (R:Nat→Nat→Prop):Prop:=∃ ad:Nat→Nat,Vec H 1 p n c (rowsV ad n n)∧∀ i,i < n→H (ad i)=some (.cells (rowC R i n) 4 (0,0))
theorem RelA.rel {H0 H:Heap} {p:OA} {n c:Nat} {ad:Nat→Nat} {R:Nat→Nat→Prop} (h:RelA H0 H p n n c ad R):RelH H p n c R:=⟨ad,h.2.1,fun i hi=>(h.2.2.1 i hi).1⟩
theorem RelH.ext {H H':Heap} {p:OA} {n c:Nat} {R:Nat→Nat→Prop} (h:RelH H p n c R) (he:Ext H H'):RelH H' p n c R:=by
  obtain ⟨ad,h1,h2⟩:=h
  exact ⟨ad,h1.ext he,fun i hi=>he _ _ (h2 i hi)⟩
theorem RelH.congr {H:Heap} {p:OA} {n c:Nat} {R R':Nat→Nat→Prop} (h:RelH H p n c R) (e:∀ i k,i < n→k < n→(R i k↔R' i k)):RelH H p n c R':=by
  obtain ⟨ad,h1,h2⟩:=h
  exact ⟨ad,h1,fun i hi=>by rw [← rowC_congr (R:=R) (fun k hk=>e i k hi hk)]; exact h2 i hi⟩
theorem RelA.congr {H0 H:Heap} {p:OA} {m n c:Nat} {ad:Nat→Nat} {R R':Nat→Nat→Prop} (h:RelA H0 H p m n c ad R) (e:∀ i k,i < m→k < n→(R i k↔R' i k)):RelA H0 H p m n c ad R':=by
  obtain ⟨h1,h2,h3,h4,h5⟩:=h
  exact ⟨h1,h2,fun i hi=>⟨by rw [← rowC_congr (R:=R) (fun k hk=>e i k hi hk)]; exact (h3 i hi).1,(h3 i hi).2⟩,h4,h5⟩
theorem RelA.base {H0 H1 H:Heap} {p:OA} {m n c:Nat} {ad:Nat→Nat} {R:Nat→Nat→Prop} (h:RelA H1 H p m n c ad R) (he:Ext H0 H1):RelA H0 H p m n c ad R:=by
  obtain ⟨h1,h2,h3,h4,h5⟩:=h
  exact ⟨he.trans h1,h2,fun i hi=>⟨(h3 i hi).1,he.free (h3 i hi).2.1,(h3 i hi).2.2⟩,h4,fun j hj=>he.free (h5 j hj)⟩
theorem vec_row {H:Heap} {p:OA} {m n c i:Nat} {ad:Nat→Nat} {K:OA→Nat→Nat→Prop} (h:Vec H 1 p m c (rowsV ad n m)) (hi:i < m) (hk:K (some ⟨ad i,0,none⟩) n n) :
    (0≤(i:Int)∧(i:Int) < ((m:Nat):Int))∧ptr p fun q=>ldSl (Addr.add q ((i:Int).toNat * 1)) H K:=by
  refine ⟨⟨by omega,by omega⟩,?_⟩
  obtain ⟨b,t,cs,rfl,q,g⟩:=vec_at1 h (n:=i) (rowsV_get hi)
  simp only [ptr_some,add_at,Int.toNat_natCast,Nat.mul_one,Nat.zero_add]
  exact ldSl_at q g hk
open Classical in
theorem cell_row {H:Heap} {R:Nat→Nat→Prop} {a i k n:Nat} {K:Bool→Prop} (h:H a=some (.cells (rowC R i n) 4 (0,0))) (hk:k < n) (hK:K (decide (R i k))) :
    (0≤(k:Int)∧(k:Int) < ((n:Nat):Int))∧ptr (some ⟨a,0,none⟩) fun q=>ldB (Addr.add q ((k:Int).toNat * 1)) H K:=by
  refine ⟨⟨by omega,by omega⟩,?_⟩
  simp only [ptr_some,add_at,Int.toNat_natCast,Nat.mul_one,Nat.zero_add]
  exact ldB_at h (rowC_get hk) hK
open Classical in
theorem RelH.get {H:Heap} {p:OA} {n c i k:Nat} {R:Nat→Nat→Prop} {K:Bool→Prop} (h:RelH H p n c R) (hi:i < n) (hk:k < n) (hK:K (decide (R i k))) :
    (0≤(i:Int)∧(i:Int) < ((n:Nat):Int))∧ptr p fun q=>ldSl (Addr.add q ((i:Int).toNat * 1)) H fun p' l' _ =>
      (0≤(k:Int)∧(k:Int) < ((l':Nat):Int))∧ptr p' fun q'=>ldB (Addr.add q' ((k:Int).toNat * 1)) H K:=by
  obtain ⟨ad,h1,h2⟩:=h
  exact vec_row h1 hi (cell_row (h2 i hi) hk hK)
def upd (R:Nat→Nat→Prop) (i k:Nat) (v:Bool) (i' k':Nat):Prop:=(i'=i∧k'=k∧v=true)∨(¬ (i'=i∧k'=k)∧R i' k')
theorem upd_row {R:Nat→Nat→Prop} {i k n:Nat} {v:Bool} (hk:k < n):over (rowC R i n) k [.bool v]=rowC (upd R i k v) i n:=by
  apply Array.ext
  · simp [over,rowC_size]
  · intro j h1 h2
    have e:∀ (a b:Array Value) (g1:j < a.size) (g2:j < b.size),a[j]?=b[j]?→a[j]=b[j]:=fun a b g1 g2 h=>by simpa [g1,g2] using h
    refine e _ _ h1 h2 ?_
    have hj:j < n:=by rw [rowC_size] at h2; exact h2
    rw [over_get _ _ _ _ (by rw [rowC_size]; simp; omega)]
    by_cases hjk:j=k
    · subst hjk
      rw [if_pos (by simp),rowC_get hj,Nat.sub_self]
      show some (Value.bool v)=_
      congr 2
      cases v <;> simp [upd]
    · rw [if_neg (by simp; omega),rowC_get hj,rowC_get hj]
      congr 2
      exact decide_eq_decide.2 (by simp [upd,hjk])
theorem RelA.put {H0 H:Heap} {p:OA} {m n c i k:Nat} {ad:Nat→Nat} {R:Nat→Nat→Prop} {v:Bool} {K:Heap→Prop} (h:RelA H0 H p m n c ad R) (hi:i < m) (hk:k < n)
    (hK:∀ H',RelA H0 H' p m n c ad (upd R i k v)→K H'):(0≤(k:Int)∧(k:Int) < ((n:Nat):Int))∧ptr (some ⟨ad i,0,none⟩) fun q=>wr (Addr.add q ((k:Int).toNat * 1)) [.bool v] H K:=by
  obtain ⟨h1,h2,h3,h4,h5⟩:=h
  obtain ⟨a1,a2,a3⟩:=h3 i hi
  refine ⟨⟨by omega,by omega⟩,?_⟩
  simp only [ptr_some,add_at,Int.toNat_natCast,Nat.mul_one,Nat.zero_add]
  refine wr_at a1 (by rw [rowC_size]; simp; omega) rfl ?_
  rw [upd_row hk]
  refine hK _ ⟨h1.set a2 _,h2.keep fun j hj _=>Heap.set_ne _ _ (fun e=>a3 (e ▸ hj)),fun j hj=>⟨?_,(h3 j hj).2⟩,h4,h5⟩
  by_cases e:j=i
  · subst e; exact Heap.set_self _ _ _
  · rw [Heap.set_ne _ _ (fun e'=>e (h4 j i hj hi e')),(h3 j hj).1]
    congr 2
    exact rowC_congr fun k' _=>by simp [upd,e]
theorem wrap_succ {k:Nat} (h:k≤1048576):IntKind.wrap .i64 ((k:Int)+1)=((k+1:Nat):Int):=by rw [IntWalk.i64_in _ (by omega)]; omega
end Go.Proofs.Ytaffcoiomggpfaa
/- Relations between places: package r09 (2): then,star. -/
namespace Go.Proofs.Ytaffcoiomggpfaa
open Go.V
attribute [local irreducible] app
set_option linter.constructorNameAsVariable false
set_option linter.unusedVariables false
theorem sel_cl {p:Prop} {inst:Decidable p} {X Y:Prop} (h1:p→X) (h2:¬ p→Y):sel (@decide p inst) X Y :=
  sel_mk (fun h=>h1 (by simpa using h)) (fun h=>h2 (by simpa using h))
def War (R:Nat→Nat→Prop):Nat→Nat→Nat→Prop
  | 0,i,k=>R i k
  | j+1,i,k=>War R j i k∨(War R j i j∧War R j j k)
theorem War.trans (R:Nat→Nat→Prop):∀ (j m i k:Nat),m < j→War R j i m→War R j m k→War R j i k
  | 0,m,i,k,h,_,_=>by omega
  | j+1,m,i,k,h,h1,h2=>by
    unfold War at h1 h2 ⊢
    by_cases e:m=j
    · subst e
      exact .inr ⟨h1.elim id (·.1),h2.elim id (·.2)⟩
    · have T:=fun a b=>War.trans R j m a b (by omega)
      rcases h1 with h1 | ⟨h1,h3⟩ <;> rcases h2 with h2 | ⟨h2,h4⟩
      · exact .inl (T _ _ h1 h2)
      · exact .inr ⟨T _ _ h1 h2,h4⟩
      · exact .inr ⟨h1,T _ _ h3 h2⟩
      · exact .inr ⟨h1,h4⟩
theorem War.mono (R:Nat→Nat→Prop) {i k:Nat} (h:R i k):∀ j,War R j i k
  | 0=>h
  | j+1=>.inl (War.mono R h j)
theorem Star.trans {R:Nat→Nat→Prop} {i j k:Nat} (h:Star R i j) (h2:Star R j k):Star R i k:=by
  induction h with
  | none=>exact h2
  | more h1 _ ih=>exact .more h1 (ih h2)
end Go.Proofs.Ytaffcoiomggpfaa
