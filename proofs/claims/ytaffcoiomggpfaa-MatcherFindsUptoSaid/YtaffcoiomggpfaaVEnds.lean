import Derived.Test.YtaffcoiomggpfaaVAuto2
import Derived.Test.YtaffcoiomggpfaaVNode
import Derived.Test.YtaffcoiomggpfaaFr08
import Derived.Test.YtaffcoiomggpfaaVRel2
import Derived.Test.YtaffcoiomggpfaaVRegex
/- Valid and its reference: the sizes and the tree say the same. -/
namespace Go.Proofs.Ytaffcoiomggpfaa
open Go.V
set_option linter.unusedVariables false
def setZ (x:Nd):Bool:=decide (x.a=0∧x.b=0∧x.c=0∧x.d=0)
def treeN:Nat→List Nd→Int→Int
  | 0,_,_=>-1
  | f+1,l,n =>
    if n < 0 then -1
    else if (l.getD n.toNat default).k < 1∨9 < (l.getD n.toNat default).k∨(l.getD n.toNat default).k ≠ 2∧setZ (l.getD n.toNat default)=false then -1
    else if kids2 (l.getD n.toNat default).k < 2∧(l.getD n.toNat default).r ≠ 0∨kids2 (l.getD n.toNat default).k < 1∧(l.getD n.toNat default).l ≠ 0 then -1
    else if kids2 (l.getD n.toNat default).k=0 then n
    else if kids2 (l.getD n.toNat default).k=2 then
      if (l.getD n.toNat default).r ≠ n - 1 then -1
      else if treeN f l (n - 1) - 1 < 0∨(l.getD n.toNat default).l ≠ treeN f l (n - 1) - 1 then -1 else treeN f l (treeN f l (n - 1) - 1)
    else if n - 1 < 0∨(l.getD n.toNat default).l ≠ n - 1 then -1 else treeN f l (n - 1)
theorem kids_eq {k:Int} (h:¬ k < 1) (h':¬ 9 < k):kidsOf k=kids2 k∧(kids2 k=0∨kids2 k=1∨kids2 k=2):=by
  have:k=1∨k=2∨k=3∨k=4∨k=5∨k=6∨k=7∨k=8∨k=9:=by omega
  rcases this with rfl | rfl | rfl | rfl | rfl | rfl | rfl | rfl | rfl <;> decide
theorem kids_no {k:Int} (h:k < 1∨9 < k):kidsOf k=-1:=by
  unfold kidsOf; rw [if_neg (by omega),if_neg (by omega),if_neg (by omega)]
theorem vsteps_snoc:∀ (a:List Nd) (sz:List Int) (x:Nd),vsteps sz (a++[x])=(vsteps sz a).bind fun s=>vstep s x
  | [],sz,x=>by
    show (match vstep sz x with | none=>none | some sz'=>some sz')=vstep sz x
    cases vstep sz x <;> rfl
  | y :: a,sz,x=>by
    show (match vstep sz y with | none=>none | some sz'=>vsteps sz' (a++[x]))=(match vstep sz y with | none=>none | some sz'=>vsteps sz' a).bind fun s=>vstep s x
    cases vstep sz y with
    | none=>rfl
    | some s=>exact vsteps_snoc a s x
theorem vsteps_next {l:List Nd} {n:Nat} {x:Nd} (hx:l[n]?=some x):vsteps [] (l.take (n+1))=(vsteps [] (l.take n)).bind fun s=>vstep s x:=by
  rw [List.take_add_one,hx]; exact vsteps_snoc _ _ _
theorem vstep_some {sz sz':List Int} {x:Nd} (h:vstep sz x=some sz'):(x.k=2∨setZ x=true) ∧
    (kidsOf x.k=0∧x.l=0∧x.r=0∧sz'=sz++[1] ∨
     kidsOf x.k=2∧1≤sz.length∧x.r=(sz.length:Int) - 1∧0≤x.l∧x.l=(sz.length:Int) - (1+sz.getD ((sz.length:Int) - 1).toNat 0)∧sz'=sz++[1+sz.getD ((sz.length:Int) - 1).toNat 0+sz.getD x.l.toNat 0] ∨
     kidsOf x.k=1∧1≤sz.length∧x.l=(sz.length:Int) - 1∧x.r=0∧sz'=sz++[1+sz.getD ((sz.length:Int) - 1).toNat 0]):=by
  unfold vstep at h
  dsimp only at h
  split at h
  · cases h
  rename_i hs
  refine ⟨by unfold setZ; by_cases h2 : x.k = 2
             · exact .inl h2
             · exact .inr (decide_eq_true (by by_cases hz : x.a = 0 ∧ x.b = 0 ∧ x.c = 0 ∧ x.d = 0
                                              · exact hz
                                              · exact absurd ⟨h2,hz⟩ hs)),?_⟩
  split at h
  · split at h
    · rename_i h0 hlr
      cases h; exact .inl ⟨h0,hlr.1,hlr.2,rfl⟩
    · cases h
  split at h
  · split at h
    · cases h
    split at h
    · cases h
    split at h
    · rename_i h2 g1 g2 g3
      cases h
      exact .inr (.inl ⟨h2,by omega,g3.2,by omega,g3.1,by rw [g3.1]⟩)
    · cases h
  split at h
  · split at h
    · cases h
    split at h
    · rename_i h1 g1 g2
      cases h
      exact .inr (.inr ⟨h1,by omega,g2.1,g2.2,rfl⟩)
    · cases h
  · cases h
theorem vstep_app {sz sz':List Int} {x:Nd} (h:vstep sz x=some sz'):∃ v,sz'=sz++[v]:=by
  rcases (vstep_some h).2 with ⟨_,_,_,e⟩ | ⟨_,_,_,_,_,e⟩ | ⟨_,_,_,_,e⟩
  · exact ⟨_,e⟩
  · exact ⟨_,e⟩
  · exact ⟨_,e⟩
theorem vsteps_len {l:List Nd}:∀ (n:Nat) (sz:List Int),n≤l.length→vsteps [] (l.take n)=some sz→sz.length=n
  | 0,sz,_,h=>by
    have:some []=some sz:=by rw [List.take_zero] at h; exact h
    cases this; rfl
  | n+1,sz,hn,h=>by
    have hx:l[n]?=some l[n]:=List.getElem?_eq_getElem hn
    rw [vsteps_next hx] at h
    cases h0:vsteps [] (l.take n) with
    | none=>rw [h0] at h; cases h
    | some s =>
      rw [h0] at h
      obtain ⟨v,rfl⟩:=vstep_app h
      rw [List.length_append,vsteps_len n s (by omega) h0]; rfl
theorem vsteps_take {l:List Nd} {sz:List Int}:∀ (d n:Nat),n+d≤l.length→vsteps [] (l.take (n+d))=some sz→vsteps [] (l.take n)=some (sz.take n)
  | 0,n,hn,h=>by
    have h:vsteps [] (l.take n)=some sz:=h
    rw [h,List.take_of_length_le (by rw [vsteps_len n sz hn h]; exact Nat.le_refl _)]
  | d+1,n,hn,h=>by
    have hx:l[n+d]?=some (l[n+d]'(by omega)):=List.getElem?_eq_getElem (by omega)
    rw [show n+(d+1)=(n+d)+1 from rfl,vsteps_next hx] at h
    cases h0:vsteps [] (l.take (n+d)) with
    | none=>rw [h0] at h; cases h
    | some s =>
      rw [h0] at h
      obtain ⟨v,rfl⟩:=vstep_app h
      have hl:=vsteps_len (n+d) s (by omega) h0
      rw [List.take_append_of_le_length (by omega)]
      exact vsteps_take d n (by omega) h0
theorem getD_take {a:List Int} {n j:Nat} (h:j < n):(a.take n).getD j 0=a.getD j 0:=by
  rw [List.getD_eq_getElem?_getD,List.getD_eq_getElem?_getD,List.getElem?_take_of_lt h]
theorem getD_snoc {a:List Int} {v:Int} {n:Nat} (h:a.length=n):(a++[v]).getD n 0=v:=by subst h; simp [List.getD_eq_getElem?_getD]
theorem tree_of {l:List Nd}:∀ (n f:Nat) (sz:List Int),n < f→n < l.length→vsteps [] (l.take (n+1))=some sz→treeN f l n=n - sz.getD n 0+1∧1≤sz.getD n 0∧sz.getD n 0≤n+1:=by
  intro n
  induction n using Nat.strongRecOn with
  | _ n ih =>
    intro f sz hf hn h
    cases f with
    | zero=>omega
    | succ f =>
      have hx:l[n]?=some l[n]:=List.getElem?_eq_getElem hn
      have hxd:l.getD n default=l[n]:=by rw [List.getD_eq_getElem?_getD,hx]; rfl
      have hfull:=h
      rw [vsteps_next hx] at h
      cases h0:vsteps [] (l.take n) with
      | none=>rw [h0] at h; cases h
      | some s =>
        rw [h0] at h
        have hl:=vsteps_len n s (by omega) h0
        have early:∀ m,m < n→∀ f,m < f→treeN f l m=m - s.getD m 0+1∧1≤s.getD m 0∧s.getD m 0≤m+1:=fun m hm f hmf=>by
          have h2:=vsteps_take (l:=l) (sz:=s) (n - (m+1)) (m+1) (by omega) (by rw [show m+1+(n - (m+1))=n by omega]; exact h0)
          have:=ih m hm f (s.take (m+1)) hmf (by omega) h2
          rw [getD_take (by omega)] at this; exact this
        obtain ⟨g1,g2⟩:=vstep_some h
        have hk19:¬ l[n].k < 1∧¬ 9 < l[n].k:=by
          constructor
          · intro hk
            have:=kids_no (k:=l[n].k) (.inl hk)
            rcases g2 with ⟨e,_⟩ | ⟨e,_⟩ | ⟨e,_⟩ <;> omega
          · intro hk
            have:=kids_no (k:=l[n].k) (.inr hk)
            rcases g2 with ⟨e,_⟩ | ⟨e,_⟩ | ⟨e,_⟩ <;> omega
        obtain ⟨ke,_⟩:=kids_eq hk19.1 hk19.2
        unfold treeN
        rw [if_neg (show ¬ (n:Int) < 0 by omega),Int.toNat_natCast,hxd]
        rw [if_neg (show ¬ (l[n].k < 1∨9 < l[n].k∨l[n].k ≠ 2∧setZ l[n]=false) by
          rintro (h | h | ⟨h,h'⟩)
          · exact hk19.1 h
          · exact hk19.2 h
          · rcases g1 with g1 | g1
            · exact h g1
            · rw [g1] at h'; cases h')]
        rcases g2 with ⟨e1,e2,e3,e4⟩ | ⟨e1,e2,e3,e4,e5,e6⟩ | ⟨e1,e2,e3,e4,e5⟩
        · rw [if_neg (by omega),if_pos (by omega)]
          rw [e4,getD_snoc hl]; omega
        · rw [hl] at e2 e3 e5 e6
          have hn1:((n:Int) - 1)=((n - 1:Nat):Int):=by omega
          obtain ⟨a1,a2,a3⟩:=early (n - 1) (by omega) f (by omega)
          rw [hn1,Int.toNat_natCast] at e5 e6
          have hm:l[n].l=((l[n].l.toNat:Nat):Int):=by omega
          obtain ⟨b1,b2,b3⟩:=early l[n].l.toNat (by omega) f (by omega)
          rw [if_neg (by omega),if_neg (by omega),if_pos (by omega),if_neg (by omega),hn1,a1]
          have hlast:((n - 1:Nat):Int) - s.getD (n - 1) 0+1 - 1=l[n].l:=by omega
          rw [hlast,if_neg (by omega),hm,b1]
          have hsz:sz.getD n 0=1+s.getD (n - 1) 0+s.getD l[n].l.toNat 0:=by rw [e6]; exact getD_snoc hl
          rw [hsz]
          omega
        · rw [hl] at e2 e3 e5
          have hn1:((n:Int) - 1)=((n - 1:Nat):Int):=by omega
          obtain ⟨a1,a2,a3⟩:=early (n - 1) (by omega) f (by omega)
          rw [hn1,Int.toNat_natCast] at e5
          rw [if_neg (by omega),if_neg (by omega),if_neg (by omega),if_neg (by omega),hn1,a1]
          have hsz:sz.getD n 0=1+s.getD (n - 1) 0:=by rw [e5]; exact getD_snoc hl
          rw [hsz]
          omega
theorem of_tree {l:List Nd}:∀ (n f:Nat) (F:Int),n < f→n < l.length→treeN f l n=F→0≤F→F≤n∧∀ s0,vsteps [] (l.take F.toNat)=some s0 →
    ∃ sz,vsteps [] (l.take (n+1))=some sz∧sz.getD n 0=n - F+1:=by
  intro n
  induction n using Nat.strongRecOn with
  | _ n ih =>
    intro f F hf hn h hF
    cases f with
    | zero=>omega
    | succ f =>
      have hx:l[n]?=some l[n]:=List.getElem?_eq_getElem hn
      have hxd:l.getD n default=l[n]:=by rw [List.getD_eq_getElem?_getD,hx]; rfl
      unfold treeN at h
      rw [if_neg (show ¬ (n:Int) < 0 by omega),Int.toNat_natCast,hxd] at h
      by_cases c1:l[n].k < 1∨9 < l[n].k∨l[n].k ≠ 2∧setZ l[n]=false
      · rw [if_pos c1] at h; omega
      rw [if_neg c1] at h
      by_cases c2:kids2 l[n].k < 2∧l[n].r ≠ 0∨kids2 l[n].k < 1∧l[n].l ≠ 0
      · rw [if_pos c2] at h; omega
      rw [if_neg c2] at h
      obtain ⟨ke,kk⟩:=kids_eq (k:=l[n].k) (by omega) (by omega)
      have hset:¬ (l[n].k ≠ 2∧¬ (l[n].a=0∧l[n].b=0∧l[n].c=0∧l[n].d=0)):=by
        rintro ⟨q1,q2⟩
        exact c1 (.inr (.inr ⟨q1,by unfold setZ; exact decide_eq_false q2⟩))
      -- the step at n,from the sizes before it
      have step:∀ s v,vsteps [] (l.take n)=some s→s.length=n→vstep s l[n]=some (s++[v])→v=n - F+1→∃ sz,vsteps [] (l.take (n+1))=some sz∧sz.getD n 0=n - F+1:=by
        intro s v hs hl hv he
        refine ⟨s++[v],?_,by rw [getD_snoc hl]; exact he⟩
        rw [vsteps_next hx,hs]; exact hv
      by_cases c3:kids2 l[n].k=0
      · rw [if_pos c3] at h
        subst h
        refine ⟨Int.le_refl _,fun s0 hs=>?_⟩
        rw [Int.toNat_natCast] at hs
        refine step s0 1 hs (vsteps_len n s0 (by omega) hs) ?_ (by omega)
        unfold vstep
        dsimp only
        rw [if_neg hset,if_pos (by omega),if_pos ⟨by omega,by omega⟩]
      rw [if_neg c3] at h
      by_cases c4:kids2 l[n].k=2
      · rw [if_pos c4] at h
        by_cases c5:l[n].r ≠ (n:Int) - 1
        · rw [if_pos c5] at h; omega
        rw [if_neg c5] at h
        generalize hG:treeN f l ((n:Int) - 1)=G at h
        by_cases c6:G - 1 < 0∨l[n].l ≠ G - 1
        · rw [if_pos c6] at h; omega
        rw [if_neg c6] at h
        have hn0:1≤n:=by
          by_cases hz:n=0
          · subst hz
            have:G=-1:=by
              rw [← hG]
              cases f with
              | zero=>rfl
              | succ f=>unfold treeN; rw [if_pos (by omega)]
            omega
          · omega
        have hn1:((n:Int) - 1)=((n - 1:Nat):Int):=by omega
        rw [hn1] at hG
        obtain ⟨a1,a2⟩:=ih (n - 1) (by omega) f G (by omega) (by omega) hG (by omega)
        have hm:G - 1=(((G - 1).toNat:Nat):Int):=by omega
        rw [hm] at h
        obtain ⟨b1,b2⟩:=ih (G - 1).toNat (by omega) f F (by omega) (by omega) h hF
        refine ⟨by omega,fun s0 hs=>?_⟩
        obtain ⟨sm,m1,m2⟩:=b2 s0 hs
        obtain ⟨s,k1,k2⟩:=a2 sm (by rw [show G.toNat=(G - 1).toNat+1 by omega]; exact m1)
        rw [show n - 1+1=n by omega] at k1
        have hl:=vsteps_len n s (by omega) k1
        have hpre:=vsteps_take (l:=l) (sz:=s) (n - ((G - 1).toNat+1)) ((G - 1).toNat+1) (by omega) (by rw [show (G - 1).toNat+1+(n - ((G - 1).toNat+1))=n by omega]; exact k1)
        have hsm:s.getD (G - 1).toNat 0=sm.getD (G - 1).toNat 0:=by
          rw [m1] at hpre
          rw [Option.some.inj hpre,getD_take (by omega)]
        refine step s (1+s.getD (n - 1) 0+s.getD (G - 1).toNat 0) k1 hl ?_ (by rw [hsm,m2,k2]; omega)
        unfold vstep
        dsimp only
        rw [hl,hn1,Int.toNat_natCast]
        rw [if_neg hset,if_neg (by omega),if_pos (by omega),if_neg (by omega),if_neg (by omega),if_pos ⟨by omega,by omega⟩]
        rw [show (n:Int) - (1+s.getD (n - 1) 0)=G - 1 by omega]
      · rw [if_neg c4] at h
        by_cases c6:(n:Int) - 1 < 0∨l[n].l ≠ (n:Int) - 1
        · rw [if_pos c6] at h; omega
        rw [if_neg c6] at h
        have hn1:((n:Int) - 1)=((n - 1:Nat):Int):=by omega
        rw [hn1] at h
        obtain ⟨a1,a2⟩:=ih (n - 1) (by omega) f F (by omega) (by omega) h hF
        refine ⟨by omega,fun s0 hs=>?_⟩
        obtain ⟨s,k1,k2⟩:=a2 s0 hs
        rw [show n - 1+1=n by omega] at k1
        have hl:=vsteps_len n s (by omega) k1
        refine step s (1+s.getD (n - 1) 0) k1 hl ?_ (by rw [k2]; omega)
        unfold vstep
        dsimp only
        rw [hl,hn1,Int.toNat_natCast]
        rw [if_neg hset,if_neg (by omega),if_neg (by omega),if_pos (by omega),if_neg (by omega),if_pos ⟨by omega,by omega⟩]
theorem treeN_le (l:List Nd):∀ (f:Nat) (n:Int),treeN f l n=-1∨0≤treeN f l n∧treeN f l n≤n
  | 0,_=>.inl rfl
  | f+1,n=>by
    unfold treeN
    split
    · exact .inl rfl
    split
    · exact .inl rfl
    split
    · exact .inl rfl
    split
    · exact .inr ⟨by omega,Int.le_refl _⟩
    split
    · split
      · exact .inl rfl
      · have h1:=treeN_le l f (n - 1)
        split
        · exact .inl rfl
        · rcases treeN_le l f (treeN f l (n - 1) - 1) with h | ⟨h,h'⟩
          · exact .inl h
          · exact .inr ⟨h,by omega⟩
    · split
      · exact .inl rfl
      · rcases treeN_le l f (n - 1) with h | ⟨h,h'⟩
        · exact .inl h
        · exact .inr ⟨h,by omega⟩
def rValid (l:List Nd):Bool:=decide (1≤l.length) && decide (l.length≤256) && decide (treeN 300 l ((l.length:Int) - 1)=0)
theorem valid_eq (l:List Nd):validOf l=rValid l:=by
  unfold rValid
  cases l with
  | nil=>rfl
  | cons x l =>
    have hval:validOf (x :: l)=if 256 < (x :: l).length then false else match vsteps [] (x :: l) with
      | none=>false
      | some sz=>decide (sz.getD ((x :: l).length - 1) 0=(x :: l).length):=rfl
    rw [hval]
    generalize hL:x :: l=L
    have hpos:0 < L.length:=by rw [← hL]; simp
    by_cases hb:256 < L.length
    · rw [if_pos hb,decide_eq_false (show ¬ L.length≤256 by omega)]; simp
    rw [if_neg hb,decide_eq_true (show 1≤L.length by omega),decide_eq_true (show L.length≤256 by omega),Bool.true_and,Bool.true_and]
    have hn1:((L.length:Int) - 1)=((L.length - 1:Nat):Int):=by omega
    have hfull:vsteps [] (L.take (L.length - 1+1))=vsteps [] L:=by rw [show L.length - 1+1=L.length by omega,List.take_length]
    rw [hn1]
    cases hv:vsteps [] L with
    | some sz =>
      dsimp only
      obtain ⟨a1,a2,a3⟩:=tree_of (l:=L) (L.length - 1) 300 sz (by omega) (by omega) (by rw [hfull,hv])
      rw [a1]
      by_cases he:sz.getD (L.length - 1) 0=L.length
      · rw [decide_eq_true he,decide_eq_true (by omega)]
      · rw [decide_eq_false he,decide_eq_false (by omega)]
    | none =>
      dsimp only
      refine (decide_eq_false fun h=>?_).symm
      obtain ⟨sz,h1,_⟩:=(of_tree (l:=L) (L.length - 1) 300 0 (by omega) (by omega) h (Int.le_refl _)).2 [] rfl
      rw [hfull,hv] at h1
      cases h1
end Go.Proofs.Ytaffcoiomggpfaa
/- Contract of jobmuxref08.Kids. -/
namespace Go.Proofs.Ytaffcoiomggpfaa
open Go.V
attribute [local irreducible] app
set_option linter.constructorNameAsVariable false
set_option linter.unusedVariables false
theorem Kids2_c {H:Heap} {k:Int} {Q:QT} {E:ET} (hk:Q (.int .i64 (kids2 k)) H):Does Pr 42 #[.int .i64 k] H Q E:=by
  refine zqc_fn _ Q E H ?_
  unfold zqc zqc_16 zqc_12 zqc_10
  have k2:(k=3∨k=4)→zqc_3 Q E H:=fun h=>by
    unfold zqc_3; unfold kids2 at hk; rw [if_pos h] at hk; exact hk
  have k1:¬ (k=3∨k=4)→(k=5∨k=6∨k=7)→Q (.int .i64 1) H:=fun h h'=>by
    unfold kids2 at hk; rw [if_neg h,if_pos h'] at hk; exact hk
  have k0:¬ (k=3∨k=4)→¬ (k=5∨k=6∨k=7)→zqc_1 Q E H:=fun h h'=>by
    unfold zqc_1; unfold kids2 at hk; rw [if_neg h,if_neg h'] at hk; exact hk
  unfold zqc_7 zqc_5
  repeat' (refine sel_beq (fun _=>?_) (fun _=>?_))
  all_goals first | exact k2 (by omega) | exact k1 (by omega) (by omega) | exact k0 (by omega) (by omega) | (exfalso; omega)
end Go.Proofs.Ytaffcoiomggpfaa
/- Contracts of package jobmuxref08: tree,Valid. -/
namespace Go.Proofs.Ytaffcoiomggpfaa
open Go.V
attribute [local irreducible] app
set_option linter.unusedVariables false
theorem eqZ (x:Nd):eqVs [.int .u64 x.a,.int .u64 x.b,.int .u64 x.c,.int .u64 x.d] [.int .u64 0,.int .u64 0,.int .u64 0,.int .u64 0]=setZ x:=by
  simp only [eqVs,eqV,Bool.and_true,setZ]
  rw [Bool.eq_iff_iff]; simp
theorem tree_c {p:OA} {c:Nat} {l:List Nd} {E:Chain→Heap→Prop} (hs:l.length≤4096):∀ (f:Nat) (n:Int) (H:Heap) (Q:Value→Heap→Prop),n < f→n < l.length→Nds H p l →
    (∀ H',Ext H H'→Q (.int .i64 (treeN f l n)) H')→Does Pr 75 #[.slice p l.length c,.int .i64 n] H Q E
  | 0,n,H,Q,hf,hn,hv,hk=>by
    refine zqg_fn _ _ _ _ Q E H ?_
    unfold zqg zqg_46
    exact sel_dec (fun _=>hk H (.refl H)) (fun hd=>by omega)
  | f+1,n,H,Q,hf,hn,hv,hk=>by
    refine zqg_fn _ _ _ _ Q E H ?_
    unfold zqg zqg_46
    unfold treeN at hk
    refine sel_dec (fun hd=>?_) (fun hd=>?_)
    · rw [if_pos (by omega)] at hk; exact hk H (.refl H)
    rw [if_neg (by omega)] at hk
    have hlt:n.toNat < l.length:=by omega
    have hx:l[n.toNat]?=some l[n.toNat]:=List.getElem?_eq_getElem hlt
    have hxd:l.getD n.toNat default=l[n.toNat]:=by rw [List.getD_eq_getElem?_getD,hx]; rfl
    rw [hxd] at hk
    obtain ⟨a,rfl,hrd⟩:=hv _ _ hx
    revert hk hrd
    generalize l[n.toNat]=x
    intro hk hrd
    unfold zqg_43
    simp only [ptr_some]
    refine ⟨⟨by omega,by omega⟩,_,_,_,_,_,_,_,hrd,?_⟩
    refine nw_ext fun i H1 hi he1 hc1=>?_
    refine wr_new hc1 (by simp) rfl (c':=x.cells.toArray) rfl fun H2 hc2 hb2=>?_
    have he2:Ext H H2:=fun j o hj=>by rw [hb2 j (fun e=>by rw [e,hi] at hj; cases hj)]; exact he1 j o hj
    have hv2:=hv.ext he2
    have bad:∀ H',Ext H2 H'→(x.k < 1∨9 < x.k∨x.k ≠ 2∧setZ x=false)→Q (.int .i64 (-1)) H':=fun H' he h=>by
      rw [if_pos h] at hk; exact hk H' (he2.trans he)
    -- from the kids on
    have rest:¬ (x.k < 1∨9 < x.k∨x.k ≠ 2∧setZ x=false)→zqg_37 Q E (some a) l.length c n (some ⟨i,0,none⟩) false H2:=fun hok=>by
      rw [if_neg hok] at hk
      unfold zqg_37
      refine sel_ff ?_
      unfold zqg_34
      simp only [ptr_some]
      refine ldI_at (n:=x.k) hc2 rfl (Kids2_c ⟨_,rfl,?_⟩)
      obtain ⟨_,kk⟩:=kids_eq (k:=x.k) (by omega) (by omega)
      have good:¬ (kids2 x.k < 2∧x.r ≠ 0∨kids2 x.k < 1∧x.l ≠ 0)→zqg_28 Q E (some a) l.length c n (some ⟨i,0,none⟩) (kids2 x.k) false H2:=fun hg=>by
        rw [if_neg hg] at hk
        unfold zqg_28
        refine sel_ff ?_
        unfold zqg_25
        refine sel_beq (fun h0=>?_) (fun h0=>?_)
        · rw [if_pos h0] at hk; exact hk H2 he2
        rw [if_neg h0] at hk
        unfold zqg_22
        rw [IntWalk.i64_in (n - 1) (by omega)]
        unfold zqg_18 zqg_16
        refine sel_beq (fun h2=>?_) (fun h2=>?_)
        · rw [if_pos h2] at hk
          unfold zqg_11
          simp only [ptr_some,add_at,Nat.zero_add]
          refine ldI_at (n:=x.r) hc2 rfl ?_
          refine sel_bne (fun hne=>?_) (fun heq=>?_)
          · rw [if_pos hne] at hk; exact hk H2 he2
          rw [if_neg (by omega)] at hk
          unfold zqg_9
          refine tree_c hs f (n - 1) H2 _ (by omega) (by omega) hv2 fun H3 he3=>⟨_,rfl,?_⟩
          have hb:=treeN_le l f (n - 1)
          generalize treeN f l (n - 1)=G at hk hb
          rw [IntWalk.i64_in (G - 1) (by omega)]
          unfold zqg_5
          refine sel_dec (fun hd2=>?_) (fun hd2=>?_)
          · rw [if_pos (.inl hd2)] at hk
            unfold zqg_3
            exact sel_tt (hk H3 (he2.trans he3))
          simp only [ptr_some,add_at,Nat.zero_add]
          refine ldI_at (n:=x.l) (he3 _ _ hc2) rfl ?_
          unfold zqg_3
          refine sel_bne (fun hne=>?_) (fun heq2=>?_)
          · rw [if_pos (.inr hne)] at hk; exact hk H3 (he2.trans he3)
          rw [if_neg (by omega)] at hk
          unfold zqg_1
          refine tree_c hs f (G - 1) H3 _ (by omega) (by omega) (hv2.ext he3) fun H4 he4=>⟨_,rfl,?_⟩
          exact hk H4 ((he2.trans he3).trans he4)
        · rw [if_neg h2] at hk
          unfold zqg_14 zqg_5
          refine sel_dec (fun hd2=>?_) (fun hd2=>?_)
          · rw [if_pos (.inl hd2)] at hk
            unfold zqg_3
            exact sel_tt (hk H2 he2)
          simp only [ptr_some,add_at,Nat.zero_add]
          refine ldI_at (n:=x.l) hc2 rfl ?_
          unfold zqg_3
          refine sel_bne (fun hne=>?_) (fun heq2=>?_)
          · rw [if_pos (.inr hne)] at hk; exact hk H2 he2
          rw [if_neg (by omega)] at hk
          unfold zqg_1
          refine tree_c hs f (n - 1) H2 _ (by omega) (by omega) hv2 fun H4 he4=>⟨_,rfl,?_⟩
          exact hk H4 (he2.trans he4)
      have wrong:(kids2 x.k < 2∧x.r ≠ 0∨kids2 x.k < 1∧x.l ≠ 0)→zqg_28 Q E (some a) l.length c n (some ⟨i,0,none⟩) (kids2 x.k) true H2:=fun hg=>by
        rw [if_pos hg] at hk
        unfold zqg_28
        exact sel_tt (hk H2 he2)
      have last:∀ b:Bool,(b=true↔(kids2 x.k < 2∧x.r ≠ 0∨kids2 x.k < 1∧x.l ≠ 0))→zqg_28 Q E (some a) l.length c n (some ⟨i,0,none⟩) (kids2 x.k) b H2:=fun b hb=>by
        cases b with
        | true=>exact wrong (hb.1 rfl)
        | false=>exact good (fun h=>absurd (hb.2 h) (by decide))
      unfold zqg_30
      refine sel_dec (fun hd1=>?_) (fun hd1=>?_)
      · simp only [ptr_some,add_at,Nat.zero_add]
        refine ldI_at (n:=x.r) hc2 rfl ?_
        refine sel_bne (fun hne=>wrong (.inl ⟨hd1,hne⟩)) (fun heq=>?_)
        refine sel_dec (fun hd2=>?_) (fun hd2=>good (by omega))
        refine ldI_at (n:=x.l) hc2 rfl (last _ ?_)
        simp only [bne_iff_ne,ne_eq]; omega
      · refine sel_dec (fun hd2=>by omega) (fun hd2=>good (by omega))
    unfold zqg_39
    simp only [ptr_some]
    refine ldI_at (n:=x.k) hc2 rfl ?_
    refine sel_dec (fun hd1=>?_) (fun hd1=>?_)
    · unfold zqg_37; exact sel_tt (bad H2 (.refl _) (.inl hd1))
    refine ldI_at (n:=x.k) hc2 rfl ?_
    refine sel_dec (fun hd2=>?_) (fun hd2=>?_)
    · unfold zqg_37; exact sel_tt (bad H2 (.refl _) (.inr (.inl (by omega))))
    refine ldI_at (n:=x.k) hc2 rfl ?_
    refine sel_bne (fun hne=>?_) (fun heq=>rest (by omega))
    refine ⟨x.a,x.b,x.c,x.d,?_,?_⟩
    · rw [add_at]
      exact rd_at hc2 _ _ 0 (fun j hj=>by
        have hj:j < 4:=hj
        rcases (by omega:j=0∨j=1∨j=2∨j=3) with rfl | rfl | rfl | rfl <;> rfl)
    rw [eqZ]
    cases hz:setZ x with
    | true => exact rest (by rintro (h | h | ⟨h, h'⟩); · omega
                             · omega
                             · rw [hz] at h'; cases h')
    | false =>
      show zqg_37 Q E (some a) l.length c n (some ⟨i,0,none⟩) true H2
      unfold zqg_37; exact sel_tt (bad H2 (.refl _) (.inr (.inr ⟨hne,hz⟩)))
theorem rValid_c {H:Heap} {p:OA} {c:Nat} {l:List Nd} {Q:QT} {E:ET} (hs:l.length≤1048576) (hv:Nds H p l)
    (hk:∀ H',Ext H H'→Q (.bool (validOf l)) H'):Does Pr 41 #[.slice p l.length c] H Q E:=by
  rw [valid_eq] at hk
  unfold rValid at hk
  refine zqb_fn _ _ _ Q E H ?_
  unfold zqb
  refine sel_dec (fun h1=>?_) (fun h1=>?_)
  · rw [decide_eq_true (show 1≤l.length by omega),Bool.true_and] at hk
    refine sel_dec (fun h2=>?_) (fun h2=>?_)
    · rw [decide_eq_true (show l.length≤256 by omega),Bool.true_and] at hk
      rw [IntWalk.i64_in (((l.length:Nat):Int) - 1) (by omega)]
      refine tree_c (by omega) 300 _ H _ (by omega) (by omega) hv fun H' he=>⟨_,rfl,?_⟩
      exact hk H' he
    · rw [decide_eq_false (show ¬ l.length≤256 by omega),Bool.false_and] at hk
      exact hk H (.refl H)
  · rw [decide_eq_false (show ¬ 1≤l.length by omega),Bool.false_and] at hk
    exact hk H (.refl H)
end Go.Proofs.Ytaffcoiomggpfaa
/- Contracts of package jobmuxref08 (1): sets,kinds,lists. -/
namespace Go.Proofs.Ytaffcoiomggpfaa
open Go.V
attribute [local irreducible] app
set_option linter.constructorNameAsVariable false
set_option linter.unusedVariables false
theorem With_c {H:Heap} {s:S4} {b:Nat} {Q:QT} {E:ET} (hb:b≤255)
    (hk:∀ H',Ext H H'→Q (.agg (s.with1 b).cells) H'):Does Pr 108 #[.agg s.cells,.int .u8 b] H Q E:=by
  refine zqp_fn _ _ _ _ _ Q E H ?_
  unfold zqp
  refine nw_ext fun i H1 hi he1 hc1=>?_
  refine nw_ext fun j H2 hj he2 hc2=>?_
  have hij:i ≠ j:=ne_of hc1 hj
  have hc1:H1 i=some (.cells s.cells 46 (0,0)):=hc1
  have hc2:H2 j=some (.cells S4.zero.cells 46 (0,0)):=hc2
  have hx:IntKind.wrap .u8 (Int.tdiv (b:Int) 64)=((b / 64:Nat):Int):=u8_nat (b / 64) (by omega)
  have hm:Int.tmod (b:Int) 64=((b % 64:Nat):Int):=rfl
  have h4:b / 64 < 4:=by omega
  rw [hx,hm]
  simp only [add_at,Int.toNat_natCast,Nat.mul_one,Nat.zero_add]
  refine ⟨by decide,by decide,⟨by omega,by omega⟩,ldI_at (he2 _ _ hc1) (S4.cells_get _ h4) ⟨by decide,by omega,⟨by omega,by omega⟩,?_⟩⟩
  refine wr_at (he2 _ _ hc1) (by simp [S4.cells]; omega) rfl ?_
  rw [S4.cells_put _ h4]
  refine ⟨_,_,_,_,S4.rd (s:=s.with1 b) (Heap.set_self _ _ _),?_⟩
  refine S4.wr (s.with1 b) (by rw [Heap.set_ne _ _ (Ne.symm hij)]; exact hc2) ?_
  refine ⟨_,_,_,_,S4.rd (s:=s.with1 b) (Heap.set_self _ _ _),?_⟩
  exact hk _ (((he1.trans he2).set hi _).set (he1.free hj) _)
theorem Has_c {H:Heap} {s:S4} {b:Nat} {Q:QT} {E:ET} (hb:b≤255)
    (hk:∀ H',Ext H H'→Q (.bool (s.has b)) H'):Does Pr 73 #[.agg s.cells,.int .u8 b] H Q E:=by
  refine zqf_fn _ _ _ _ _ Q E H ?_
  unfold zqf
  refine nw_ext fun i H1 hi he1 hc1=>?_
  have hc1:H1 i=some (.cells s.cells 46 (0,0)):=hc1
  have hx:IntKind.wrap .u8 (Int.tdiv (b:Int) 64)=((b / 64:Nat):Int):=u8_nat (b / 64) (by omega)
  have hm:Int.tmod (b:Int) 64=((b % 64:Nat):Int):=rfl
  have h4:b / 64 < 4:=by omega
  rw [hx,hm]
  simp only [add_at,Int.toNat_natCast,Nat.mul_one,Nat.zero_add]
  exact ⟨by decide,⟨by omega,by omega⟩,ldI_at hc1 (S4.cells_get _ h4) ⟨by decide,by omega,hk _ he1⟩⟩
theorem Range_c {H:Heap} {a b:Nat} {Q:QT} {E:ET} (ha:a≤255) (hb:b≤255)
    (hk:∀ H',Ext H H'→Q (.agg (S4.zero.with_ a b).cells) H'):Does Pr 122 #[.int .i64 a,.int .i64 b] H Q E:=by
  refine zqj2_fn _ _ Q E H ?_
  unfold zqj2 zqj2_15
  refine nw_ext fun j H1 hj he1 hc1=>?_
  refine nw_ext fun i H2 hi he2 hc2=>?_
  have hij:j ≠ i:=ne_of hc1 hi
  unfold zqj2_11 zqj2_8
  refine ⟨fun x Hc=>∃ n:Nat,x=((a+n:Nat):Int)∧n≤b+1 - a∧Ext H Hc∧Hc i=some (.cells (S4.zero.withN a n).cells 46 (0,0))∧Hc j=some (.cells S4.zero.cells 46 (0,0)),
    fun x _=>(b+1 - x).toNat,⟨0,by simp,by omega,he1.trans he2,hc2,he2 _ _ hc1⟩,?_⟩
  rintro x Hc ⟨n,rfl,hn,he,hci,hcj⟩
  unfold zqj2_5
  refine sel_dec (fun hd=>?_) (fun hd=>?_)
  · unfold zqj2_3
    simp only [ptr_some]
    refine ⟨_,_,_,_,S4.rd hci,?_⟩
    rw [u8_nat (a+n) (by omega)]
    refine With_c (s:=S4.zero.withN a n) (b:=a+n) (by omega) fun H5 he5=>?_
    refine ⟨_,_,_,_,rfl,?_⟩
    refine S4.wr (S4.zero.withN a (n+1)) (he5 _ _ hci) ?_
    have hw:IntKind.wrap .i64 (((a+n:Nat):Int)+1)=((a+(n+1):Nat):Int):=by rw [IntWalk.i64_in _ (by omega)]; omega
    rw [hw]
    exact ⟨⟨n+1,rfl,by omega,(he.trans he5).set (he1.free hi) _,Heap.set_self _ _ _,by rw [Heap.set_ne _ _ hij]; exact he5 _ _ hcj⟩,by omega⟩
  · have hn':n=b+1 - a:=by omega
    subst hn'
    unfold zqj2_1
    simp only [ptr_some]
    refine ⟨_,_,_,_,S4.rd hci,S4.wr (S4.zero.with_ a b) hcj ⟨_,_,_,_,S4.rd (s:=S4.zero.with_ a b) (Heap.set_self _ _ _),?_⟩⟩
    exact hk _ (he.set hj _)
theorem Union_c {H:Heap} {s t:S4} {Q:QT} {E:ET}
    (hk:∀ H',Ext H H'→Q (.agg (s.or t).cells) H'):Does Pr 117 #[.agg s.cells,.agg t.cells] H Q E:=by
  refine zqt_fn _ _ _ _ _ _ _ _ Q E H ?_
  unfold zqt
  refine nw_ext fun i H1 hi he1 hc1=>?_
  refine nw_ext fun j H2 hj he2 hc2=>?_
  refine nw_ext fun k H3 hk3 he3 hc3=>?_
  have hij:i ≠ j:=ne_of hc1 hj
  have hik:i ≠ k:=ne_of (he2 _ _ hc1) hk3
  have hc3:H3 k=some (.cells S4.zero.cells 46 (0,0)):=hc3
  have hjk:j ≠ k:=ne_of hc2 hk3
  unfold zqt_11 zqt_8
  refine ⟨fun x Hc=>∃ n:Nat,x=(n:Nat)∧n≤4∧Ext H Hc∧Hc i=some (.cells (s.orN t n).cells 46 (0,0))∧Hc j=some (.cells t.cells 46 (0,0))∧Hc k=some (.cells S4.zero.cells 46 (0,0)),
    fun x _=>(4 - x).toNat,⟨0,by simp,by omega,(he1.trans he2).trans he3,he3 _ _ (he2 _ _ hc1),he3 _ _ hc2,hc3⟩,?_⟩
  rintro x Hc ⟨n,rfl,hn,he,hci,hcj,hck⟩
  unfold zqt_5
  refine sel_dec (fun hd=>?_) (fun hd=>?_)
  · have h4:n < 4:=by omega
    unfold zqt_3
    simp only [ptr_some,add_at,Int.toNat_natCast,Nat.mul_one,Nat.zero_add]
    refine ⟨⟨by omega,by omega⟩,ldI_at hci (S4.cells_get _ h4) ⟨⟨by omega,by omega⟩,ldI_at hcj (S4.cells_get _ h4) ⟨⟨by omega,by omega⟩,?_⟩⟩⟩
    refine wr_at hci (by simp [S4.cells]; omega) rfl ?_
    rw [S4.cells_put _ h4]
    have hw:IntKind.wrap .i64 ((n:Int)+1)=((n+1:Nat):Int):=by rw [IntWalk.i64_in _ (by omega)]; omega
    rw [hw]
    exact ⟨⟨n+1,rfl,by omega,he.set hi _,Heap.set_self _ _ _,by rw [Heap.set_ne _ _ (Ne.symm hij)]; exact hcj,by rw [Heap.set_ne _ _ (Ne.symm hik)]; exact hck⟩,by omega⟩
  · obtain rfl:n=4:=by omega
    unfold zqt_1
    simp only [ptr_some]
    refine ⟨_,_,_,_,S4.rd hci,S4.wr (s.or t) hck ⟨_,_,_,_,S4.rd (s:=s.or t) (Heap.set_self _ _ _),?_⟩⟩
    exact hk _ (he.set ((he1.trans he2).free hk3) _)
theorem Not_c {H:Heap} {s:S4} {Q:QT} {E:ET}
    (hk:∀ H',Ext H H'→Q (.agg s.not.cells) H'):Does Pr 107 #[.agg s.cells] H Q E:=by
  refine zqo_fn _ _ _ _ Q E H ?_
  unfold zqo
  refine nw_ext fun i H1 hi he1 hc1=>?_
  refine nw_ext fun j H2 hj he2 hc2=>?_
  have hij:i ≠ j:=ne_of hc1 hj
  have hc2:H2 j=some (.cells S4.zero.cells 46 (0,0)):=hc2
  unfold zqo_11 zqo_8
  refine ⟨fun x Hc=>∃ n:Nat,x=(n:Nat)∧n≤4∧Ext H Hc∧Hc i=some (.cells (s.notN n).cells 46 (0,0))∧Hc j=some (.cells S4.zero.cells 46 (0,0)),
    fun x _=>(4 - x).toNat,⟨0,by simp,by omega,he1.trans he2,he2 _ _ hc1,hc2⟩,?_⟩
  rintro x Hc ⟨n,rfl,hn,he,hci,hcj⟩
  unfold zqo_5
  refine sel_dec (fun hd=>?_) (fun hd=>?_)
  · have h4:n < 4:=by omega
    unfold zqo_3
    simp only [ptr_some,add_at,Int.toNat_natCast,Nat.mul_one,Nat.zero_add]
    refine ⟨⟨by omega,by omega⟩,ldI_at hci (S4.cells_get _ h4) ⟨⟨by omega,by omega⟩,?_⟩⟩
    refine wr_at hci (by simp [S4.cells]; omega) rfl ?_
    rw [S4.cells_put _ h4]
    have hw:IntKind.wrap .i64 ((n:Int)+1)=((n+1:Nat):Int):=by rw [IntWalk.i64_in _ (by omega)]; omega
    rw [hw]
    exact ⟨⟨n+1,rfl,by omega,he.set hi _,Heap.set_self _ _ _,by rw [Heap.set_ne _ _ (Ne.symm hij)]; exact hcj⟩,by omega⟩
  · obtain rfl:n=4:=by omega
    unfold zqo_1
    simp only [ptr_some]
    refine ⟨_,_,_,_,S4.rd hci,S4.wr s.not hcj ⟨_,_,_,_,S4.rd (s:=s.not) (Heap.set_self _ _ _),?_⟩⟩
    exact hk _ (he.set (he1.free hj) _)
def markB (b:Nat):Bool:=decide (33≤b∧b≤47∨58≤b∧b≤64∨91≤b∧b≤96∨123≤b∧b≤126)
theorem mark_c {H:Heap} {b:Nat} {Q:QT} {E:ET} (hk:Q (.bool (markB b)) H):Does Pr 123 #[.int .u8 b] H Q E:=by
  refine zqk2_fn _ Q E H ?_
  have yes:(33≤b∧b≤47∨58≤b∧b≤64∨91≤b∧b≤96∨123≤b∧b≤126)→Q (.bool true) H:=fun h=>by
    have e:markB b=true:=decide_eq_true h
    rwa [e] at hk
  have no:¬ (33≤b∧b≤47∨58≤b∧b≤64∨91≤b∧b≤96∨123≤b∧b≤126)→Q (.bool false) H:=fun h=>by
    have e:markB b=false:=decide_eq_false h
    rwa [e] at hk
  have last:¬ (33≤b∧b≤47∨58≤b∧b≤64∨91≤b∧b≤96)→123≤b→Q (.bool (decide ((b:Int)≤126))) H:=fun h h'=>by
    have e:markB b=decide ((b:Int)≤126):=by unfold markB; exact decide_eq_decide.2 (by omega)
    rwa [e] at hk
  unfold zqk2
  repeat' (refine sel_dec (fun _=>?_) (fun _=>?_))
  all_goals first | exact yes (by omega) | exact no (by omega) | exact last (by omega) (by omega) | (exfalso; omega)
def named8 (c:Nat):S4 × Bool × Bool :=
  if c=110 then (S4.zero.with1 10,true,true) else if c=116 then (S4.zero.with1 9,true,true) else if c=114 then (S4.zero.with1 13,true,true)
  else if c=100 then (S4.zero.with_ 48 57,false,true)
  else if c=119 then (((S4.zero.with_ 97 122).or (S4.zero.with_ 65 90)).or ((S4.zero.with_ 48 57).or (S4.zero.with1 95)),false,true)
  else if c=115 then (((S4.zero.with1 32).or (S4.zero.with_ 9 10)).or (S4.zero.with1 13),false,true)
  else if markB c=true then (S4.zero.with1 c,true,true) else (S4.zero,false,false)
theorem named8_c {H:Heap} {b:Nat} {Q:QT} {E:ET} (hb:b≤255)
    (hk:∀ H' s x y,Ext H H'→named8 b=(s,x,y)→Q (.tuple #[.agg s.cells,.bool x,.bool y]) H'):Does Pr 116 #[.int .u8 b] H Q E:=by
  refine zqs_fn _ Q E H ?_
  unfold zqs
  refine nw_ext fun i H1 hi he1 hc1=>?_
  have hc1:H1 i=some (.cells S4.zero.cells 46 (0,0)):=hc1
  have fin:∀ (s:S4) (x y:Bool) (H5:Heap),named8 b=(s,x,y)→Ext H1 H5→wr ⟨i,0,none⟩ [.int .u64 s.a,.int .u64 s.b,.int .u64 s.c,.int .u64 s.d] H5 fun H6 =>
      ∃ n1 n2 n3 n4:Int,H6.rd ⟨i,0,none⟩ 0 [(.int .u64 n1),(.int .u64 n2),(.int .u64 n3),(.int .u64 n4)]∧Q (.tuple #[.agg #[(.int .u64 n1),(.int .u64 n2),(.int .u64 n3),(.int .u64 n4)],.bool x,.bool y]) H6:=by
    intro s x y H5 hs he5
    exact S4.wr s (he5 _ _ hc1) ⟨_,_,_,_,S4.rd (s:=s) (Heap.set_self _ _ _),hk _ s x y ((he1.trans he5).set hi _) hs⟩
  unfold zqs_6
  simp only [ptr_some]
  refine sel_beq (fun _=>?_) (fun _=>?_)
  · refine With_c (s:=S4.zero) (b:=10) (by omega) fun H5 he5=>?_
    exact ⟨_,_,_,_,rfl,fin (S4.zero.with1 10) true true H5 (by unfold named8; rw [if_pos (by omega)]) he5⟩
  refine sel_beq (fun _=>?_) (fun _=>?_)
  · refine With_c (s:=S4.zero) (b:=9) (by omega) fun H5 he5=>?_
    exact ⟨_,_,_,_,rfl,fin (S4.zero.with1 9) true true H5 (by unfold named8; rw [if_neg (by omega),if_pos (by omega)]) he5⟩
  refine sel_beq (fun _=>?_) (fun _=>?_)
  · refine With_c (s:=S4.zero) (b:=13) (by omega) fun H5 he5=>?_
    exact ⟨_,_,_,_,rfl,fin (S4.zero.with1 13) true true H5 (by unfold named8; rw [if_neg (by omega),if_neg (by omega),if_pos (by omega)]) he5⟩
  refine sel_beq (fun _=>?_) (fun _=>?_)
  · refine Range_c (a:=48) (b:=57) (by omega) (by omega) fun H5 he5=>?_
    exact ⟨_,_,_,_,rfl,fin (S4.zero.with_ 48 57) false true H5 (by unfold named8; rw [if_neg (by omega),if_neg (by omega),if_neg (by omega),if_pos (by omega)]) he5⟩
  refine sel_beq (fun _=>?_) (fun _=>?_)
  · refine Range_c (a:=97) (b:=122) (by omega) (by omega) fun H5 he5=>⟨_,_,_,_,rfl,?_⟩
    refine Range_c (a:=65) (b:=90) (by omega) (by omega) fun H6 he6=>⟨_,_,_,_,rfl,?_⟩
    refine Union_c (s:=S4.zero.with_ 97 122) (t:=S4.zero.with_ 65 90) fun H7 he7=>⟨_,_,_,_,rfl,?_⟩
    refine Range_c (a:=48) (b:=57) (by omega) (by omega) fun H8 he8=>⟨_,_,_,_,rfl,?_⟩
    refine With_c (s:=S4.zero) (b:=95) (by omega) fun H9 he9=>⟨_,_,_,_,rfl,?_⟩
    refine Union_c (s:=S4.zero.with_ 48 57) (t:=S4.zero.with1 95) fun H10 he10=>⟨_,_,_,_,rfl,?_⟩
    refine Union_c (s:=(S4.zero.with_ 97 122).or (S4.zero.with_ 65 90)) (t:=(S4.zero.with_ 48 57).or (S4.zero.with1 95)) fun H11 he11=>⟨_,_,_,_,rfl,?_⟩
    exact fin (((S4.zero.with_ 97 122).or (S4.zero.with_ 65 90)).or ((S4.zero.with_ 48 57).or (S4.zero.with1 95))) false true H11
      (by unfold named8; rw [if_neg (by omega),if_neg (by omega),if_neg (by omega),if_neg (by omega),if_pos (by omega)]) ((((((he5.trans he6).trans he7).trans he8).trans he9).trans he10).trans he11)
  refine sel_beq (fun _=>?_) (fun _=>?_)
  · refine With_c (s:=S4.zero) (b:=32) (by omega) fun H5 he5=>⟨_,_,_,_,rfl,?_⟩
    refine Range_c (a:=9) (b:=10) (by omega) (by omega) fun H6 he6=>⟨_,_,_,_,rfl,?_⟩
    refine Union_c (s:=S4.zero.with1 32) (t:=S4.zero.with_ 9 10) fun H7 he7=>⟨_,_,_,_,rfl,?_⟩
    refine With_c (s:=S4.zero) (b:=13) (by omega) fun H8 he8=>⟨_,_,_,_,rfl,?_⟩
    refine Union_c (s:=(S4.zero.with1 32).or (S4.zero.with_ 9 10)) (t:=S4.zero.with1 13) fun H9 he9=>⟨_,_,_,_,rfl,?_⟩
    exact fin (((S4.zero.with1 32).or (S4.zero.with_ 9 10)).or (S4.zero.with1 13)) false true H9
      (by unfold named8; rw [if_neg (by omega),if_neg (by omega),if_neg (by omega),if_neg (by omega),if_neg (by omega),if_pos (by omega)]) ((((he5.trans he6).trans he7).trans he8).trans he9)
  unfold zqs_3
  have base:named8 b=if markB b=true then (S4.zero.with1 b,true,true) else (S4.zero,false,false):=by
    unfold named8; rw [if_neg (by omega),if_neg (by omega),if_neg (by omega),if_neg (by omega),if_neg (by omega),if_neg (by omega)]
  refine mark_c ⟨_,rfl,sel_mk (fun hm=>?_) (fun hm=>?_)⟩
  · refine With_c (s:=S4.zero) (b:=b) hb fun H5 he5=>⟨_,_,_,_,rfl,?_⟩
    simp only [ptr_some]
    exact fin (S4.zero.with1 b) true true H5 (by rw [base,if_pos hm]) he5
  · unfold zqs_1
    simp only [ptr_some]
    exact fin S4.zero false false H1 (by rw [base,if_neg (by simp [hm])]) (Ext.refl _)
def only8 (s:S4):Nat:=((List.range 256).find? s.has).getD 0
theorem only8_le (s:S4):only8 s≤255:=by
  unfold only8
  cases h:(List.range 256).find? s.has with
  | none=>simp
  | some x=>have:=List.mem_of_find?_eq_some h; simp at this ⊢; omega
theorem range_find {p:Nat→Bool} {n m:Nat} (hn:∀ k,k < n→p k=false) (h:p n=true) (hm:n < m):(List.range m).find? p=some n:=by
  rw [List.find?_eq_some_iff_getElem]
  refine ⟨h,n,by simpa using hm,by simp,fun j hj=>by simp [hn j hj]⟩
set_option maxRecDepth 20000 in
theorem only8_c {H:Heap} {s:S4} {Q:QT} {E:ET}
    (hk:∀ H',Ext H H'→Q (.int .i64 (only8 s:Nat)) H'):Does Pr 125 #[.agg s.cells] H Q E:=by
  refine zqm2_fn _ _ _ _ Q E H ?_
  unfold zqm2
  refine nw_ext fun i H1 hi he1 hc1=>?_
  have hc1:H1 i=some (.cells s.cells 46 (0,0)):=hc1
  unfold zqm2_14 zqm2_11
  refine ⟨fun x Hc=>∃ n:Nat,x=(n:Nat)∧n≤256∧Ext H1 Hc∧∀ k,k < n→s.has k=false,fun x _=>(256 - x).toNat,⟨0,rfl,by omega,Ext.refl _,by intro k hk; omega⟩,?_⟩
  rintro x Hc ⟨n,rfl,hn,he,hf⟩
  unfold zqm2_8
  refine sel_dec (fun hd=>?_) (fun hd=>?_)
  · unfold zqm2_5
    simp only [ptr_some]
    refine ⟨_,_,_,_,S4.rd (he _ _ hc1),?_⟩
    rw [u8_nat n (by omega)]
    refine Has_c (s:=s) (by omega) fun H5 he5=>⟨_,rfl,sel_mk (fun hh=>?_) (fun hh=>?_)⟩
    · have:only8 s=n:=by unfold only8; rw [range_find hf hh (by omega)]; rfl
      rw [this] at hk
      exact hk _ ((he1.trans he).trans he5)
    · unfold zqm2_3
      have hw:IntKind.wrap .i64 ((n:Int)+1)=((n+1:Nat):Int):=by rw [IntWalk.i64_in _ (by omega)]; omega
      rw [hw]
      refine ⟨⟨n+1,rfl,by omega,he.trans he5,fun k hk=>?_⟩,by omega⟩
      by_cases h:k=n
      · subst h; exact hh
      · exact hf k (by omega)
  · unfold zqm2_1
    have:only8 s=0:=by
      unfold only8
      rw [List.find?_eq_none.2 (fun x hx=>by have:=hf x (by simp at hx; omega); simp [this])]; rfl
    rw [this] at hk
    exact hk _ (he1.trans he)
end Go.Proofs.Ytaffcoiomggpfaa
/- Relations between places: package r09 (3): leaf; what nodes mean,without fuel. -/
namespace Go.Proofs.Ytaffcoiomggpfaa
open Go.V
attribute [local irreducible] app
set_option linter.constructorNameAsVariable false
set_option linter.unusedVariables false
theorem byt_get {H:Heap} {p:OA} {n c i:Nat} {bs:List UInt8} {w:UInt8} {K:Int→Prop} (h:Byt H p n c bs) (hw:bs[i]?=some w) (hK:K (w.toNat:Nat)) :
    (0≤(i:Int)∧(i:Int) < ((n:Nat):Int))∧ptr p fun q=>ldI .u8 (Addr.add q ((i:Int).toNat * 1)) H K:=by
  obtain ⟨h1,h2,h3⟩:=h
  have hlt:=(List.getElem?_eq_some_iff.1 hw).1
  refine ⟨⟨by omega,by omega⟩,?_⟩
  cases p with
  | none =>
    have:bs.map byteV=[]:=h3
    simp at this; subst this; simp at hlt
  | some ad =>
    have hcell:H.cell? (ad.add (0+i))=some (byteV w):=rd_get h3 (by simp [hw])
    rw [Nat.zero_add] at hcell
    simp only [ptr_some,Int.toNat_natCast,Nat.mul_one]
    exact ⟨(w.toNat:Nat),hcell,hK⟩
theorem byte_ten (w:UInt8):(((w.toNat:Nat):Int) == 10)=true↔w.toNat=10:=by simp; omega
theorem text_at {bs:List UInt8} {i:Nat} {w:UInt8} (h:bs[i]?=some w):(bs.map UInt8.toNat)[i]?=some w.toNat:=by simp [h]
/-! ### The meaning without fuel -/
theorem kids_of {l:List Nd} {g:Nat→Nat} (hz:Sz l g) {n:Nat} (hn:n < l.length) :
    ((l.getD n default).k=3∨(l.getD n default).k=4→(l.getD n default).l.toNat < n∧(l.getD n default).r.toNat < n∧0≤(l.getD n default).l∧0≤(l.getD n default).r) ∧
    ((l.getD n default).k=5∨(l.getD n default).k=6∨(l.getD n default).k=7→(l.getD n default).l.toNat < n∧0≤(l.getD n default).l) ∧
    (¬ ((l.getD n default).k=3∨(l.getD n default).k=4∨(l.getD n default).k=5∨(l.getD n default).k=6∨(l.getD n default).k=7)→(l.getD n default).k=1∨(l.getD n default).k=2∨(l.getD n default).k=8∨(l.getD n default).k=9):=by
  obtain ⟨x,hx⟩:∃ x,l[n]?=some x:=⟨_,List.getElem?_eq_getElem hn⟩
  have hxd:l.getD n default=x:=by rw [List.getD_eq_getElem?_getD,hx]; rfl
  obtain ⟨g1,g2,g3⟩:=hz n x hx
  rw [hxd]
  have hkk:(kidsOf x.k=0→x.k=1∨x.k=2∨x.k=8∨x.k=9)∧(kidsOf x.k=1→x.k=5∨x.k=6∨x.k=7)∧(kidsOf x.k=2→x.k=3∨x.k=4):=by
    unfold kidsOf
    split
    · simp; omega
    · split
      · simp; omega
      · split <;> simp <;> omega
  refine ⟨fun h=>?_,fun h=>?_,fun h=>?_⟩
  · rcases g3 with g3 | g3 | g3
    · have:=hkk.1 g3; omega
    · have:=hkk.2.1 g3.1; omega
    · omega
  · rcases g3 with g3 | g3 | g3
    · have:=hkk.1 g3; omega
    · omega
    · have:=hkk.2.2 g3.1; omega
  · rcases g3 with g3 | g3 | g3
    · exact hkk.1 g3
    · have:=hkk.2.1 g3.1; omega
    · have:=hkk.2.2 g3.1; omega
end Go.Proofs.Ytaffcoiomggpfaa
/- Spreading reaches what can be reached without a byte. -/
namespace Go.Proofs.Ytaffcoiomggpfaa
open Go.V
attribute [local irreducible] app
set_option linter.unusedVariables false
inductive Rch (st:List Nd) (bol eol:Bool):Nat→Nat→Prop where
  | here (j:Nat):Rch st bol eol j j
  | more {j s k:Nat}:s ∈ goes st bol eol j→Rch st bol eol s k→Rch st bol eol j k
theorem Rch.snoc {st:List Nd} {bol eol:Bool} {j s k:Nat} (h:Rch st bol eol j s) (hk:k ∈ goes st bol eol s):Rch st bol eol j k:=by
  induction h with
  | here j=>exact .more hk (.here _)
  | more h1 _ ih=>exact .more h1 (ih hk)
theorem spreadL_from {st:List Nd} (bol eol:Bool) {P:Nat→Prop} (hP:∀ j,P j→∀ s ∈ goes st bol eol j,P s):∀ (f i:Nat) (m:Bool) (l:List Nat),(∀ j ∈ l,P j)→∀ j ∈ (spreadL st bol eol f i m l).1,P j
  | 0,i,m,l,hl,j,hj=>hl j hj
  | f+1,i,m,l,hl,j,hj=>by
    rw [spreadL_step] at hj
    split at hj
    · rename_i hlt
      refine spreadL_from bol eol hP f (i+1) _ _ (fun k hk=>?_) j hj
      rcases ((foldl_addL _ l).2 k).1 hk with hk | hk
      · exact hl k hk
      · refine hP _ (hl _ ?_) k hk
        rw [List.getD_eq_getElem?_getD,List.getElem?_eq_getElem hlt]
        exact List.getElem_mem hlt
    · exact hl j hj
theorem spread_mem {st:List Nd} (hr:InR st) (bol eol:Bool) {l:List Nat} (ho:OkL st.length l) (k:Nat):k ∈ (spread st bol eol l).1↔∃ j ∈ l,Rch st bol eol j k:=by
  have h1:=spreadL_spec hr bol eol (st.length+1) 0 false l ho (by omega) (by omega) (by simp) (by simp)
  change (∃ r,(spread st bol eol l).1=l++r)∧(∀ j ∈ (spread st bol eol l).1,∀ s ∈ goes st bol eol j,s ∈ (spread st bol eol l).1)∧(spread st bol eol l).2=(spread st bol eol l).1.any (isM st) at h1
  obtain ⟨⟨r,e⟩,hc,_⟩:=h1
  constructor
  · exact fun hk=>spreadL_from bol eol (P:=fun k=>∃ j ∈ l,Rch st bol eol j k) (fun j ⟨j0,h0,hr0⟩ s hs=>⟨j0,h0,hr0.snoc hs⟩) _ _ _ _ (fun j hj=>⟨j,hj,.here j⟩) k hk
  · rintro ⟨j,hj,hrch⟩
    have hj':j ∈ (spread st bol eol l).1:=by rw [e]; exact List.mem_append_left _ hj
    clear hj
    induction hrch with
    | here j=>exact hj'
    | more h1 _ ih=>exact ih (hc _ hj' _ h1)
theorem spread_match {st:List Nd} (hr:InR st) (bol eol:Bool) {l:List Nat} (ho:OkL st.length l):(spread st bol eol l).2=(spread st bol eol l).1.any (isM st):=by
  have h1:=spreadL_spec hr bol eol (st.length+1) 0 false l ho (by omega) (by omega) (by simp) (by simp)
  exact h1.2.2
end Go.Proofs.Ytaffcoiomggpfaa
/- The whole automaton of a pattern. -/
namespace Go.Proofs.Ytaffcoiomggpfaa
open Go.V
attribute [local irreducible] app
set_option linter.unusedVariables false
theorem setLR_get (st:List Nd) (v:Int) (i:Nat):(setLR st v).getD i default=if i=0∧i < st.length then { st.getD i default with l:=v,r:=v } else st.getD i default:=by
  unfold setLR
  rw [List.getD_eq_getElem?_getD,List.getD_eq_getElem?_getD,List.getElem?_modify]
  by_cases h:0=i
  · subst h
    by_cases hl:0 < st.length
    · rw [if_pos ⟨rfl,hl⟩,List.getElem?_eq_getElem hl]; simp
    · rw [if_neg (fun h=>hl h.2),List.getElem?_eq_none (by omega)]; simp
  · rw [if_neg (fun h'=>h h'.1.symm)]; simp [h]
theorem acc_build {t:List Nat} (l:List Nd) (i k:Nat):(∃ m,Acc (buildOf l) t 1 k m 0 i)↔mean t l l.length (l.length - 1) i k:=by
  obtain ⟨new,hnew⟩:=bd_app l l.length (l.length - 1) 1 [⟨2,0,0,0,0,0,0⟩,⟨5,0,0,0,0,0,0⟩]
  have hb:buildOf l=setLR (bd l l.length (l.length - 1) 1 [⟨2,0,0,0,0,0,0⟩,⟨5,0,0,0,0,0,0⟩]).2 (bd l l.length (l.length - 1) 1 [⟨2,0,0,0,0,0,0⟩,⟨5,0,0,0,0,0,0⟩]).1:=rfl
  have hup:=up (st:=buildOf l) (t:=t) (l:=l) (g:=1) (k:=k) l.length (l.length - 1) 1 [⟨2,0,0,0,0,0,0⟩,⟨5,0,0,0,0,0,0⟩] i
  have hdn:=fun N=>down (st:=buildOf l) (t:=t) (l:=l) (g:=1) (k:=k) l.length (l.length - 1) 1 [⟨2,0,0,0,0,0,0⟩,⟨5,0,0,0,0,0,0⟩] i N
  generalize bd l l.length (l.length - 1) 1 [⟨2,0,0,0,0,0,0⟩,⟨5,0,0,0,0,0,0⟩]=X at hnew hb hup hdn
  obtain ⟨first,T⟩:=X
  dsimp only at hnew hb hup hdn
  have hlen:2≤T.length:=by rw [hnew]; simp
  have hhas:Has (buildOf l) T ([⟨2,0,0,0,0,0,0⟩,⟨5,0,0,0,0,0,0⟩]:List Nd).length:=fun j h1 h2=>by
    have h1:2≤j:=h1
    rw [hb,setLR_get,if_neg (by omega)]
  have h0:(buildOf l).getD 0 default=⟨2,first,first,0,0,0,0⟩:=by
    rw [hb,setLR_get,if_pos ⟨rfl,by omega⟩,hnew]; rfl
  have h1:(buildOf l).getD 1 default=⟨5,0,0,0,0,0,0⟩:=by
    rw [hb,setLR_get,if_neg (by omega),hnew]; rfl
  constructor
  · rintro ⟨N,ha⟩
    obtain ⟨m,q',i',rfl,hs,ha2⟩:=acc_step ha (by decide)
    obtain ⟨rfl,hs2⟩:=step_split h0 hs
    have hq:q'=first:=by rcases hs2 with h | h <;> simpa using h
    subst hq
    obtain ⟨j,m2,_,hm,ha3⟩:=hdn m hhas (by decide) ha2
    cases ha3 with
    | here=>exact hm
    | step hs _ =>
      unfold Step at hs
      dsimp only at hs
      rw [h1] at hs
      rcases hs with ⟨h,_⟩ | ⟨h,_⟩ | ⟨h,_⟩ | ⟨h,_⟩ <;> simp at h
  · intro hm
    obtain ⟨m,ha⟩:=hup k hhas hm ⟨0,.here⟩
    refine ⟨m+1,.step (.inl ?_) ha⟩
    rw [h0]; exact ⟨rfl,rfl,.inl rfl⟩
end Go.Proofs.Ytaffcoiomggpfaa
/- What a set of states accepts. -/
namespace Go.Proofs.Ytaffcoiomggpfaa
open Go.V
attribute [local irreducible] app
set_option linter.unusedVariables false
theorem goes_step {st:List Nd} {t:List Nat} {bol eol:Bool} {i j s:Nat} (hb:bol=true→bolAt t i) (he:eol=true→eolAt t i) (h:s ∈ goes st bol eol j):Step st t j i s i:=by
  unfold goes at h
  unfold Step
  dsimp only
  split at h
  · rename_i h2
    simp only [List.mem_cons,List.not_mem_nil,or_false] at h
    exact .inl ⟨h2,rfl,h.symm⟩
  · split at h
    · rename_i h3
      simp only [List.mem_cons,List.not_mem_nil,or_false] at h
      rcases h3 with ⟨h3,hb'⟩ | ⟨h3,he'⟩
      · exact .inr (.inl ⟨h3,hb hb',rfl,h⟩)
      · exact .inr (.inr (.inl ⟨h3,he he',rfl,h⟩))
    · simp at h
theorem mem_readL {st:List Nd} {b:Nat} {k:Nat} (l:List Nat):k ∈ readL st b l↔∃ q ∈ l,(st.getD q default).k=1∧(st.getD q default).set.has b=true∧k=(st.getD q default).l.toNat:=by
  have key:∀ (l acc:List Nat),k ∈ l.foldl (fun acc i=>if (st.getD i default).k=1∧(st.getD i default).set.has b=true then addL acc (st.getD i default).l.toNat else acc) acc ↔
      k ∈ acc∨∃ q ∈ l,(st.getD q default).k=1∧(st.getD q default).set.has b=true∧k=(st.getD q default).l.toNat:=by
    intro l
    induction l with
    | nil=>intro acc; simp
    | cons x l ih =>
      intro acc
      rw [List.foldl_cons,ih]
      by_cases hx:(st.getD x default).k=1∧(st.getD x default).set.has b=true
      · rw [if_pos hx,mem_addL]
        constructor
        · rintro ((h | h) | ⟨q,hq,h⟩)
          · exact .inl h
          · exact .inr ⟨x,by simp,hx.1,hx.2,h⟩
          · exact .inr ⟨q,by simp [hq],h⟩
        · rintro (h | ⟨q,hq,h⟩)
          · exact .inl (.inl h)
          · rcases List.mem_cons.1 hq with rfl | hq
            · exact .inl (.inr h.2.2)
            · exact .inr ⟨q,hq,h⟩
      · rw [if_neg hx]
        constructor
        · rintro (h | ⟨q,hq,h⟩)
          · exact .inl h
          · exact .inr ⟨q,by simp [hq],h⟩
        · rintro (h | ⟨q,hq,h⟩)
          · exact .inl h
          · rcases List.mem_cons.1 hq with rfl | hq
            · exact absurd ⟨h.1,h.2.1⟩ hx
            · exact .inr ⟨q,hq,h⟩
  have:=key l []
  unfold readL
  rw [this]
  simp
end Go.Proofs.Ytaffcoiomggpfaa
/- To which places the automaton leads. -/
namespace Go.Proofs.Ytaffcoiomggpfaa
open Go.V
attribute [local irreducible] app
set_option linter.unusedVariables false
theorem spread_one {st:List Nd} (hr:InR st) (h5:∀ j,j < st.length→((st.getD j default).k=5↔j=1)) (bol eol:Bool) {l:List Nat} (ho:OkL st.length l):(spread st bol eol l).2=true↔1 ∈ (spread st bol eol l).1:=by
  have hok:=spread_ok hr bol eol ho
  rw [spread_match hr bol eol ho,List.any_eq_true]
  constructor
  · rintro ⟨j,hj,hm⟩
    have:j=1:=(h5 j (hok.2 j hj)).1 (of_decide_eq_true hm)
    rw [← this]; exact hj
  · exact fun h=>⟨1,h,decide_eq_true ((h5 1 (hok.2 1 h)).2 rfl)⟩
end Go.Proofs.Ytaffcoiomggpfaa
